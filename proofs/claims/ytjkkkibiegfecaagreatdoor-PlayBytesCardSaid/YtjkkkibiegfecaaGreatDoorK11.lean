/- Texts put behind each other. -/
import Derived.Test.YtjkkkibiegfecaaGreatDoorK10
set_option linter.unusedSimpArgs false
set_option linter.unusedVariables false
set_option maxRecDepth 100000
set_option maxHeartbeats 8000000
namespace Go.Vc
section
variable{a:Act}{q:List Nat}{o:Oper}{g i j:Nat}
abbrev Env:=List (Nat×Value)
def Env.find:Env->Nat->Option Value
 | [],_=>none
 | (k,v)::r,n=>bif k==n then some v else Env.find r n
@[go_sem] theorem Env.Wb(n:Nat):Env.find [] n=none:=(rfl)
@[go_sem] theorem Env.UR(k n:Nat)(v:Value)(r:Env):Env.find ((k,v)::r) n=bif k==n then some v else Env.find r n:=(rfl)
def Env.ev(env:Env):Ev
 | .tmp t=>Env.find env t
 | .const v=>some v
 | .global g=>some (.pointer (some ⟨g,0,none⟩))
 | .func f=>some (.func (.func f) #[] #[])
@[go_sem] theorem Env.Z3(env:Env)(t:Nat):Env.ev env (.tmp t)=Env.find env t:=(rfl)
@[go_sem] theorem Env.Wc(env:Env)(v:Value):Env.ev env (.const v)=some v:=(rfl)
@[go_sem] theorem Env.US(env:Env)(g:Nat):Env.ev env (.global g)=some (.pointer (some ⟨g,0,none⟩)):=(rfl)
@[go_sem] theorem Env.YF(env:Env)(f:Nat):Env.ev env (.func f)=some (.func (.func f) #[] #[]):=(rfl)
def Env.put(env:Env)(dst:Option Nat)(v:Value):Env:=match dst with|some d=>(d,v)::env|none=>env
@[go_sem] theorem Env.Wd(env:Env)(d:Nat)(v:Value):Env.put env (some d) v=(d,v)::env:=(rfl)
@[go_sem] theorem Env.We(env:Env)(v:Value):Env.put env none v=env:=(rfl)
def Env.be(env:Env):List Nat->Env
 | []=>[]
 |k::x=>match Env.find env k with|some v=>(k,v)::Env.be env x|none=>Env.be env x
def LC(k:Nat)(o:Option Value)(r:Env):Env:=match o with|some v=>(k,v)::r|none=>r
@[go_sem] theorem Sv(k:Nat)(v:Value)(r:Env):LC k (some v) r=(k,v)::r:=(rfl)
@[go_sem] theorem Sw(k:Nat)(r:Env):LC k none r=r:=(rfl)
@[go_sem] theorem Env.Wf(env:Env):Env.be env []=[]:=(rfl)
@[go_sem] theorem Env.Mm(env:Env)(k:Nat)(x:List Nat):Env.be env (k::x)=LC k (Env.find env k) (Env.be env x):=by
 rfl
structure Holds(env:Env)(a:Act)(n:Nat):Prop where
 size:a.tmps.size=n
 defers:a.defers=[]
 xw:∀k v,Env.find env k=some v->a.tmps[k]? =some v
theorem Holds.rH{env:Env}{n:Nat}(h:Holds env a n):bO (Env.ev env) a:=by
 intro x v z;cases x with
 |tmp t=>simp only[Env.ev]at z;simp[Act.eval,h.xw t v z]
 |const u=>injection z with z
 |global g=>injection z with z
 |func f=>injection z with z
theorem Holds.put{env:Env}{n:Nat}(h:Holds env a n){dst:Option Nat}(z:∀d,dst=some d->d<n)(v:Value):Holds (Env.put env dst v) (a.put dst v) n:=by
 cases dst with
 |none=>exact h
 |some d=>
  have w:=z d rfl;refine⟨by simp[Act.put,h.size],by simp[Act.put,h.defers],fun k u x=>?_⟩;simp only[Env.put,Env.find]at x;by_cases e:d=k
  ·subst e;simp at x;subst x;simp[Act.put,h.size,w]
  ·have:(d==k)=false:=by simpa using e
   rw[this]at x;simp only[cond_false]at x;simpa[Act.put,Array.getElem?_setIfInBounds_ne e]using h.xw k u x
theorem Holds.guard{env:Env}{n:Nat}(h:Holds env a n){v:Value}(z:Env.find env g=some v):Holds ((g,v)::env) a n:=by
 refine⟨h.size,h.defers,fun k u x=>?_⟩;simp only[Env.find]at x;by_cases e:g=k
 ·subst e;simp at x;subst x;exact h.xw g v z
 ·have:(g==k)=false:=by simpa using e
  rw[this]at x;exact h.xw k u x
theorem Mn(env:Env):∀ (z:List Nat) (k:Nat) (v:Value),Env.find (Env.be env z) k=some v->Env.find env k=some v:=by
 intro z;induction z with
 |nil=>intro k v h;cases h
 |cons x xs l=>
  intro k v h;rw[Env.Mm]at h;cases w:Env.find env x with
  |none=>rw[w]at h;exact l k v h
  |some u=>
   rw[w]at h;simp only[LC,Env.find]at h;grind
theorem Holds.be{env:Env}{n:Nat}(h:Holds env a n)(x:List Nat):Holds (Env.be env x) a n:=
 ⟨h.size,h.defers,fun k v z=>h.xw k v (Mn env x k v z)⟩
structure eY where
 quiet:Bool
 guard:Option (Nat×Bool)
 dst:Option Nat
 op:dH
 deriving Inhabited
def eY.vc(P:Program)(s:eY)(ev:Ev)(H:Hp)(K:Value->Hp->Prop):Prop:=
 bif s.quiet then∃v,s.op.vc P ev H (fun x J=>x=v/\J=H)/\K v H else s.op.vc P ev H K
@[go_sem ↓] theorem eY.Wg(P:Program)(g:Option (Nat×Bool))(d:Option Nat)(op:dH)(ev:Ev)(H:Hp)(K:Value->Hp->Prop):eY.vc P ⟨false,g,d,op⟩ ev H K=op.vc P ev H K:=(rfl)
@[go_sem ↓] theorem eY.Wh(P:Program)(g:Option (Nat×Bool))(d:Option Nat)(op:dH)(ev:Ev)(H:Hp)(K:Value->Hp->Prop):
  eY.vc P ⟨true,g,d,op⟩ ev H K=∃v,op.vc P ev H (fun x J=>x=v/\J=H)/\K v H:=(rfl)
def Cy(o:Option Value)(F:Bool->Prop)(_t:Tag F:=⟨⟩):Prop:=match o with|some v=>xq v F|none=>False
@[go_sem] theorem RH(v:Value)(F:Bool->Prop):Cy (some v) F=xq v F:=(rfl)
def gV(o:Option Value)(F:Bool->Prop)(N:Prop)(_t:Tag F:=⟨⟩)(_u:Tag N:=⟨⟩):Prop:=
 match o with|some v=>(match v with| .bool b=>ai b F| .tuple _=>N|_=>False)|none=>False
@[go_sem] theorem YG(b:Bool)(F:Bool->Prop)(N:Prop):gV (some (.bool b)) F N=ai b F:=(rfl)
@[go_sem] theorem Wi(F:Bool->Prop)(N:Prop):gV (some undef) F N=N:=(rfl)
theorem Cc{o:Option Value}{F:Bool->Prop}{N:Prop}(h:gV o F N):(∃b,o=some (.bool b)/\F b)\/(∃vs,o=some (.tuple vs)/\N):=by
 unfold gV at h;split at h
 ·rename_i v;split at h
  ·rename_i b;obtain⟨b',e,x⟩:=vO (v:=.bool b) (F:=F) h;grind
  ·grind
  grind
 grind
def hV(P:Program)(K:Env->Hp->Prop):List eY->Env->Hp->Prop
 | [],env,H=>K env H
 |s::r,env,H=>
  match s.guard with
  |none=>s.vc P (Env.ev env) H fun v J=>hV P K r (Env.put env s.dst v) J
  |some (g,want)=>gV (Env.find env g) (fun b=>
   Cx (b==want) (s.vc P (Env.ev ((g,.bool b)::env)) H fun v J=>hV P K r (Env.put ((g,.bool b)::env) s.dst v) J)
    (hV P K r (Env.put ((g,.bool b)::env) s.dst undef) H)) (hV P K r (Env.put env s.dst undef) H)
@[go_sem ↓] theorem UT(P:Program)(K:Env->Hp->Prop)(env:Env)(H:Hp):hV P K [] env H=K env H:=(rfl)
@[go_sem ↓] theorem Sx(P:Program)(K:Env->Hp->Prop)(q:Bool)(d:Option Nat)(op:dH)(r:List eY)(env:Env)(H:Hp):
  hV P K (⟨q,none,d,op⟩::r) env H=eY.vc P ⟨q,none,d,op⟩ (Env.ev env) H fun v J=>hV P K r (Env.put env d v) J:=(rfl)
@[go_sem ↓] theorem RI(P:Program)(K:Env->Hp->Prop)(q:Bool)(g:Nat)(want:Bool)(d:Option Nat)(op:dH)(r:List eY)(env:Env)(H:Hp):
  hV P K (⟨q,some (g,want),d,op⟩::r) env H=gV (Env.find env g) (fun b=>
   Cx (b==want) (eY.vc P ⟨q,none,d,op⟩ (Env.ev ((g,.bool b)::env)) H fun v J=>hV P K r (Env.put ((g,.bool b)::env) d v) J)
    (hV P K r (Env.put ((g,.bool b)::env) d undef) H)) (hV P K r (Env.put env d undef) H):=(rfl)
def oY(P:Program)(n:Nat)(ops:Array Oper)(q:List Nat)(i:Nat)(o:Oper):Option eY:=
 match o.dst with
 |some d=>if d<n then go (some d)else none
 |none=>go none
 where
 go (dst:Option Nat):Option eY:=
  match FS P o with
  |none=>none
  |some op=>
   match o.guard with
   |none=>some ⟨q.contains i,none,dst,op⟩
   |some (j,want)=>match(ops[j]?).bind (·.dst)with
    |some g=>some ⟨q.contains i,some (g,want),dst,op⟩
    |none=>none
def gZ(P:Program)(n:Nat)(ops:Array Oper)(q:List Nat):Nat->List Oper->Option (List eY)
 |_,[]=>some []
 |i,o::r=>
  match oY P n ops q i o with
  |none=>none
  |some s=>(gZ P n ops q (i+1) r).map (s:: ·)
def eY.cls(s:eY):Ie:=match s.op.cls with| .ED=>bif s.quiet then .quiet else .ED|c=>c
def NQ(l:List eY)(i:Nat):Ie:=match l[i]? with|some s=>s.cls|none=>.ED
section
variable {P : Program} {ops : Array Oper} {n : Nat}
theorem jQ{s:eY}(h:oY P n ops q i o=some s):
  FS P o=some s.op/\s.dst=o.dst/\(∀d,o.dst=some d->d<n)/\
   ((o.guard=none/\s.guard=none)\/∃j want g,o.guard=some (j,want)/\(ops[j]?).bind (·.dst)=some g/\s.guard=some (g,want)):=by
 have key:∀dst,oY.go P ops q i o dst=some s->FS P o=some s.op/\s.dst=dst/\
   ((o.guard=none/\s.guard=none)\/∃j want g,o.guard=some (j,want)/\(ops[j]?).bind (·.dst)=some g/\s.guard=some (g,want)):=by
  intro dst h;unfold oY.go at h;split at h
  ·cases h
  ·grind
 unfold oY at h;grind
theorem rI{y:Nat->Option Bool}(h:o.guard=none):Region.wanted o y=true:=by simp[Region.wanted,h]
theorem rJ{want b:Bool}(h:o.guard=some (j,want))(x:(ops[j]?).bind (·.dst)=some g)(z:a.tmps[g]? =some (.bool b)):
  Region.wanted o (yielded ops a.tmps)=(b==want):=by
 have:yielded ops a.tmps j=some b:=by simp[yielded,x,z]
 simp[Region.wanted,h,this]
theorem oZ{want:Bool}{vs:Array Value}(h:o.guard=some (j,want))(x:(ops[j]?).bind (·.dst)=some g)(z:a.tmps[g]? =some (.tuple vs)):
  Region.wanted o (yielded ops a.tmps)=false:=by
 have:yielded ops a.tmps j=none:=by simp[yielded,x,z]
 simp[Region.wanted,h,this]
theorem eY.sound{s:eY}{ev:Ev}{H:Hp}{K:Value->Hp->Prop}(x:FS P o=some s.op)(z:bO ev a)(h:s.vc P ev H K):ej P o a H K:=by
 unfold eY.vc at h;cases w:s.quiet
 ·rw[w]at h;exact(Go.Vc.sound s.op x z h).2
 ·rw[w]at h;obtain⟨v,l,m⟩:=h;exact(Go.Vc.sound s.op x z l).2.mono Z
theorem Kb{K:Env->Hp->Prop}:∀ (l:List Oper) (i:Nat) (ss:List eY),(∀k,l[k]? =ops[i+k]?)->gZ P n ops q i l=some ss->
  ∀ (env:Env) (a:Act) (H:Hp),Holds env a n->hV P K ss env H->Io P ops (fun N J=>∃A,Holds A N n/\K A J) (List.range' i l.length) a H:=by
 intro l;induction l with
 |nil=>
  intro i ss _ x env a H z h;simp only[gZ,ajS]at x;subst x;exact⟨env,z,h⟩
 |cons o l u=>
  intro i ss T x env a H z h;unfold gZ at x;split at x
  ·cases x
  ·rename_i s I;cases m:gZ P n ops q (i+1) l with
   |none=>grind
   |some B=>
    rw[m]at x;simp only[Option.map_some,ajS]at x;subst x;obtain⟨F,c,p,Q⟩:=jQ I;have W:ops[i]? =some o:=by have:=T 0;simpa using this.symm
    have d:∀k,l[k]? =ops[i+1+k]? :=fun k=>by have:=T (k+1);grind
    rw[ajX,List.range'_succ];simp only[Io,W];unfold hV at h;rcases Q with ⟨e,y⟩| ⟨j,want,g,e,y,U⟩
    ·rw[rI e,if_pos rfl];rw[y]at h;refine(eY.sound F z.rH h).mono fun v J w=>?_;rw[c]at w;exact u (i+1) B d m _ _ _ (z.put p v) w
    ·rw[U]at h;rcases Cc h with ⟨b,f,h⟩| ⟨vs,f,h⟩
     ·have V:=rJ (o:=o) e y (z.xw g _ f);rw[V];have L:=z.guard f;cases C:b==want
      ·rw[C]at h;simp only[Cx]at h;rw[if_neg (by simp)];rw[c]at h;exact u (i+1) B d m _ _ _ (L.put p undef) h
      ·rw[C]at h;simp only[Cx]at h;rw[if_pos rfl];refine(eY.sound F L.rH h).mono fun v J w=>?_;rw[c]at w;exact u (i+1) B d m _ _ _ (L.put p v) w
     ·rw[oZ e y (z.xw g _ f),if_neg (by simp)];rw[c]at h;exact u (i+1) B d m _ _ _ (z.put p undef) h
def Wj(P:Program)(s:eY)(env:Env)(H:Hp)(F:Env->Hp->Prop):Prop:=
 match s.guard with
 |none=>s.vc P (Env.ev env) H fun v J=>F (Env.put env s.dst v) J
 |some (g,want)=>gV (Env.find env g) (fun b=>
   Cx (b==want) (s.vc P (Env.ev ((g,.bool b)::env)) H fun v J=>F (Env.put ((g,.bool b)::env) s.dst v) J)
    (F (Env.put ((g,.bool b)::env) s.dst undef) H)) (F (Env.put env s.dst undef) H)
theorem NR{cls:Nat->Ie}{s:eY}{F:Env->Hp->Prop}{G:Act->Hp->Prop}{env:Env}{H:Hp}(W:ops[i]? =some o)(V:oY P n ops q i o=some s)(T:cls i=s.cls)
  (x:Holds env a n)(h:Wj P s env H F)(next:∀B u J,Holds B u n->F B J->G u J):je P ops cls i G a H:=by
 obtain⟨c,y,f,N⟩:=jQ V;have step:∀ (env:Env),Holds env a n->s.vc P (Env.ev env) H (fun v J=>F (Env.put env s.dst v) J)->
   (match cls i with
    | .pure=>∃v,(∀w,(execOp a.eval o).run P w= .ok (.value v) w)/\G (a.put o.dst v) H
    | .quiet=>∃v,ej P o a H (fun M J=>M=v/\J=H)/\G (a.put o.dst v) H
    | .ED=>ej P o a H fun v J=>G (a.put o.dst v) J):=by
  intro env x h;have next':∀v J,F (Env.put env s.dst v) J->G (a.put o.dst v) J:=by
   intro v J C;rw[y]at C;exact next _ _ _ (x.put f v) C
  rw[T];unfold eY.cls;cases A:s.op.cls with
  |pure=>
   have I:s.op.vc P (Env.ev env) H (fun v J=>F (Env.put env s.dst v) J):=by
    unfold eY.vc at h;cases z:s.quiet
    ·grind
    ·grind [LA]
   obtain⟨v,E,X⟩:=(Go.Vc.sound s.op c x.rH I).1 A;grind
  |quiet=>
   unfold eY.vc at h;cases z:s.quiet
   ·rw[z]at h;obtain⟨v,l,m⟩:=NP s.op A h;exact⟨v,(Go.Vc.sound s.op c x.rH l).2,next' _ _ m⟩
   ·rw[z]at h;obtain⟨v,l,m⟩:=h;exact⟨v,(Go.Vc.sound s.op c x.rH l).2,next' _ _ m⟩
  |ED=>
   unfold eY.vc at h;cases z:s.quiet
   ·rw[z]at h;exact(Go.Vc.sound s.op c x.rH h).2.mono next'
   ·rw[z]at h;obtain⟨v,l,m⟩:=h;exact⟨v,(Go.Vc.sound s.op c x.rH l).2,next' _ _ m⟩
 unfold je;simp only[W];unfold Wj at h;rcases N with ⟨d,p⟩| ⟨j,want,g,d,p,Q⟩
 ·grind [rI]
 ·rw[Q]at h;rcases Cc h with ⟨b,e,h⟩| ⟨vs,e,h⟩
  ·have D:=rJ (o:=o) d p (x.xw g _ e);rw[D];have U:=x.guard e;cases L:b==want
   ·rw[L]at h;simp only[Cx]at h;rw[if_neg (by simp)];rw[y]at h;exact next _ _ _ (U.put f undef) h
   ·rw[L]at h;simp only[Cx]at h;grind
  ·rw[oZ d p (x.xw g _ e),if_neg (by simp)];rw[y]at h;exact next _ _ _ (x.put f undef) h
theorem Kc{K:Env->Hp->Prop}{cls:Nat->Ie}:∀ (l:List Oper) (i:Nat) (ss:List eY),(∀k,l[k]? =ops[i+k]?)->gZ P n ops q i l=some ss->
  (∀k s,ss[k]? =some s->cls (i+k)=s.cls)->
  ∀ (env:Env) (a:Act) (H:Hp),Holds env a n->hV P K ss env H->NS P ops cls (fun g J=>∃w,Holds w g n/\K w J) (List.range' i l.length) a H:=by
 intro l;induction l with
 |nil=>
  intro i ss _ x _ env a H z h;simp only[gZ,ajS]at x;subst x;exact⟨env,z,h⟩
 |cons o l B=>
  intro i ss c x m env a H z h;unfold gZ at x;split at x
  ·cases x
  ·rename_i s p;cases d:gZ P n ops q (i+1) l with
   |none=>grind
   |some v=>
    rw[d]at x;simp only[Option.map_some,ajS]at x;subst x;have j:ops[i]? =some o:=by have:=c 0;simpa using this.symm
    have u:∀k,l[k]? =ops[i+1+k]? :=fun k=>by have:=c (k+1);grind
    have y:cls i=s.cls:=by have:=m 0 s rfl;simpa using this
    have f:∀k s',v[k]? =some s'->cls (i+1+k)=s'.cls:=fun k s' e=>by have:=m (k+1) s' Z;grind
    rw[ajX,List.range'_succ];exact NR (F:=hV P K v) j p y z h Z
theorem Ke:∀ (l:List Oper) (i:Nat) (ss:List eY),(∀k,l[k]? =ops[i+k]?)->gZ P n ops q i l=some ss->∀k s,ss[k]? =some s->∃o,ops[i+k]? =some o/\oY P n ops q (i+k) o=some s:=by
 intro l;induction l with
 |nil=>grind [gZ]
 |cons o l c=>
  intro i ss z x k s h;unfold gZ at x;split at x
  ·cases x
  ·rename_i s0 a;cases w:gZ P n ops q (i+1) l with
   |none=>grind
   |some v=>
    rw[w]at x;simp only[Option.map_some,ajS]at x;subst x;have m:∀k,l[k]? =ops[i+1+k]? :=fun k=>by have:=z (k+1);grind
    cases k with
    |zero=>
     simp only[akp,ajS]at h;subst h;exact⟨o,by have:=z 0;grind,a⟩
    |succ k=>
     grind
inductive tQ where
 |done
 |aW(s:eY)(t:tQ)
 |kj(s:eY)(t:tQ)
 |aM(s:eY)(t r:tQ)
 |stop
 deriving Inhabited
def eY.steady(s:eY):Bool:=s.quiet || (match s.op.cls with| .pure=>true|_=>false)
def Ip(l:List eY)(i:Nat):Bool:=match l[i]? with|some s=>s.steady|none=>false
def attach(ss:List eY):Ot->Option tQ
 | .done=>some .done
 | .step i t=>match ss[i]?,attach ss t with
  |some s,some t=>bif s.quiet then some (.kj s t)else match s.op.cls with| .pure=>some (.aW s t)|_=>none
  |_,_=>none
 | .aM i t r=>match ss[i]?,attach ss t,attach ss r with
  |some s,some t,some r=>bif s.steady then none else some (.aM s t r)
  |_,_,_=>none
 | .stop=>some .stop
def tR(A B:Prop)(_ta:Tag A:=⟨⟩)(_tb:Tag B:=⟨⟩):Prop:=A/\B
theorem tR.intro{A B:Prop}(a:A)(b:B):tR A B:=⟨a,b⟩
@[go_sem] theorem Wk(A:Prop):tR A True=A:=by simp[tR]
def bG(Inv:Hp->Prop)(G:Hp->(Value->Hp->Prop)->Prop)(K:Value->Prop)(_t:Tag G:=⟨⟩)(_u:Tag K:=⟨⟩):Prop:=∃v,(∀J,Inv J->G J fun h x=>h=v/\x=J)/\K v
theorem bG.intro{Inv:Hp->Prop}{G:Hp->(Value->Hp->Prop)->Prop}{K:Value->Prop}(v:Value)(h:∀J,Inv J->G J fun z x=>z=v/\x=J)(k:K v):bG Inv G K:=⟨v,h,k⟩
def cZ(H:Hp)(F:(Hp->Prop)->Prop)(_t:Tag F:=⟨⟩):Prop:=∃Inv,Inv H/\F Inv
theorem cZ.intro{H:Hp}{F:(Hp->Prop)->Prop}(Inv:Hp->Prop)(h:Inv H)(f:F Inv):cZ H F:=⟨Inv,h,f⟩
def xx(s:eY)(env:Env)(F:Env->Prop)(N:Env->Prop):Prop:=
 match s.guard with
 |none=>F env
 |some (g,want)=>gV (Env.find env g) (fun b=>Cx (b==want) (F ((g,.bool b)::env)) (N ((g,.bool b)::env))) (N env)
@[go_sem ↓] theorem Sy(q:Bool)(d:Option Nat)(op:dH)(env:Env)(F N:Env->Prop):xx ⟨q,none,d,op⟩ env F N=F env:=(rfl)
@[go_sem ↓] theorem Sz(q:Bool)(g:Nat)(want:Bool)(d:Option Nat)(op:dH)(env:Env)(F N:Env->Prop):
  xx ⟨q,some (g,want),d,op⟩ env F N=gV (Env.find env g) (fun b=>Cx (b==want) (F ((g,.bool b)::env)) (N ((g,.bool b)::env))) (N env):=(rfl)
def zn(P:Program)(Inv:Hp->Prop)(K:Env->Hp->Prop):tQ->Env->Hp->Prop
 | .done,env,H=>K env H
 | .aW s t,env,H=>xx s env (fun e=>s.op.vc P (Env.ev e) H fun v J=>zn P Inv K t (Env.put e s.dst v) J) (fun e=>zn P Inv K t (Env.put e s.dst undef) H)
 | .kj s t,env,H=>xx s env (fun e=>bG Inv (fun J k=>s.op.vc P (Env.ev e) J k) fun v=>zn P Inv K t (Env.put e s.dst v) H) (fun e=>zn P Inv K t (Env.put e s.dst undef) H)
 | .aM s t r,env,H=>tR (xx s env (fun e=>s.op.vc P (Env.ev e) H fun v J=>dZ (Inv J) (zn P Inv K t (Env.put e s.dst v) J)) (fun e=>zn P Inv K t (Env.put e s.dst undef) H)) (zn P Inv K r env H)
 | .stop,_,_=>True
section
variable (Inv : Hp → Prop) (K : Env → Hp → Prop) (s : eY) (t r : tQ) (env : Env) (H : Hp)
@[go_sem ↓] theorem Wl:zn P Inv K .done env H=K env H:=(rfl)
@[go_sem ↓] theorem Wm:zn P Inv K .stop env H=True:=(rfl)
@[go_sem ↓] theorem YH(q:Bool)(g:Option (Nat×Bool))(d:Option Nat)(op:dH):zn P Inv K (.aW ⟨q,g,d,op⟩ t) env H=
  xx ⟨q,g,d,op⟩ env (fun e=>op.vc P (Env.ev e) H fun v J=>zn P Inv K t (Env.put e d v) J) (fun e=>zn P Inv K t (Env.put e d undef) H):=(rfl)
@[go_sem ↓] theorem YI(q:Bool)(g:Option (Nat×Bool))(d:Option Nat)(op:dH):zn P Inv K (.kj ⟨q,g,d,op⟩ t) env H=
  xx ⟨q,g,d,op⟩ env (fun e=>bG Inv (fun J k=>op.vc P (Env.ev e) J k) fun v=>zn P Inv K t (Env.put e d v) H) (fun e=>zn P Inv K t (Env.put e d undef) H):=(rfl)
@[go_sem ↓] theorem Wn(q:Bool)(g:Option (Nat×Bool))(d:Option Nat)(op:dH)(h:eY)(z x:tQ):zn P Inv K (.aM ⟨q,g,d,op⟩ t (.aM h z x)) env H=
  tR (xx ⟨q,g,d,op⟩ env (fun e=>op.vc P (Env.ev e) H fun v J=>dZ (Inv J) (zn P Inv K t (Env.put e d v) J)) (fun e=>zn P Inv K t (Env.put e d undef) H)) (zn P Inv K (.aM h z x) env H):=(rfl)
@[go_sem ↓] theorem UU(q:Bool)(g:Option (Nat×Bool))(d:Option Nat)(op:dH):zn P Inv K (.aM ⟨q,g,d,op⟩ t .stop) env H=
  xx ⟨q,g,d,op⟩ env (fun e=>op.vc P (Env.ev e) H fun v J=>dZ (Inv J) (zn P Inv K t (Env.put e d v) J)) (fun e=>zn P Inv K t (Env.put e d undef) H):=by
 show tR _ True=_;simp[tR]
end
theorem Cz{Inv:Hp->Prop}{st:Nat->Bool}{s:eY}{F N:Env->Prop}{G:Act->Hp->Prop}{env:Env}{H:Hp}(B:ops[i]? =some o)(L:oY P n ops q i o=some s)
  (l:Holds env a n)(h:xx s env F N)(p:∀e,Holds e a n->N e->G (a.put o.dst undef) H)
  (d:∀e,Holds e a n->F e->match st i with
   |true=>∃v,(∀J,Inv J->ej P o a J fun C y=>C=v/\y=J)/\G (a.put o.dst v) H
   |false=>ej P o a H fun v J=>Inv J/\G (a.put o.dst v) J):hY P ops Inv st i G a H:=by
 obtain⟨U,T,Q,f⟩:=jQ L;unfold hY;simp only[B];unfold xx at h;rcases f with ⟨z,w⟩| ⟨j,want,g,z,w,u⟩
 ·grind [rI]
 ·rw[u]at h;rcases Cc h with ⟨b,x,h⟩| ⟨vs,x,h⟩
  ·have A:=rJ (o:=o) z w (l.xw g _ x);rw[A];have c:=l.guard x;cases m:b==want
   ·rw[m]at h;rw[if_neg (by simp)];exact p _ c h
   ·rw[m]at h;rw[if_pos rfl];exact d _ c h
  ·rw[oZ z w (l.xw g _ x),if_neg (by simp)];grind
theorem Iq{K:Env->Hp->Prop}{Inv:Hp->Prop}{ss:List eY}(U:∀k s,ss[k]? =some s->∃o,ops[k]? =some o/\oY P n ops q k o=some s):
  ∀ (t:Ot) (p:tQ),attach ss t=some p->∀ (env:Env) (a:Act) (H:Hp),Holds env a n->zn P Inv K p env H->Mo P ops Inv (Ip ss) (fun I J=>∃N,Holds N I n/\K N J) t a H:=by
 intro t;induction t with
 |done=>intro p x env a H l h;simp only[attach,ajS]at x;subst x;exact⟨env,l,h⟩
 |stop=>intro p x env a H l h;trivial
 |step i t C=>
  intro p x env a H l h;unfold attach at x;split at x
  ·rename_i s g d c;obtain⟨o,L,y⟩:=U i s d;obtain⟨A,w,m,_⟩:=jQ y;cases j:s.quiet
   ·rw[j]at x;simp only[cond_false]at x;split at x
    ·rename_i Q;injection x with x;subst x;have B:Ip ss i=true:=by simp[Ip,d,eY.steady,Q]
     refine Cz L y l h (fun e z u=>?_) (fun e z f=>?_)
     ·rw[<-w];exact C g c _ _ _ (by rw[w];exact z.put m undef) u
     ·rw[B];obtain⟨v,T,F⟩:=(Go.Vc.sound s.op A z.rH f).1 Q;refine⟨v,fun J _=>xy T J,?_⟩;rw[<-w];exact C g c _ _ _ (by rw[w];exact z.put m v) F
    grind
   ·rw[j]at x;simp only[cond_true,ajS]at x;subst x;have B:Ip ss i=true:=by simp[Ip,d,eY.steady,j]
    refine Cz L y l h (fun e z u=>?_) (fun e z f=>?_)
    ·rw[<-w];exact C g c _ _ _ (by rw[w];exact z.put m undef) u
    ·rw[B];obtain⟨v,T,F⟩:=f;refine⟨v,fun J V=>(Go.Vc.sound s.op A z.rH (T J V)).2,?_⟩;rw[<-w];exact C g c _ _ _ (by rw[w];exact z.put m v) F
  grind
 |aM i t r W D=>
  intro p x env a H l h;unfold attach at x;split at x
  ·rename_i s g X d c G;obtain⟨o,L,y⟩:=U i s d;obtain⟨A,w,m,_⟩:=jQ y;cases j:s.steady
   ·rw[j]at x;simp only[cond_false,ajS]at x;subst x;have B:Ip ss i=false:=by simp[Ip,d,j]
    refine⟨Cz L y l h.1 (fun e z u=>?_) (fun e z f=>?_),D X G env a H l h.2⟩
    ·rw[<-w];exact W g c _ _ _ (by rw[w];exact z.put m undef) u
    ·rw[B];refine(Go.Vc.sound s.op A z.rH f).2.mono fun v J ⟨M,E⟩=>⟨M,?_⟩;rw[<-w];exact W g c _ _ _ (by rw[w];exact z.put m v) E
   grind
  grind
end
end
end Go.Vc
