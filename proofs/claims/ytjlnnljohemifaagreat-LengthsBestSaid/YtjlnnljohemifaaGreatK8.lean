/- Texts put behind each other. -/
import Derived.Test.YtjlnnljohemifaaGreatK98
import Derived.Test.YtjlnnljohemifaaGreatK7
set_option linter.unusedVariables false
set_option linter.unusedSimpArgs false
namespace Go.Vc
abbrev Env:=List (Nat×Value)
def Env.find:Env→Nat→Option Value
 | [],_=>none
 | (k,v)::r,n=>bif k==n then some v else Env.find r n
@[go_sem] theorem Env.abW(n:Nat):Env.find [] n=none:=(rfl)
@[go_sem] theorem Env.Zu(k n:Nat)(v:Value)(r:Env):Env.find ((k,v)::r) n=bif k==n then some v else Env.find r n:=(rfl)
def Env.ev(env:Env):Ev
 | .tmp t=>Env.find env t
 | .const v=>some v
 | .global g=>some (.pointer (some ⟨g,0,none⟩))
 | .func f=>some (.func (.func f) #[] #[])
@[go_sem] theorem Env.agj(env:Env)(t:Nat):Env.ev env (.tmp t)=Env.find env t:=(rfl)
@[go_sem] theorem Env.abX(env:Env)(v:Value):Env.ev env (.const v)=some v:=(rfl)
@[go_sem] theorem Env.Zw(env:Env)(g:Nat):Env.ev env (.global g)=some (.pointer (some ⟨g,0,none⟩)):=(rfl)
@[go_sem] theorem Env.adR(env:Env)(f:Nat):Env.ev env (.func f)=some (.func (.func f) #[] #[]):=(rfl)
def Env.put(env:Env)(dst:Option Nat)(v:Value):Env:=match dst with|some d=>(d,v)::env|none=>env
@[go_sem] theorem Env.abY(env:Env)(d:Nat)(v:Value):Env.put env (some d) v=(d,v)::env:=(rfl)
@[go_sem] theorem Env.abZ(env:Env)(v:Value):Env.put env none v=env:=(rfl)
def Env.aN(env:Env):List Nat→Env
 | []=>[]
 |k::ks=>match Env.find env k with|some v=>(k,v)::Env.aN env ks|none=>Env.aN env ks
def MD(k:Nat)(o:Option Value)(r:Env):Env:=match o with|some v=>(k,v)::r|none=>r
@[go_sem] theorem XY(k:Nat)(v:Value)(r:Env):MD k (some v) r=(k,v)::r:=(rfl)
@[go_sem] theorem XZ(k:Nat)(r:Env):MD k none r=r:=(rfl)
@[go_sem] theorem Env.ab0(env:Env):Env.aN env []=[]:=(rfl)
@[go_sem] theorem Env.QV(env:Env)(k:Nat)(ks:List Nat):Env.aN env (k::ks)=MD k (Env.find env k) (Env.aN env ks):=by
 unfold MD;rw[Env.aN]
structure Holds(env:Env)(a:Act)(n:Nat):Prop where
 size:a.tmps.size=n
 defers:a.defers=[]
 Da:∀k v,Env.find env k=some v→a.tmps[k]? =some v
theorem Holds.xO{env:Env}{a:Act}{n:Nat}(h:Holds env a n):bR (Env.ev env) a:=by
 intro x v hx
 cases x with
 |tmp t=>simp only[Env.ev]at hx;simp[Act.eval,h.Da t v hx]
 |const u=>injection hx with hx
 |global g=>injection hx with hx
 |func f=>injection hx with hx
theorem Holds.put{env:Env}{a:Act}{n:Nat}(h:Holds env a n){dst:Option Nat}(hd:∀d,dst=some d→d<n)(v:Value):Holds (Env.put env dst v) (a.put dst v) n:=by
 cases dst with
 |none=>exact h
 |some d=>
  have aR:=hd d rfl
  refine⟨by simp[Act.put,h.size],by simp[Act.put,h.defers],fun k u hk=>?_⟩
  simp only[Env.put,Env.find]at hk
  by_cases e:d=k
  ·subst e
   simp at hk
   subst hk
   simp[Act.put,h.size,aR]
  ·have:(d==k)=false:=by simpa using e
   rw[this]at hk
   simp only[cond_false]at hk
   simpa[Act.put,Array.getElem?_setIfInBounds_ne e]using h.Da k u hk
theorem Holds.guard{env:Env}{a:Act}{n:Nat}(h:Holds env a n){g:Nat}{v:Value}(hg:Env.find env g=some v):Holds ((g,v)::env) a n:=by
 refine⟨h.size,h.defers,fun k u hk=>?_⟩
 simp only[Env.find]at hk
 by_cases e:g=k
 ·subst e
  simp at hk
  subst hk
  exact h.Da g v hg
 ·have:(g==k)=false:=by simpa using e
  rw[this]at hk
  exact h.Da k u hk
theorem QW(env:Env):∀ (ks:List Nat) (k:Nat) (v:Value),Env.find (Env.aN env ks) k=some v→Env.find env k=some v:=by
 intro ks
 induction ks with
 |nil=>intro k v h;cases h
 |cons x xs ih=>
  intro k v h
  rw[Env.QV]at h
  cases hx:Env.find env x with
  |none=>rw[hx]at h;exact ih k v h
  |some u=>
   rw[hx]at h
   simp only[MD,Env.find]at h
   by_cases e:x=k
   ·subst e
    simp at h
    subst h
    exact hx
   ·have:(x==k)=false:=by simpa using e
    rw[this]at h
    exact ih k v h
theorem Holds.aN{env:Env}{a:Act}{n:Nat}(h:Holds env a n)(ks:List Nat):Holds (Env.aN env ks) a n:=
 ⟨h.size,h.defers,fun k v hk=>h.Da k v (QW env ks k v hk)⟩
structure gk where
 quiet:Bool
 guard:Option (Nat×Bool)
 dst:Option Nat
 op:de
 deriving Inhabited
def gk.vc(P:Program)(s:gk)(ev:Ev)(H:Hp)(K:Value→Hp→Prop):Prop:=
 bif s.quiet then∃v,s.op.vc P ev H (fun v' H'=>v'=v∧H'=H)∧K v H else s.op.vc P ev H K
@[go_sem ↓] theorem gk.ab1(P:Program)(g:Option (Nat×Bool))(d:Option Nat)(op:de)(ev:Ev)(H:Hp)(K:Value→Hp→Prop):gk.vc P ⟨false,g,d,op⟩ ev H K=op.vc P ev H K:=(rfl)
@[go_sem ↓] theorem gk.ab2(P:Program)(g:Option (Nat×Bool))(d:Option Nat)(op:de)(ev:Ev)(H:Hp)(K:Value→Hp→Prop):
  gk.vc P ⟨true,g,d,op⟩ ev H K=∃v,op.vc P ev H (fun v' H'=>v'=v∧H'=H)∧K v H:=(rfl)
def HM(o:Option Value)(F:Bool→Prop)(_t:Tag F:=⟨⟩):Prop:=match o with|some v=>C3 v F|none=>False
@[go_sem] theorem VU(v:Value)(F:Bool→Prop):HM (some v) F=C3 v F:=(rfl)
def gV(o:Option Value)(F:Bool→Prop)(N:Prop)(_t:Tag F:=⟨⟩)(_u:Tag N:=⟨⟩):Prop:=
 match o with|some v=>(match v with| .bool b=>ak b F| .tuple _=>N|_=>False)|none=>False
@[go_sem] theorem adS(b:Bool)(F:Bool→Prop)(N:Prop):gV (some (.bool b)) F N=ak b F:=(rfl)
@[go_sem] theorem ab3(F:Bool→Prop)(N:Prop):gV (some undef) F N=N:=(rfl)
theorem Gd{o:Option Value}{F:Bool→Prop}{N:Prop}(h:gV o F N):(∃b,o=some (.bool b)∧F b)∨(∃vs,o=some (.tuple vs)∧N):=by
 unfold gV at h
 split at h
 ·rename_i v
  split at h
  ·rename_i b
   obtain⟨b',e,h2⟩:=Bo (v:=.bool b) (F:=F) h
   injection e with e
   subst e
   exact .inl ⟨b,rfl,h2⟩
  ·rename_i vs
   exact .inr ⟨vs,rfl,h⟩
  ·exact h.elim
 ·exact h.elim
def kN(P:Program)(K:Env→Hp→Prop):List gk→Env→Hp→Prop
 | [],env,H=>K env H
 |s::r,env,H=>
  match s.guard with
  |none=>s.vc P (Env.ev env) H fun v H'=>kN P K r (Env.put env s.dst v) H'
  |some (g,want)=>gV (Env.find env g) (fun b=>
   Hv (b==want) (s.vc P (Env.ev ((g,.bool b)::env)) H fun v H'=>kN P K r (Env.put ((g,.bool b)::env) s.dst v) H')
    (kN P K r (Env.put ((g,.bool b)::env) s.dst undef) H)) (kN P K r (Env.put env s.dst undef) H)
@[go_sem ↓] theorem Zx(P:Program)(K:Env→Hp→Prop)(env:Env)(H:Hp):kN P K [] env H=K env H:=(rfl)
@[go_sem ↓] theorem X0(P:Program)(K:Env→Hp→Prop)(q:Bool)(d:Option Nat)(op:de)(r:List gk)(env:Env)(H:Hp):
  kN P K (⟨q,none,d,op⟩::r) env H=gk.vc P ⟨q,none,d,op⟩ (Env.ev env) H fun v H'=>kN P K r (Env.put env d v) H':=(rfl)
@[go_sem ↓] theorem VV(P:Program)(K:Env→Hp→Prop)(q:Bool)(g:Nat)(want:Bool)(d:Option Nat)(op:de)(r:List gk)(env:Env)(H:Hp):
  kN P K (⟨q,some (g,want),d,op⟩::r) env H=gV (Env.find env g) (fun b=>
   Hv (b==want) (gk.vc P ⟨q,none,d,op⟩ (Env.ev ((g,.bool b)::env)) H fun v H'=>kN P K r (Env.put ((g,.bool b)::env) d v) H')
    (kN P K r (Env.put ((g,.bool b)::env) d undef) H)) (kN P K r (Env.put env d undef) H):=(rfl)
def uR(P:Program)(n:Nat)(ops:Array Oper)(q:List Nat)(i:Nat)(o:Oper):Option gk:=
 match o.dst with
 |some d=>if d<n then go (some d)else none
 |none=>go none
 where
 go (dst:Option Nat):Option gk:=
  match JL P o with
  |none=>none
  |some op=>
   match o.guard with
   |none=>some ⟨q.contains i,none,dst,op⟩
   |some (j,want)=>match(ops[j]?).bind (·.dst)with
    |some g=>some ⟨q.contains i,some (g,want),dst,op⟩
    |none=>none
def ke(P:Program)(n:Nat)(ops:Array Oper)(q:List Nat):Nat→List Oper→Option (List gk)
 |_,[]=>some []
 |i,o::r=>
  match uR P n ops q i o with
  |none=>none
  |some s=>(ke P n ops q (i+1) r).map (s:: ·)
def gk.cls(s:gk):LG:=match s.op.cls with| .IG=>bif s.quiet then .quiet else .IG|c=>c
def Tr(l:List gk)(i:Nat):LG:=match l[i]? with|some s=>s.cls|none=>.IG
section
variable {P : Program} {ops : Array Oper} {n : Nat}
theorem om{q:List Nat}{i:Nat}{o:Oper}{s:gk}(h:uR P n ops q i o=some s):
  JL P o=some s.op∧s.dst=o.dst∧(∀d,o.dst=some d→d<n)∧
   ((o.guard=none∧s.guard=none)∨∃j want g,o.guard=some (j,want)∧(ops[j]?).bind (·.dst)=some g∧s.guard=some (g,want)):=by
 have key:∀dst,uR.go P ops q i o dst=some s→JL P o=some s.op∧s.dst=dst∧
   ((o.guard=none∧s.guard=none)∨∃j want g,o.guard=some (j,want)∧(ops[j]?).bind (·.dst)=some g∧s.guard=some (g,want)):=by
  intro dst h
  unfold uR.go at h
  split at h
  ·cases h
  ·rename_i op Df
   split at h
   ·rename_i hg;injection h with h;subst h;exact⟨Df,rfl,.inl ⟨hg,rfl⟩⟩
   ·rename_i j want hg
    split at h
    ·rename_i g Bx;injection h with h;subst h;exact⟨Df,rfl,.inr ⟨j,want,g,hg,Bx,rfl⟩⟩
    ·cases h
 unfold uR at h
 split at h
 ·rename_i d hd
  split at h
  ·rename_i aR
   obtain⟨h1,h2,h3⟩:=key _ h
   exact⟨h1,h2.trans hd.symm,(fun d' e=>by rw[hd]at e;injection e with e;subst e;exact aR),h3⟩
  ·cases h
 ·rename_i hd
  obtain⟨h1,h2,h3⟩:=key _ h
  exact⟨h1,h2.trans hd.symm,(fun d' e=>by rw[hd]at e;cases e),h3⟩
theorem xP{o:Oper}{y:Nat→Option Bool}(h:o.guard=none):Region.wanted o y=true:=by simp[Region.wanted,h]
theorem xQ{o:Oper}{a:Act}{j g:Nat}{want b:Bool}(h:o.guard=some (j,want))(hg:(ops[j]?).bind (·.dst)=some g)(hv:a.tmps[g]? =some (.bool b)):
  Region.wanted o (yielded ops a.tmps)=(b==want):=by
 have:yielded ops a.tmps j=some b:=by simp[yielded,hg,hv]
 simp[Region.wanted,h,this]
theorem uS{o:Oper}{a:Act}{j g:Nat}{want:Bool}{vs:Array Value}(h:o.guard=some (j,want))(hg:(ops[j]?).bind (·.dst)=some g)(hv:a.tmps[g]? =some (.tuple vs)):
  Region.wanted o (yielded ops a.tmps)=false:=by
 have:yielded ops a.tmps j=none:=by simp[yielded,hg,hv]
 simp[Region.wanted,h,this]
theorem gk.sound{s:gk}{o:Oper}{a:Act}{ev:Ev}{H:Hp}{K:Value→Hp→Prop}(hd:JL P o=some s.op)(bI:bR ev a)(h:s.vc P ev H K):dV P o a H K:=by
 unfold gk.vc at h
 cases hq:s.quiet
 ·rw[hq]at h;exact(Go.Vc.sound s.op hd bI h).2
 ·rw[hq]at h
  obtain⟨v,h1,h2⟩:=h
  exact(Go.Vc.sound s.op hd bI h1).2.mono fun v' H' ⟨e1,e2⟩=>by rw[e1,e2];exact h2
theorem Ow{K:Env→Hp→Prop}{q:List Nat}:∀ (l:List Oper) (i:Nat) (ss:List gk),(∀k,l[k]? =ops[i+k]?)→ke P n ops q i l=some ss→
  ∀ (env:Env) (a:Act) (H:Hp),Holds env a n→kN P K ss env H→LF P ops (fun a' H'=>∃bh,Holds bh a' n∧K bh H') (List.range' i l.length) a H:=by
 intro l
 induction l with
 |nil=>
  intro i ss _ hd env a H hh h
  simp only[ke,ame]at hd
  subst hd
  exact⟨env,hh,h⟩
 |cons o l ih=>
  intro i ss hl hd env a H hh h
  unfold ke at hd
  split at hd
  ·cases hd
  ·rename_i s hs
   cases hr:ke P n ops q (i+1) l with
   |none=>rw[hr]at hd;cases hd
   |some TJ=>
    rw[hr]at hd
    simp only[Option.map_some,ame]at hd
    subst hd
    obtain⟨Df,qR,aR,hg⟩:=om hs
    have X1:ops[i]? =some o:=by have:=hl 0;simpa using this.symm
    have NE:∀k,l[k]? =ops[i+1+k]? :=fun k=>by have:=hl (k+1);rw[amY]at this;rw[this];congr 1;omega
    rw[ams,List.range'_succ]
    simp only[LF,X1]
    unfold kN at h
    rcases hg with ⟨Ph,Ei⟩| ⟨j,want,g,Ph,Ei,hg3⟩
    ·rw[xP Ph,if_pos rfl]
     rw[Ei]at h
     refine(gk.sound Df hh.xO h).mono fun v H' hk=>?_
     rw[qR]at hk
     exact ih (i+1) TJ NE hr _ _ _ (hh.put aR v) hk
    ·rw[hg3]at h
     rcases Gd h with ⟨b,hv,h⟩| ⟨vs,hv,h⟩
     ·have ME:=xQ (o:=o) Ph Ei (hh.Da g _ hv)
      rw[ME]
      have rA:=hh.guard hv
      cases hb:b==want
      ·rw[hb]at h
       simp only[Hv]at h
       rw[if_neg (by simp)]
       rw[qR]at h
       exact ih (i+1) TJ NE hr _ _ _ (rA.put aR undef) h
      ·rw[hb]at h
       simp only[Hv]at h
       rw[if_pos rfl]
       refine(gk.sound Df rA.xO h).mono fun v H' hk=>?_
       rw[qR]at hk
       exact ih (i+1) TJ NE hr _ _ _ (rA.put aR v) hk
     ·rw[uS Ph Ei (hh.Da g _ hv),if_neg (by simp)]
      rw[qR]at h
      exact ih (i+1) TJ NE hr _ _ _ (hh.put aR undef) h
def ab5(P:Program)(s:gk)(env:Env)(H:Hp)(F:Env→Hp→Prop):Prop:=
 match s.guard with
 |none=>s.vc P (Env.ev env) H fun v H'=>F (Env.put env s.dst v) H'
 |some (g,want)=>gV (Env.find env g) (fun b=>
   Hv (b==want) (s.vc P (Env.ev ((g,.bool b)::env)) H fun v H'=>F (Env.put ((g,.bool b)::env) s.dst v) H')
    (F (Env.put ((g,.bool b)::env) s.dst undef) H)) (F (Env.put env s.dst undef) H)
theorem Ts{q:List Nat}{cls:Nat→LG}{i:Nat}{o:Oper}{s:gk}{F:Env→Hp→Prop}{G:Act→Hp→Prop}{env:Env}{a:Act}{H:Hp}(X1:ops[i]? =some o)(hs:uR P n ops q i o=some s)(Wk:cls i=s.cls)
  (hh:Holds env a n)(h:ab5 P s env H F)(next:∀bh a' H',Holds bh a' n→F bh H'→G a' H'):mG P ops cls i G a H:=by
 obtain⟨Df,qR,aR,hg⟩:=om hs
 have step:∀ (env:Env),Holds env a n→s.vc P (Env.ev env) H (fun v H'=>F (Env.put env s.dst v) H')→
   (match cls i with
    | .pure=>∃v,(∀w,(execOp a.eval o).run P w= .ok (.value v) w)∧G (a.put o.dst v) H
    | .quiet=>∃v,dV P o a H (fun v' H'=>v'=v∧H'=H)∧G (a.put o.dst v) H
    | .IG=>dV P o a H fun v H'=>G (a.put o.dst v) H'):=by
  intro env hh h
  have next':∀v H',F (Env.put env s.dst v) H'→G (a.put o.dst v) H':=by
   intro v H' hk
   rw[qR]at hk
   exact next _ _ _ (hh.put aR v) hk
  rw[Wk]
  unfold gk.cls
  cases hc:s.op.cls with
  |pure=>
   have hp:s.op.vc P (Env.ev env) H (fun v H'=>F (Env.put env s.dst v) H'):=by
    unfold gk.vc at h
    cases hq:s.quiet
    ·rw[hq]at h;exact h
    ·rw[hq]at h
     obtain⟨v,h1,h2⟩:=h
     exact(Pg s.op hc h1 fun v' H' ⟨e1,e2⟩=>by rw[e1,e2];exact h2)
   obtain⟨v,e1,e2⟩:=(Go.Vc.sound s.op Df hh.xO hp).1 hc
   exact⟨v,e1,next' _ _ e2⟩
  |quiet=>
   unfold gk.vc at h
   cases hq:s.quiet
   ·rw[hq]at h
    obtain⟨v,h1,h2⟩:=Tq s.op hc h
    exact⟨v,(Go.Vc.sound s.op Df hh.xO h1).2,next' _ _ h2⟩
   ·rw[hq]at h
    obtain⟨v,h1,h2⟩:=h
    exact⟨v,(Go.Vc.sound s.op Df hh.xO h1).2,next' _ _ h2⟩
  |IG=>
   unfold gk.vc at h
   cases hq:s.quiet
   ·rw[hq]at h;exact(Go.Vc.sound s.op Df hh.xO h).2.mono next'
   ·rw[hq]at h
    obtain⟨v,h1,h2⟩:=h
    exact⟨v,(Go.Vc.sound s.op Df hh.xO h1).2,next' _ _ h2⟩
 unfold mG
 simp only[X1]
 unfold ab5 at h
 rcases hg with ⟨Ph,Ei⟩| ⟨j,want,g,Ph,Ei,hg3⟩
 ·rw[xP Ph,if_pos rfl]
  rw[Ei]at h
  exact step env hh h
 ·rw[hg3]at h
  rcases Gd h with ⟨b,hv,h⟩| ⟨vs,hv,h⟩
  ·have ME:=xQ (o:=o) Ph Ei (hh.Da g _ hv)
   rw[ME]
   have rA:=hh.guard hv
   cases hb:b==want
   ·rw[hb]at h
    simp only[Hv]at h
    rw[if_neg (by simp)]
    rw[qR]at h
    exact next _ _ _ (rA.put aR undef) h
   ·rw[hb]at h
    simp only[Hv]at h
    rw[if_pos rfl]
    exact step _ rA h
  ·rw[uS Ph Ei (hh.Da g _ hv),if_neg (by simp)]
   rw[qR]at h
   exact next _ _ _ (hh.put aR undef) h
theorem Ox{K:Env→Hp→Prop}{q:List Nat}{cls:Nat→LG}:∀ (l:List Oper) (i:Nat) (ss:List gk),(∀k,l[k]? =ops[i+k]?)→ke P n ops q i l=some ss→
  (∀k s,ss[k]? =some s→cls (i+k)=s.cls)→
  ∀ (env:Env) (a:Act) (H:Hp),Holds env a n→kN P K ss env H→RT P ops cls (fun a' H'=>∃bh,Holds bh a' n∧K bh H') (List.range' i l.length) a H:=by
 intro l
 induction l with
 |nil=>
  intro i ss _ hd _ env a H hh h
  simp only[ke,ame]at hd
  subst hd
  exact⟨env,hh,h⟩
 |cons o l ih=>
  intro i ss hl hd ab6 env a H hh h
  unfold ke at hd
  split at hd
  ·cases hd
  ·rename_i s hs
   cases hr:ke P n ops q (i+1) l with
   |none=>rw[hr]at hd;cases hd
   |some TJ=>
    rw[hr]at hd
    simp only[Option.map_some,ame]at hd
    subst hd
    have X1:ops[i]? =some o:=by have:=hl 0;simpa using this.symm
    have NE:∀k,l[k]? =ops[i+1+k]? :=fun k=>by have:=hl (k+1);rw[amY]at this;rw[this];congr 1;omega
    have Wk:cls i=s.cls:=by have:=ab6 0 s rfl;simpa using this
    have ab7:∀k s',TJ[k]? =some s'→cls (i+1+k)=s'.cls:=fun k s' e=>by have:=ab6 (k+1) s' (by simpa using e);rw[←this];congr 1;omega
    rw[ams,List.range'_succ]
    exact Ts (F:=kN P K TJ) X1 hs Wk hh h fun bh a' H' rA hk=>ih (i+1) TJ NE hr ab7 bh a' H' rA hk
theorem Oy{q:List Nat}:∀ (l:List Oper) (i:Nat) (ss:List gk),(∀k,l[k]? =ops[i+k]?)→ke P n ops q i l=some ss→∀k s,ss[k]? =some s→∃o,ops[i+k]? =some o∧uR P n ops q (i+k) o=some s:=by
 intro l
 induction l with
 |nil=>intro i ss _ hd k s hk;simp only[ke,ame]at hd;subst hd;simp at hk
 |cons o l ih=>
  intro i ss hl hd k s hk
  unfold ke at hd
  split at hd
  ·cases hd
  ·rename_i s0 hs
   cases hr:ke P n ops q (i+1) l with
   |none=>rw[hr]at hd;cases hd
   |some TJ=>
    rw[hr]at hd
    simp only[Option.map_some,ame]at hd
    subst hd
    have NE:∀k,l[k]? =ops[i+1+k]? :=fun k=>by have:=hl (k+1);rw[amY]at this;rw[this];congr 1;omega
    cases k with
    |zero=>
     simp only[amz,ame]at hk
     subst hk
     exact⟨o,by have:=hl 0;simpa using this.symm,hs⟩
    |succ k=>
     have:=ih (i+1) TJ NE hr k s (by simpa using hk)
     rw[show i+1+k=i+(k+1) by omega]at this
     exact this
inductive Tt where
 |done
 |aW(s:gk)(t:Tt)
 |E8(s:gk)(t:Tt)
 |aP(s:gk)(t r:Tt)
 |stop
 deriving Inhabited
def gk.steady(s:gk):Bool:=s.quiet || (match s.op.cls with| .pure=>true|_=>false)
def MF(l:List gk)(i:Nat):Bool:=match l[i]? with|some s=>s.steady|none=>false
def attach(ss:List gk):Ot→Option Tt
 | .done=>some .done
 | .step i t=>match ss[i]?,attach ss t with
  |some s,some t=>bif s.quiet then some (.E8 s t)else match s.op.cls with| .pure=>some (.aW s t)|_=>none
  |_,_=>none
 | .aP i t r=>match ss[i]?,attach ss t,attach ss r with
  |some s,some t,some r=>bif s.steady then none else some (.aP s t r)
  |_,_,_=>none
 | .stop=>some .stop
def IQ(A B:Prop)(_ta:Tag A:=⟨⟩)(_tb:Tag B:=⟨⟩):Prop:=A∧B
theorem IQ.intro{A B:Prop}(a:A)(b:B):IQ A B:=⟨a,b⟩
@[go_sem] theorem ab8(A:Prop):IQ A True=A:=by simp[IQ]
def qF(Inv:Hp→Prop)(G:Hp→(Value→Hp→Prop)→Prop)(K:Value→Prop)(_t:Tag G:=⟨⟩)(_u:Tag K:=⟨⟩):Prop:=∃v,(∀H',Inv H'→G H' fun v' GF=>v'=v∧GF=H')∧K v
theorem qF.intro{Inv:Hp→Prop}{G:Hp→(Value→Hp→Prop)→Prop}{K:Value→Prop}(v:Value)(h:∀H',Inv H'→G H' fun v' GF=>v'=v∧GF=H')(k:K v):qF Inv G K:=⟨v,h,k⟩
def qZ(H:Hp)(F:(Hp→Prop)→Prop)(_t:Tag F:=⟨⟩):Prop:=∃Inv,Inv H∧F Inv
theorem qZ.intro{H:Hp}{F:(Hp→Prop)→Prop}(Inv:Hp→Prop)(h:Inv H)(f:F Inv):qZ H F:=⟨Inv,h,f⟩
def Db(s:gk)(env:Env)(F:Env→Prop)(N:Env→Prop):Prop:=
 match s.guard with
 |none=>F env
 |some (g,want)=>gV (Env.find env g) (fun b=>Hv (b==want) (F ((g,.bool b)::env)) (N ((g,.bool b)::env))) (N env)
@[go_sem ↓] theorem X2(q:Bool)(d:Option Nat)(op:de)(env:Env)(F N:Env→Prop):Db ⟨q,none,d,op⟩ env F N=F env:=(rfl)
@[go_sem ↓] theorem X3(q:Bool)(g:Nat)(want:Bool)(d:Option Nat)(op:de)(env:Env)(F N:Env→Prop):
  Db ⟨q,some (g,want),d,op⟩ env F N=gV (Env.find env g) (fun b=>Hv (b==want) (F ((g,.bool b)::env)) (N ((g,.bool b)::env))) (N env):=(rfl)
def ED(P:Program)(Inv:Hp→Prop)(K:Env→Hp→Prop):Tt→Env→Hp→Prop
 | .done,env,H=>K env H
 | .aW s t,env,H=>Db s env (fun e=>s.op.vc P (Env.ev e) H fun v H'=>ED P Inv K t (Env.put e s.dst v) H') (fun e=>ED P Inv K t (Env.put e s.dst undef) H)
 | .E8 s t,env,H=>Db s env (fun e=>qF Inv (fun H' k=>s.op.vc P (Env.ev e) H' k) fun v=>ED P Inv K t (Env.put e s.dst v) H) (fun e=>ED P Inv K t (Env.put e s.dst undef) H)
 | .aP s t r,env,H=>IQ (Db s env (fun e=>s.op.vc P (Env.ev e) H fun v H'=>eB (Inv H') (ED P Inv K t (Env.put e s.dst v) H')) (fun e=>ED P Inv K t (Env.put e s.dst undef) H)) (ED P Inv K r env H)
 | .stop,_,_=>True
section
variable (Inv : Hp → Prop) (K : Env → Hp → Prop) (s : gk) (t r : Tt) (env : Env) (H : Hp)
@[go_sem ↓] theorem ab9:ED P Inv K .done env H=K env H:=(rfl)
@[go_sem ↓] theorem aca:ED P Inv K .stop env H=True:=(rfl)
@[go_sem ↓] theorem adT(q:Bool)(g:Option (Nat×Bool))(d:Option Nat)(op:de):ED P Inv K (.aW ⟨q,g,d,op⟩ t) env H=
  Db ⟨q,g,d,op⟩ env (fun e=>op.vc P (Env.ev e) H fun v H'=>ED P Inv K t (Env.put e d v) H') (fun e=>ED P Inv K t (Env.put e d undef) H):=(rfl)
@[go_sem ↓] theorem adU(q:Bool)(g:Option (Nat×Bool))(d:Option Nat)(op:de):ED P Inv K (.E8 ⟨q,g,d,op⟩ t) env H=
  Db ⟨q,g,d,op⟩ env (fun e=>qF Inv (fun H' k=>op.vc P (Env.ev e) H' k) fun v=>ED P Inv K t (Env.put e d v) H) (fun e=>ED P Inv K t (Env.put e d undef) H):=(rfl)
@[go_sem ↓] theorem acb(q:Bool)(g:Option (Nat×Bool))(d:Option Nat)(op:de)(s':gk)(t' r':Tt):ED P Inv K (.aP ⟨q,g,d,op⟩ t (.aP s' t' r')) env H=
  IQ (Db ⟨q,g,d,op⟩ env (fun e=>op.vc P (Env.ev e) H fun v H'=>eB (Inv H') (ED P Inv K t (Env.put e d v) H')) (fun e=>ED P Inv K t (Env.put e d undef) H)) (ED P Inv K (.aP s' t' r') env H):=(rfl)
@[go_sem ↓] theorem Zy(q:Bool)(g:Option (Nat×Bool))(d:Option Nat)(op:de):ED P Inv K (.aP ⟨q,g,d,op⟩ t .stop) env H=
  Db ⟨q,g,d,op⟩ env (fun e=>op.vc P (Env.ev e) H fun v H'=>eB (Inv H') (ED P Inv K t (Env.put e d v) H')) (fun e=>ED P Inv K t (Env.put e d undef) H):=by
 show IQ _ True=_
 simp[IQ]
end
theorem HN{q:List Nat}{Inv:Hp→Prop}{st:Nat→Bool}{i:Nat}{o:Oper}{s:gk}{F N:Env→Prop}{G:Act→Hp→Prop}{env:Env}{a:Act}{H:Hp}(X1:ops[i]? =some o)(hs:uR P n ops q i o=some s)
  (hh:Holds env a n)(h:Db s env F N)(hN:∀e,Holds e a n→N e→G (a.put o.dst undef) H)
  (hF:∀e,Holds e a n→F e→match st i with
   |true=>∃v,(∀H',Inv H'→dV P o a H' fun v' GF=>v'=v∧GF=H')∧G (a.put o.dst v) H
   |false=>dV P o a H fun v H'=>Inv H'∧G (a.put o.dst v) H'):kE P ops Inv st i G a H:=by
 obtain⟨Df,qR,aR,hg⟩:=om hs
 unfold kE
 simp only[X1]
 unfold Db at h
 rcases hg with ⟨Ph,Ei⟩| ⟨j,want,g,Ph,Ei,hg3⟩
 ·rw[xP Ph,if_pos rfl]
  rw[Ei]at h
  exact hF env hh h
 ·rw[hg3]at h
  rcases Gd h with ⟨b,hv,h⟩| ⟨vs,hv,h⟩
  ·have ME:=xQ (o:=o) Ph Ei (hh.Da g _ hv)
   rw[ME]
   have rA:=hh.guard hv
   cases hb:b==want
   ·rw[hb]at h
    rw[if_neg (by simp)]
    exact hN _ rA h
   ·rw[hb]at h
    rw[if_pos rfl]
    exact hF _ rA h
  ·rw[uS Ph Ei (hh.Da g _ hv),if_neg (by simp)]
   exact hN _ hh h
theorem MG{K:Env→Hp→Prop}{q:List Nat}{Inv:Hp→Prop}{ss:List gk}(ce:∀k s,ss[k]? =some s→∃o,ops[k]? =some o∧uR P n ops q k o=some s):
  ∀ (t:Ot) (ts:Tt),attach ss t=some ts→∀ (env:Env) (a:Act) (H:Hp),Holds env a n→ED P Inv K ts env H→PM P ops Inv (MF ss) (fun a' H'=>∃bh,Holds bh a' n∧K bh H') t a H:=by
 intro t
 induction t with
 |done=>intro ts ht env a H hh h;simp only[attach,ame]at ht;subst ht;exact⟨env,hh,h⟩
 |stop=>intro ts ht env a H hh h;trivial
 |step i t ih=>
  intro ts ht env a H hh h
  unfold attach at ht
  split at ht
  ·rename_i s t' hs T0
   obtain⟨o,ho,hd⟩:=ce i s hs
   obtain⟨Df,qR,aR,_⟩:=om hd
   cases hq:s.quiet
   ·rw[hq]at ht
    simp only[cond_false]at ht
    split at ht
    ·rename_i hc
     injection ht with ht
     subst ht
     have uB:MF ss i=true:=by simp[MF,hs,gk.steady,hc]
     refine HN ho hd hh h (fun e he hN=>?_) (fun e he hF=>?_)
     ·rw[←qR];exact ih t' T0 _ _ _ (by rw[qR];exact he.put aR undef) hN
     ·rw[uB]
      obtain⟨v,e1,e2⟩:=(Go.Vc.sound s.op Df he.xO hF).1 hc
      refine⟨v,fun H' _=>Cl e1 H',?_⟩
      rw[←qR];exact ih t' T0 _ _ _ (by rw[qR];exact he.put aR v) e2
    ·cases ht
   ·rw[hq]at ht
    simp only[cond_true,ame]at ht
    subst ht
    have uB:MF ss i=true:=by simp[MF,hs,gk.steady,hq]
    refine HN ho hd hh h (fun e he hN=>?_) (fun e he hF=>?_)
    ·rw[←qR];exact ih t' T0 _ _ _ (by rw[qR];exact he.put aR undef) hN
    ·rw[uB]
     obtain⟨v,e1,e2⟩:=hF
     refine⟨v,fun H' hI=>(Go.Vc.sound s.op Df he.xO (e1 H' hI)).2,?_⟩
     rw[←qR];exact ih t' T0 _ _ _ (by rw[qR];exact he.put aR v) e2
  ·cases ht
 |aP i t r iht Z9=>
  intro ts ht env a H hh h
  unfold attach at ht
  split at ht
  ·rename_i s t' r' hs T0 UH
   obtain⟨o,ho,hd⟩:=ce i s hs
   obtain⟨Df,qR,aR,_⟩:=om hd
   cases hq:s.steady
   ·rw[hq]at ht
    simp only[cond_false,ame]at ht
    subst ht
    have uB:MF ss i=false:=by simp[MF,hs,hq]
    refine⟨HN ho hd hh h.1 (fun e he hN=>?_) (fun e he hF=>?_),Z9 r' UH env a H hh h.2⟩
    ·rw[←qR];exact iht t' T0 _ _ _ (by rw[qR];exact he.put aR undef) hN
    ·rw[uB]
     refine(Go.Vc.sound s.op Df he.xO hF).2.mono fun v H' ⟨k1,k2⟩=>⟨k1,?_⟩
     rw[←qR];exact iht t' T0 _ _ _ (by rw[qR];exact he.put aR v) k2
   ·rw[hq]at ht
    cases ht
  ·cases ht
end
end Go.Vc
