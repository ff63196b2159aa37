/- Texts put behind each other. -/
import Derived.Test.YthpjfeolagohkaaGreatK98
import Derived.Test.YthpjfeolagohkaaGreatK10
set_option maxRecDepth 100000
set_option maxHeartbeats 8000000
set_option linter.unusedVariables false
set_option linter.unusedSimpArgs false
namespace Go.Vc
abbrev Env:=List (Nat×Value)
def Env.find:Env→Nat→Option Value
 | [],_=>none
 | (k,v)::r,n=>bif k==n then some v else Env.find r n
@[go_sem] theorem Env.abD(n:Nat):Env.find [] n=none:=(rfl)
@[go_sem] theorem Env.Z6(k n:Nat)(v:Value)(r:Env):Env.find ((k,v)::r) n=bif k==n then some v else Env.find r n:=(rfl)
def Env.ev(env:Env):Ev
 | .tmp t=>Env.find env t
 | .const v=>some v
 | .global g=>some (.pointer (some ⟨g,0,none⟩))
 | .func f=>some (.func (.func f) #[] #[])
@[go_sem] theorem Env.agw(env:Env)(t:Nat):Env.ev env (.tmp t)=Env.find env t:=(rfl)
@[go_sem] theorem Env.abE(env:Env)(v:Value):Env.ev env (.const v)=some v:=(rfl)
@[go_sem] theorem Env.Z7(env:Env)(g:Nat):Env.ev env (.global g)=some (.pointer (some ⟨g,0,none⟩)):=(rfl)
@[go_sem] theorem Env.aeL(env:Env)(f:Nat):Env.ev env (.func f)=some (.func (.func f) #[] #[]):=(rfl)
def Env.put(env:Env)(dst:Option Nat)(v:Value):Env:=match dst with|some d=>(d,v)::env|none=>env
@[go_sem] theorem Env.abF(env:Env)(d:Nat)(v:Value):Env.put env (some d) v=(d,v)::env:=(rfl)
@[go_sem] theorem Env.abG(env:Env)(v:Value):Env.put env none v=env:=(rfl)
def Env.aM(env:Env):List Nat→Env
 | []=>[]
 |k::ks=>match Env.find env k with|some v=>(k,v)::Env.aM env ks|none=>Env.aM env ks
def LR(k:Nat)(o:Option Value)(r:Env):Env:=match o with|some v=>(k,v)::r|none=>r
@[go_sem] theorem XK(k:Nat)(v:Value)(r:Env):LR k (some v) r=(k,v)::r:=(rfl)
@[go_sem] theorem XL(k:Nat)(r:Env):LR k none r=r:=(rfl)
@[go_sem] theorem Env.abH(env:Env):Env.aM env []=[]:=(rfl)
@[go_sem] theorem Env.Qw(env:Env)(k:Nat)(ks:List Nat):Env.aM env (k::ks)=LR k (Env.find env k) (Env.aM env ks):=by
 unfold LR;rw[Env.aM]
structure Holds(env:Env)(a:Act)(n:Nat):Prop where
 size:a.tmps.size=n
 defers:a.defers=[]
 AV:∀k v,Env.find env k=some v→a.tmps[k]? =some v
theorem Holds.uR{env:Env}{a:Act}{n:Nat}(h:Holds env a n):bT (Env.ev env) a:=by
 intro x v hx
 cases x with
 |tmp t=>simp only[Env.ev]at hx;simp[Act.eval,h.AV t v hx]
 |const u=>injection hx with hx
 |global g=>injection hx with hx
 |func f=>injection hx with hx
theorem Holds.put{env:Env}{a:Act}{n:Nat}(h:Holds env a n){dst:Option Nat}(hd:∀d,dst=some d→d<n)(v:Value):Holds (Env.put env dst v) (a.put dst v) n:=by
 cases dst with
 |none=>exact h
 |some d=>
  have aN:=hd d rfl
  refine⟨by simp[Act.put,h.size],by simp[Act.put,h.defers],fun k u hk=>?_⟩
  simp only[Env.put,Env.find]at hk
  by_cases e:d=k
  ·subst e
   simp at hk
   subst hk
   simp[Act.put,h.size,aN]
  ·have:(d==k)=false:=by simpa using e
   rw[this]at hk
   simp only[cond_false]at hk
   simpa[Act.put,Array.getElem?_setIfInBounds_ne e]using h.AV k u hk
theorem Holds.guard{env:Env}{a:Act}{n:Nat}(h:Holds env a n){g:Nat}{v:Value}(hg:Env.find env g=some v):Holds ((g,v)::env) a n:=by
 refine⟨h.size,h.defers,fun k u hk=>?_⟩
 simp only[Env.find]at hk
 by_cases e:g=k
 ·subst e
  simp at hk
  subst hk
  exact h.AV g v hg
 ·have:(g==k)=false:=by simpa using e
  rw[this]at hk
  exact h.AV k u hk
theorem Qx(env:Env):∀ (ks:List Nat) (k:Nat) (v:Value),Env.find (Env.aM env ks) k=some v→Env.find env k=some v:=by
 intro ks
 induction ks with
 |nil=>intro k v h;cases h
 |cons x xs ih=>
  intro k v h
  rw[Env.Qw]at h
  cases hx:Env.find env x with
  |none=>rw[hx]at h;exact ih k v h
  |some u=>
   rw[hx]at h
   simp only[LR,Env.find]at h
   by_cases e:x=k
   ·subst e
    simp at h
    subst h
    exact hx
   ·have:(x==k)=false:=by simpa using e
    rw[this]at h
    exact ih k v h
theorem Holds.aM{env:Env}{a:Act}{n:Nat}(h:Holds env a n)(ks:List Nat):Holds (Env.aM env ks) a n:=
 ⟨h.size,h.defers,fun k v hk=>h.AV k v (Qx env ks k v hk)⟩
structure fF where
 quiet:Bool
 guard:Option (Nat×Bool)
 dst:Option Nat
 op:dw
 deriving Inhabited
def fF.vc(P:Program)(s:fF)(ev:Ev)(H:Hp)(K:Value→Hp→Prop):Prop:=
 bif s.quiet then∃v,s.op.vc P ev H (fun v' H'=>v'=v∧H'=H)∧K v H else s.op.vc P ev H K
@[go_sem ↓] theorem fF.abI(P:Program)(g:Option (Nat×Bool))(d:Option Nat)(op:dw)(ev:Ev)(H:Hp)(K:Value→Hp→Prop):fF.vc P ⟨false,g,d,op⟩ ev H K=op.vc P ev H K:=(rfl)
@[go_sem ↓] theorem fF.abJ(P:Program)(g:Option (Nat×Bool))(d:Option Nat)(op:dw)(ev:Ev)(H:Hp)(K:Value→Hp→Prop):
  fF.vc P ⟨true,g,d,op⟩ ev H K=∃v,op.vc P ev H (fun v' H'=>v'=v∧H'=H)∧K v H:=(rfl)
def Gh(o:Option Value)(F:Bool→Prop)(_t:Tag F:=⟨⟩):Prop:=match o with|some v=>AS v F|none=>False
@[go_sem] theorem Wo(v:Value)(F:Bool→Prop):Gh (some v) F=AS v F:=(rfl)
def gV(o:Option Value)(F:Bool→Prop)(N:Prop)(_t:Tag F:=⟨⟩)(_u:Tag N:=⟨⟩):Prop:=
 match o with|some v=>(match v with| .bool b=>ar b F| .tuple _=>N|_=>False)|none=>False
@[go_sem] theorem aeM(b:Bool)(F:Bool→Prop)(N:Prop):gV (some (.bool b)) F N=ar b F:=(rfl)
@[go_sem] theorem abK(F:Bool→Prop)(N:Prop):gV (some undef) F N=N:=(rfl)
theorem FL{o:Option Value}{F:Bool→Prop}{N:Prop}(h:gV o F N):(∃b,o=some (.bool b)∧F b)∨(∃vs,o=some (.tuple vs)∧N):=by
 unfold gV at h
 split at h
 ·rename_i v
  split at h
  ·rename_i b
   obtain⟨b',e,h2⟩:=zf (v:=.bool b) (F:=F) h
   injection e with e
   subst e
   exact .inl ⟨b,rfl,h2⟩
  ·rename_i vs
   exact .inr ⟨vs,rfl,h⟩
  ·exact h.elim
 ·exact h.elim
def iB(P:Program)(K:Env→Hp→Prop):List fF→Env→Hp→Prop
 | [],env,H=>K env H
 |s::r,env,H=>
  match s.guard with
  |none=>s.vc P (Env.ev env) H fun v H'=>iB P K r (Env.put env s.dst v) H'
  |some (g,want)=>gV (Env.find env g) (fun b=>
   Gg (b==want) (s.vc P (Env.ev ((g,.bool b)::env)) H fun v H'=>iB P K r (Env.put ((g,.bool b)::env) s.dst v) H')
    (iB P K r (Env.put ((g,.bool b)::env) s.dst undef) H)) (iB P K r (Env.put env s.dst undef) H)
@[go_sem ↓] theorem Z8(P:Program)(K:Env→Hp→Prop)(env:Env)(H:Hp):iB P K [] env H=K env H:=(rfl)
@[go_sem ↓] theorem XM(P:Program)(K:Env→Hp→Prop)(q:Bool)(d:Option Nat)(op:dw)(r:List fF)(env:Env)(H:Hp):
  iB P K (⟨q,none,d,op⟩::r) env H=fF.vc P ⟨q,none,d,op⟩ (Env.ev env) H fun v H'=>iB P K r (Env.put env d v) H':=(rfl)
@[go_sem ↓] theorem Wp(P:Program)(K:Env→Hp→Prop)(q:Bool)(g:Nat)(want:Bool)(d:Option Nat)(op:dw)(r:List fF)(env:Env)(H:Hp):
  iB P K (⟨q,some (g,want),d,op⟩::r) env H=gV (Env.find env g) (fun b=>
   Gg (b==want) (fF.vc P ⟨q,none,d,op⟩ (Env.ev ((g,.bool b)::env)) H fun v H'=>iB P K r (Env.put ((g,.bool b)::env) d v) H')
    (iB P K r (Env.put ((g,.bool b)::env) d undef) H)) (iB P K r (Env.put env d undef) H):=(rfl)
def rN(P:Program)(n:Nat)(ops:Array Oper)(q:List Nat)(i:Nat)(o:Oper):Option fF:=
 match o.dst with
 |some d=>if d<n then go (some d)else none
 |none=>go none
 where
 go (dst:Option Nat):Option fF:=
  match Jn P o with
  |none=>none
  |some op=>
   match o.guard with
   |none=>some ⟨q.contains i,none,dst,op⟩
   |some (j,want)=>match(ops[j]?).bind (·.dst)with
    |some g=>some ⟨q.contains i,some (g,want),dst,op⟩
    |none=>none
def it(P:Program)(n:Nat)(ops:Array Oper)(q:List Nat):Nat→List Oper→Option (List fF)
 |_,[]=>some []
 |i,o::r=>
  match rN P n ops q i o with
  |none=>none
  |some s=>(it P n ops q (i+1) r).map (s:: ·)
def fF.cls(s:fF):LK:=match s.op.cls with| .HY=>bif s.quiet then .quiet else .HY|c=>c
def Sc(l:List fF)(i:Nat):LK:=match l[i]? with|some s=>s.cls|none=>.HY
section
variable {P : Program} {ops : Array Oper} {n : Nat}
theorem kQ{q:List Nat}{i:Nat}{o:Oper}{s:fF}(h:rN P n ops q i o=some s):
  Jn P o=some s.op∧s.dst=o.dst∧(∀d,o.dst=some d→d<n)∧
   ((o.guard=none∧s.guard=none)∨∃j want g,o.guard=some (j,want)∧(ops[j]?).bind (·.dst)=some g∧s.guard=some (g,want)):=by
 have key:∀dst,rN.go P ops q i o dst=some s→Jn P o=some s.op∧s.dst=dst∧
   ((o.guard=none∧s.guard=none)∨∃j want g,o.guard=some (j,want)∧(ops[j]?).bind (·.dst)=some g∧s.guard=some (g,want)):=by
  intro dst h
  unfold rN.go at h
  split at h
  ·cases h
  ·rename_i op Ek
   split at h
   ·rename_i hg;injection h with h;subst h;exact⟨Ek,rfl,.inl ⟨hg,rfl⟩⟩
   ·rename_i j want hg
    split at h
    ·rename_i g AJ;injection h with h;subst h;exact⟨Ek,rfl,.inr ⟨j,want,g,hg,AJ,rfl⟩⟩
    ·cases h
 unfold rN at h
 split at h
 ·rename_i d hd
  split at h
  ·rename_i aN
   obtain⟨h1,h2,h3⟩:=key _ h
   exact⟨h1,h2.trans hd.symm,(fun d' e=>by rw[hd]at e;injection e with e;subst e;exact aN),h3⟩
  ·cases h
 ·rename_i hd
  obtain⟨h1,h2,h3⟩:=key _ h
  exact⟨h1,h2.trans hd.symm,(fun d' e=>by rw[hd]at e;cases e),h3⟩
theorem uS{o:Oper}{y:Nat→Option Bool}(h:o.guard=none):Region.wanted o y=true:=by simp[Region.wanted,h]
theorem uT{o:Oper}{a:Act}{j g:Nat}{want b:Bool}(h:o.guard=some (j,want))(hg:(ops[j]?).bind (·.dst)=some g)(hv:a.tmps[g]? =some (.bool b)):
  Region.wanted o (yielded ops a.tmps)=(b==want):=by
 have:yielded ops a.tmps j=some b:=by simp[yielded,hg,hv]
 simp[Region.wanted,h,this]
theorem rO{o:Oper}{a:Act}{j g:Nat}{want:Bool}{vs:Array Value}(h:o.guard=some (j,want))(hg:(ops[j]?).bind (·.dst)=some g)(hv:a.tmps[g]? =some (.tuple vs)):
  Region.wanted o (yielded ops a.tmps)=false:=by
 have:yielded ops a.tmps j=none:=by simp[yielded,hg,hv]
 simp[Region.wanted,h,this]
theorem fF.sound{s:fF}{o:Oper}{a:Act}{ev:Ev}{H:Hp}{K:Value→Hp→Prop}(hd:Jn P o=some s.op)(bJ:bT ev a)(h:s.vc P ev H K):eC P o a H K:=by
 unfold fF.vc at h
 cases hq:s.quiet
 ·rw[hq]at h;exact(Go.Vc.sound s.op hd bJ h).2
 ·rw[hq]at h
  obtain⟨v,h1,h2⟩:=h
  exact(Go.Vc.sound s.op hd bJ h1).2.mono fun v' H' ⟨e1,e2⟩=>by rw[e1,e2];exact h2
theorem NP{K:Env→Hp→Prop}{q:List Nat}:∀ (l:List Oper) (i:Nat) (ss:List fF),(∀k,l[k]? =ops[i+k]?)→it P n ops q i l=some ss→
  ∀ (env:Env) (a:Act) (H:Hp),Holds env a n→iB P K ss env H→LS P ops (fun a' H'=>∃aT,Holds aT a' n∧K aT H') (List.range' i l.length) a H:=by
 intro l
 induction l with
 |nil=>
  intro i ss _ hd env a H hh h
  simp only[it,aqk]at hd
  subst hd
  exact⟨env,hh,h⟩
 |cons o l ih=>
  intro i ss hl hd env a H hh h
  unfold it at hd
  split at hd
  ·cases hd
  ·rename_i s hs
   cases hr:it P n ops q (i+1) l with
   |none=>rw[hr]at hd;cases hd
   |some Ub=>
    rw[hr]at hd
    simp only[Option.map_some,aqk]at hd
    subst hd
    obtain⟨Ek,nw,aN,hg⟩:=kQ hs
    have XN:ops[i]? =some o:=by have:=hl 0;simpa using this.symm
    have FK:∀k,l[k]? =ops[i+1+k]? :=fun k=>by have:=hl (k+1);rw[aq6]at this;rw[this];congr 1;omega
    rw[aqx,List.range'_succ]
    simp only[LS,XN]
    unfold iB at h
    rcases hg with ⟨Pu,CR⟩| ⟨j,want,g,Pu,CR,hg3⟩
    ·rw[uS Pu,if_pos rfl]
     rw[CR]at h
     refine(fF.sound Ek hh.uR h).mono fun v H' hk=>?_
     rw[nw]at hk
     exact ih (i+1) Ub FK hr _ _ _ (hh.put aN v) hk
    ·rw[hg3]at h
     rcases FL h with ⟨b,hv,h⟩| ⟨vs,hv,h⟩
     ·have LU:=uT (o:=o) Pu CR (hh.AV g _ hv)
      rw[LU]
      have oQ:=hh.guard hv
      cases hb:b==want
      ·rw[hb]at h
       simp only[Gg]at h
       rw[if_neg (by simp)]
       rw[nw]at h
       exact ih (i+1) Ub FK hr _ _ _ (oQ.put aN undef) h
      ·rw[hb]at h
       simp only[Gg]at h
       rw[if_pos rfl]
       refine(fF.sound Ek oQ.uR h).mono fun v H' hk=>?_
       rw[nw]at hk
       exact ih (i+1) Ub FK hr _ _ _ (oQ.put aN v) hk
     ·rw[rO Pu CR (hh.AV g _ hv),if_neg (by simp)]
      rw[nw]at h
      exact ih (i+1) Ub FK hr _ _ _ (hh.put aN undef) h
def abM(P:Program)(s:fF)(env:Env)(H:Hp)(F:Env→Hp→Prop):Prop:=
 match s.guard with
 |none=>s.vc P (Env.ev env) H fun v H'=>F (Env.put env s.dst v) H'
 |some (g,want)=>gV (Env.find env g) (fun b=>
   Gg (b==want) (s.vc P (Env.ev ((g,.bool b)::env)) H fun v H'=>F (Env.put ((g,.bool b)::env) s.dst v) H')
    (F (Env.put ((g,.bool b)::env) s.dst undef) H)) (F (Env.put env s.dst undef) H)
theorem Sd{q:List Nat}{cls:Nat→LK}{i:Nat}{o:Oper}{s:fF}{F:Env→Hp→Prop}{G:Act→Hp→Prop}{env:Env}{a:Act}{H:Hp}(XN:ops[i]? =some o)(hs:rN P n ops q i o=some s)(XO:cls i=s.cls)
  (hh:Holds env a n)(h:abM P s env H F)(next:∀aT a' H',Holds aT a' n→F aT H'→G a' H'):jH P ops cls i G a H:=by
 obtain⟨Ek,nw,aN,hg⟩:=kQ hs
 have step:∀ (env:Env),Holds env a n→s.vc P (Env.ev env) H (fun v H'=>F (Env.put env s.dst v) H')→
   (match cls i with
    | .pure=>∃v,(∀w,(execOp a.eval o).run P w= .ok (.value v) w)∧G (a.put o.dst v) H
    | .quiet=>∃v,eC P o a H (fun v' H'=>v'=v∧H'=H)∧G (a.put o.dst v) H
    | .HY=>eC P o a H fun v H'=>G (a.put o.dst v) H'):=by
  intro env hh h
  have next':∀v H',F (Env.put env s.dst v) H'→G (a.put o.dst v) H':=by
   intro v H' hk
   rw[nw]at hk
   exact next _ _ _ (hh.put aN v) hk
  rw[XO]
  unfold fF.cls
  cases hc:s.op.cls with
  |pure=>
   have hp:s.op.vc P (Env.ev env) H (fun v H'=>F (Env.put env s.dst v) H'):=by
    unfold fF.vc at h
    cases hq:s.quiet
    ·rw[hq]at h;exact h
    ·rw[hq]at h
     obtain⟨v,h1,h2⟩:=h
     exact(Pt s.op hc h1 fun v' H' ⟨e1,e2⟩=>by rw[e1,e2];exact h2)
   obtain⟨v,e1,e2⟩:=(Go.Vc.sound s.op Ek hh.uR hp).1 hc
   exact⟨v,e1,next' _ _ e2⟩
  |quiet=>
   unfold fF.vc at h
   cases hq:s.quiet
   ·rw[hq]at h
    obtain⟨v,h1,h2⟩:=Sb s.op hc h
    exact⟨v,(Go.Vc.sound s.op Ek hh.uR h1).2,next' _ _ h2⟩
   ·rw[hq]at h
    obtain⟨v,h1,h2⟩:=h
    exact⟨v,(Go.Vc.sound s.op Ek hh.uR h1).2,next' _ _ h2⟩
  |HY=>
   unfold fF.vc at h
   cases hq:s.quiet
   ·rw[hq]at h;exact(Go.Vc.sound s.op Ek hh.uR h).2.mono next'
   ·rw[hq]at h
    obtain⟨v,h1,h2⟩:=h
    exact⟨v,(Go.Vc.sound s.op Ek hh.uR h1).2,next' _ _ h2⟩
 unfold jH
 simp only[XN]
 unfold abM at h
 rcases hg with ⟨Pu,CR⟩| ⟨j,want,g,Pu,CR,hg3⟩
 ·rw[uS Pu,if_pos rfl]
  rw[CR]at h
  exact step env hh h
 ·rw[hg3]at h
  rcases FL h with ⟨b,hv,h⟩| ⟨vs,hv,h⟩
  ·have LU:=uT (o:=o) Pu CR (hh.AV g _ hv)
   rw[LU]
   have oQ:=hh.guard hv
   cases hb:b==want
   ·rw[hb]at h
    simp only[Gg]at h
    rw[if_neg (by simp)]
    rw[nw]at h
    exact next _ _ _ (oQ.put aN undef) h
   ·rw[hb]at h
    simp only[Gg]at h
    rw[if_pos rfl]
    exact step _ oQ h
  ·rw[rO Pu CR (hh.AV g _ hv),if_neg (by simp)]
   rw[nw]at h
   exact next _ _ _ (hh.put aN undef) h
theorem NQ{K:Env→Hp→Prop}{q:List Nat}{cls:Nat→LK}:∀ (l:List Oper) (i:Nat) (ss:List fF),(∀k,l[k]? =ops[i+k]?)→it P n ops q i l=some ss→
  (∀k s,ss[k]? =some s→cls (i+k)=s.cls)→
  ∀ (env:Env) (a:Act) (H:Hp),Holds env a n→iB P K ss env H→Se P ops cls (fun a' H'=>∃aT,Holds aT a' n∧K aT H') (List.range' i l.length) a H:=by
 intro l
 induction l with
 |nil=>
  intro i ss _ hd _ env a H hh h
  simp only[it,aqk]at hd
  subst hd
  exact⟨env,hh,h⟩
 |cons o l ih=>
  intro i ss hl hd abN env a H hh h
  unfold it at hd
  split at hd
  ·cases hd
  ·rename_i s hs
   cases hr:it P n ops q (i+1) l with
   |none=>rw[hr]at hd;cases hd
   |some Ub=>
    rw[hr]at hd
    simp only[Option.map_some,aqk]at hd
    subst hd
    have XN:ops[i]? =some o:=by have:=hl 0;simpa using this.symm
    have FK:∀k,l[k]? =ops[i+1+k]? :=fun k=>by have:=hl (k+1);rw[aq6]at this;rw[this];congr 1;omega
    have XO:cls i=s.cls:=by have:=abN 0 s rfl;simpa using this
    have abO:∀k s',Ub[k]? =some s'→cls (i+1+k)=s'.cls:=fun k s' e=>by have:=abN (k+1) s' (by simpa using e);rw[←this];congr 1;omega
    rw[aqx,List.range'_succ]
    exact Sd (F:=iB P K Ub) XN hs XO hh h fun aT a' H' oQ hk=>ih (i+1) Ub FK hr abO aT a' H' oQ hk
theorem NR{q:List Nat}:∀ (l:List Oper) (i:Nat) (ss:List fF),(∀k,l[k]? =ops[i+k]?)→it P n ops q i l=some ss→∀k s,ss[k]? =some s→∃o,ops[i+k]? =some o∧rN P n ops q (i+k) o=some s:=by
 intro l
 induction l with
 |nil=>intro i ss _ hd k s hk;simp only[it,aqk]at hd;subst hd;simp at hk
 |cons o l ih=>
  intro i ss hl hd k s hk
  unfold it at hd
  split at hd
  ·cases hd
  ·rename_i s0 hs
   cases hr:it P n ops q (i+1) l with
   |none=>rw[hr]at hd;cases hd
   |some Ub=>
    rw[hr]at hd
    simp only[Option.map_some,aqk]at hd
    subst hd
    have FK:∀k,l[k]? =ops[i+1+k]? :=fun k=>by have:=hl (k+1);rw[aq6]at this;rw[this];congr 1;omega
    cases k with
    |zero=>
     simp only[aqE,aqk]at hk
     subst hk
     exact⟨o,by have:=hl 0;simpa using this.symm,hs⟩
    |succ k=>
     have:=ih (i+1) Ub FK hr k s (by simpa using hk)
     rw[show i+1+k=i+(k+1) by omega]at this
     exact this
inductive oC where
 |done
 |aO(s:fF)(t:oC)
 |oR(s:fF)(t:oC)
 |aC(s:fF)(t r:oC)
 |stop
 deriving Inhabited
def fF.steady(s:fF):Bool:=s.quiet || (match s.op.cls with| .pure=>true|_=>false)
def LV(l:List fF)(i:Nat):Bool:=match l[i]? with|some s=>s.steady|none=>false
def attach(ss:List fF):Ot→Option oC
 | .done=>some .done
 | .step i t=>match ss[i]?,attach ss t with
  |some s,some t=>bif s.quiet then some (.oR s t)else match s.op.cls with| .pure=>some (.aO s t)|_=>none
  |_,_=>none
 | .aC i t r=>match ss[i]?,attach ss t,attach ss r with
  |some s,some t,some r=>bif s.steady then none else some (.aC s t r)
  |_,_,_=>none
 | .stop=>some .stop
def zg(A B:Prop)(_ta:Tag A:=⟨⟩)(_tb:Tag B:=⟨⟩):Prop:=A∧B
theorem zg.intro{A B:Prop}(a:A)(b:B):zg A B:=⟨a,b⟩
@[go_sem] theorem abP(A:Prop):zg A True=A:=by simp[zg]
def dP(Inv:Hp→Prop)(G:Hp→(Value→Hp→Prop)→Prop)(K:Value→Prop)(_t:Tag G:=⟨⟩)(_u:Tag K:=⟨⟩):Prop:=∃v,(∀H',Inv H'→G H' fun v' zh=>v'=v∧zh=H')∧K v
theorem dP.intro{Inv:Hp→Prop}{G:Hp→(Value→Hp→Prop)→Prop}{K:Value→Prop}(v:Value)(h:∀H',Inv H'→G H' fun v' zh=>v'=v∧zh=H')(k:K v):dP Inv G K:=⟨v,h,k⟩
def gP(H:Hp)(F:(Hp→Prop)→Prop)(_t:Tag F:=⟨⟩):Prop:=∃Inv,Inv H∧F Inv
theorem gP.intro{H:Hp}{F:(Hp→Prop)→Prop}(Inv:Hp→Prop)(h:Inv H)(f:F Inv):gP H F:=⟨Inv,h,f⟩
def AW(s:fF)(env:Env)(F:Env→Prop)(N:Env→Prop):Prop:=
 match s.guard with
 |none=>F env
 |some (g,want)=>gV (Env.find env g) (fun b=>Gg (b==want) (F ((g,.bool b)::env)) (N ((g,.bool b)::env))) (N env)
@[go_sem ↓] theorem XP(q:Bool)(d:Option Nat)(op:dw)(env:Env)(F N:Env→Prop):AW ⟨q,none,d,op⟩ env F N=F env:=(rfl)
@[go_sem ↓] theorem XQ(q:Bool)(g:Nat)(want:Bool)(d:Option Nat)(op:dw)(env:Env)(F N:Env→Prop):
  AW ⟨q,some (g,want),d,op⟩ env F N=gV (Env.find env g) (fun b=>Gg (b==want) (F ((g,.bool b)::env)) (N ((g,.bool b)::env))) (N env):=(rfl)
def CS(P:Program)(Inv:Hp→Prop)(K:Env→Hp→Prop):oC→Env→Hp→Prop
 | .done,env,H=>K env H
 | .aO s t,env,H=>AW s env (fun e=>s.op.vc P (Env.ev e) H fun v H'=>CS P Inv K t (Env.put e s.dst v) H') (fun e=>CS P Inv K t (Env.put e s.dst undef) H)
 | .oR s t,env,H=>AW s env (fun e=>dP Inv (fun H' k=>s.op.vc P (Env.ev e) H' k) fun v=>CS P Inv K t (Env.put e s.dst v) H) (fun e=>CS P Inv K t (Env.put e s.dst undef) H)
 | .aC s t r,env,H=>zg (AW s env (fun e=>s.op.vc P (Env.ev e) H fun v H'=>dO (Inv H') (CS P Inv K t (Env.put e s.dst v) H')) (fun e=>CS P Inv K t (Env.put e s.dst undef) H)) (CS P Inv K r env H)
 | .stop,_,_=>True
section
variable (Inv : Hp → Prop) (K : Env → Hp → Prop) (s : fF) (t r : oC) (env : Env) (H : Hp)
@[go_sem ↓] theorem abQ:CS P Inv K .done env H=K env H:=(rfl)
@[go_sem ↓] theorem abR:CS P Inv K .stop env H=True:=(rfl)
@[go_sem ↓] theorem aeN(q:Bool)(g:Option (Nat×Bool))(d:Option Nat)(op:dw):CS P Inv K (.aO ⟨q,g,d,op⟩ t) env H=
  AW ⟨q,g,d,op⟩ env (fun e=>op.vc P (Env.ev e) H fun v H'=>CS P Inv K t (Env.put e d v) H') (fun e=>CS P Inv K t (Env.put e d undef) H):=(rfl)
@[go_sem ↓] theorem aeO(q:Bool)(g:Option (Nat×Bool))(d:Option Nat)(op:dw):CS P Inv K (.oR ⟨q,g,d,op⟩ t) env H=
  AW ⟨q,g,d,op⟩ env (fun e=>dP Inv (fun H' k=>op.vc P (Env.ev e) H' k) fun v=>CS P Inv K t (Env.put e d v) H) (fun e=>CS P Inv K t (Env.put e d undef) H):=(rfl)
@[go_sem ↓] theorem abS(q:Bool)(g:Option (Nat×Bool))(d:Option Nat)(op:dw)(s':fF)(t' r':oC):CS P Inv K (.aC ⟨q,g,d,op⟩ t (.aC s' t' r')) env H=
  zg (AW ⟨q,g,d,op⟩ env (fun e=>op.vc P (Env.ev e) H fun v H'=>dO (Inv H') (CS P Inv K t (Env.put e d v) H')) (fun e=>CS P Inv K t (Env.put e d undef) H)) (CS P Inv K (.aC s' t' r') env H):=(rfl)
@[go_sem ↓] theorem Z9(q:Bool)(g:Option (Nat×Bool))(d:Option Nat)(op:dw):CS P Inv K (.aC ⟨q,g,d,op⟩ t .stop) env H=
  AW ⟨q,g,d,op⟩ env (fun e=>op.vc P (Env.ev e) H fun v H'=>dO (Inv H') (CS P Inv K t (Env.put e d v) H')) (fun e=>CS P Inv K t (Env.put e d undef) H):=by
 show zg _ True=_
 simp[zg]
end
theorem Gi{q:List Nat}{Inv:Hp→Prop}{st:Nat→Bool}{i:Nat}{o:Oper}{s:fF}{F N:Env→Prop}{G:Act→Hp→Prop}{env:Env}{a:Act}{H:Hp}(XN:ops[i]? =some o)(hs:rN P n ops q i o=some s)
  (hh:Holds env a n)(h:AW s env F N)(hN:∀e,Holds e a n→N e→G (a.put o.dst undef) H)
  (hF:∀e,Holds e a n→F e→match st i with
   |true=>∃v,(∀H',Inv H'→eC P o a H' fun v' zh=>v'=v∧zh=H')∧G (a.put o.dst v) H
   |false=>eC P o a H fun v H'=>Inv H'∧G (a.put o.dst v) H'):iC P ops Inv st i G a H:=by
 obtain⟨Ek,nw,aN,hg⟩:=kQ hs
 unfold iC
 simp only[XN]
 unfold AW at h
 rcases hg with ⟨Pu,CR⟩| ⟨j,want,g,Pu,CR,hg3⟩
 ·rw[uS Pu,if_pos rfl]
  rw[CR]at h
  exact hF env hh h
 ·rw[hg3]at h
  rcases FL h with ⟨b,hv,h⟩| ⟨vs,hv,h⟩
  ·have LU:=uT (o:=o) Pu CR (hh.AV g _ hv)
   rw[LU]
   have oQ:=hh.guard hv
   cases hb:b==want
   ·rw[hb]at h
    rw[if_neg (by simp)]
    exact hN _ oQ h
   ·rw[hb]at h
    rw[if_pos rfl]
    exact hF _ oQ h
  ·rw[rO Pu CR (hh.AV g _ hv),if_neg (by simp)]
   exact hN _ hh h
theorem LW{K:Env→Hp→Prop}{q:List Nat}{Inv:Hp→Prop}{ss:List fF}(ci:∀k s,ss[k]? =some s→∃o,ops[k]? =some o∧rN P n ops q k o=some s):
  ∀ (t:Ot) (ts:oC),attach ss t=some ts→∀ (env:Env) (a:Act) (H:Hp),Holds env a n→CS P Inv K ts env H→Qy P ops Inv (LV ss) (fun a' H'=>∃aT,Holds aT a' n∧K aT H') t a H:=by
 intro t
 induction t with
 |done=>intro ts ht env a H hh h;simp only[attach,aqk]at ht;subst ht;exact⟨env,hh,h⟩
 |stop=>intro ts ht env a H hh h;trivial
 |step i t ih=>
  intro ts ht env a H hh h
  unfold attach at ht
  split at ht
  ·rename_i s t' hs UR
   obtain⟨o,ho,hd⟩:=ci i s hs
   obtain⟨Ek,nw,aN,_⟩:=kQ hd
   cases hq:s.quiet
   ·rw[hq]at ht
    simp only[cond_false]at ht
    split at ht
    ·rename_i hc
     injection ht with ht
     subst ht
     have uO:LV ss i=true:=by simp[LV,hs,fF.steady,hc]
     refine Gi ho hd hh h (fun e he hN=>?_) (fun e he hF=>?_)
     ·rw[←nw];exact ih t' UR _ _ _ (by rw[nw];exact he.put aN undef) hN
     ·rw[uO]
      obtain⟨v,e1,e2⟩:=(Go.Vc.sound s.op Ek he.uR hF).1 hc
      refine⟨v,fun H' _=>AX e1 H',?_⟩
      rw[←nw];exact ih t' UR _ _ _ (by rw[nw];exact he.put aN v) e2
    ·cases ht
   ·rw[hq]at ht
    simp only[cond_true,aqk]at ht
    subst ht
    have uO:LV ss i=true:=by simp[LV,hs,fF.steady,hq]
    refine Gi ho hd hh h (fun e he hN=>?_) (fun e he hF=>?_)
    ·rw[←nw];exact ih t' UR _ _ _ (by rw[nw];exact he.put aN undef) hN
    ·rw[uO]
     obtain⟨v,e1,e2⟩:=hF
     refine⟨v,fun H' hI=>(Go.Vc.sound s.op Ek he.uR (e1 H' hI)).2,?_⟩
     rw[←nw];exact ih t' UR _ _ _ (by rw[nw];exact he.put aN v) e2
  ·cases ht
 |aC i t r iht ihr=>
  intro ts ht env a H hh h
  unfold attach at ht
  split at ht
  ·rename_i s t' r' hs UR hr'
   obtain⟨o,ho,hd⟩:=ci i s hs
   obtain⟨Ek,nw,aN,_⟩:=kQ hd
   cases hq:s.steady
   ·rw[hq]at ht
    simp only[cond_false,aqk]at ht
    subst ht
    have uO:LV ss i=false:=by simp[LV,hs,hq]
    refine⟨Gi ho hd hh h.1 (fun e he hN=>?_) (fun e he hF=>?_),ihr r' hr' env a H hh h.2⟩
    ·rw[←nw];exact iht t' UR _ _ _ (by rw[nw];exact he.put aN undef) hN
    ·rw[uO]
     refine(Go.Vc.sound s.op Ek he.uR hF).2.mono fun v H' ⟨k1,k2⟩=>⟨k1,?_⟩
     rw[←nw];exact iht t' UR _ _ _ (by rw[nw];exact he.put aN v) k2
   ·rw[hq]at ht
    cases ht
  ·cases ht
end
end Go.Vc
