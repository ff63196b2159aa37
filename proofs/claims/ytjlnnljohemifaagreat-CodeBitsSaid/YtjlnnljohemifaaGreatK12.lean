/- Texts put behind each other. -/
import Derived.Test.YtjlnnljohemifaaGreatK98
import Derived.Test.YtjlnnljohemifaaGreatK11
set_option maxRecDepth 100000
set_option maxHeartbeats 8000000
set_option linter.unusedVariables false
set_option linter.unusedSimpArgs false
namespace Go.Vc
abbrev Env:=List (Nat×Value)
def Env.find:Env→Nat→Option Value
 | [],_=>none
 | (k,v)::r,n=>bif k==n then some v else Env.find r n
@[go_sem] theorem Env.ZP(n:Nat):Env.find [] n=none:=(rfl)
@[go_sem] theorem Env.Yv(k n:Nat)(v:Value)(r:Env):Env.find ((k,v)::r) n=bif k==n then some v else Env.find r n:=(rfl)
def Env.ev(env:Env):Ev
 | .tmp t=>Env.find env t
 | .const v=>some v
 | .global g=>some (.pointer (some ⟨g,0,none⟩))
 | .func f=>some (.func (.func f) #[] #[])
@[go_sem] theorem Env.aex(env:Env)(t:Nat):Env.ev env (.tmp t)=Env.find env t:=(rfl)
@[go_sem] theorem Env.ZQ(env:Env)(v:Value):Env.ev env (.const v)=some v:=(rfl)
@[go_sem] theorem Env.Yw(env:Env)(g:Nat):Env.ev env (.global g)=some (.pointer (some ⟨g,0,none⟩)):=(rfl)
@[go_sem] theorem Env.acO(env:Env)(f:Nat):Env.ev env (.func f)=some (.func (.func f) #[] #[]):=(rfl)
def Env.put(env:Env)(dst:Option Nat)(v:Value):Env:=match dst with|some d=>(d,v)::env|none=>env
@[go_sem] theorem Env.ZR(env:Env)(d:Nat)(v:Value):Env.put env (some d) v=(d,v)::env:=(rfl)
@[go_sem] theorem Env.ZS(env:Env)(v:Value):Env.put env none v=env:=(rfl)
def Env.aM(env:Env):List Nat→Env
 | []=>[]
 |k::ks=>match Env.find env k with|some v=>(k,v)::Env.aM env ks|none=>Env.aM env ks
def Ku(k:Nat)(o:Option Value)(r:Env):Env:=match o with|some v=>(k,v)::r|none=>r
@[go_sem] theorem VV(k:Nat)(v:Value)(r:Env):Ku k (some v) r=(k,v)::r:=(rfl)
@[go_sem] theorem VW(k:Nat)(r:Env):Ku k none r=r:=(rfl)
@[go_sem] theorem Env.ZT(env:Env):Env.aM env []=[]:=(rfl)
@[go_sem] theorem Env.O8(env:Env)(k:Nat)(ks:List Nat):Env.aM env (k::ks)=Ku k (Env.find env k) (Env.aM env ks):=by
 unfold Ku;rw[Env.aM]
structure Holds(env:Env)(a:Act)(n:Nat):Prop where
 size:a.tmps.size=n
 defers:a.defers=[]
 zS:∀k v,Env.find env k=some v→a.tmps[k]? =some v
theorem Holds.tN{env:Env}{a:Act}{n:Nat}(h:Holds env a n):bP (Env.ev env) a:=by
 intro x v hx
 cases x with
 |tmp t=>simp only[Env.ev]at hx;simp[Act.eval,h.zS t v hx]
 |const u=>injection hx with hx
 |global g=>injection hx with hx
 |func f=>injection hx with hx
theorem Holds.put{env:Env}{a:Act}{n:Nat}(h:Holds env a n){dst:Option Nat}(hd:∀d,dst=some d→d<n)(v:Value):Holds (Env.put env dst v) (a.put dst v) n:=by
 cases dst with
 |none=>exact h
 |some d=>
  have aO:=hd d rfl
  refine⟨by simp[Act.put,h.size],by simp[Act.put,h.defers],fun k u hk=>?_⟩
  simp only[Env.put,Env.find]at hk
  by_cases e:d=k
  ·subst e
   simp at hk
   subst hk
   simp[Act.put,h.size,aO]
  ·have:(d==k)=false:=by simpa using e
   rw[this]at hk
   simp only[cond_false]at hk
   simpa[Act.put,Array.getElem?_setIfInBounds_ne e]using h.zS k u hk
theorem Holds.guard{env:Env}{a:Act}{n:Nat}(h:Holds env a n){g:Nat}{v:Value}(hg:Env.find env g=some v):Holds ((g,v)::env) a n:=by
 refine⟨h.size,h.defers,fun k u hk=>?_⟩
 simp only[Env.find]at hk
 by_cases e:g=k
 ·subst e
  simp at hk
  subst hk
  exact h.zS g v hg
 ·have:(g==k)=false:=by simpa using e
  rw[this]at hk
  exact h.zS k u hk
theorem O9(env:Env):∀ (ks:List Nat) (k:Nat) (v:Value),Env.find (Env.aM env ks) k=some v→Env.find env k=some v:=by
 intro ks
 induction ks with
 |nil=>intro k v h;cases h
 |cons x xs ih=>
  intro k v h
  rw[Env.O8]at h
  cases hx:Env.find env x with
  |none=>rw[hx]at h;exact ih k v h
  |some u=>
   rw[hx]at h
   simp only[Ku,Env.find]at h
   by_cases e:x=k
   ·subst e
    simp at h
    subst h
    exact hx
   ·have:(x==k)=false:=by simpa using e
    rw[this]at h
    exact ih k v h
theorem Holds.aM{env:Env}{a:Act}{n:Nat}(h:Holds env a n)(ks:List Nat):Holds (Env.aM env ks) a n:=
 ⟨h.size,h.defers,fun k v hk=>h.zS k v (O9 env ks k v hk)⟩
structure fT where
 quiet:Bool
 guard:Option (Nat×Bool)
 dst:Option Nat
 op:da
 deriving Inhabited
def fT.vc(P:Program)(s:fT)(ev:Ev)(H:Hp)(K:Value→Hp→Prop):Prop:=
 bif s.quiet then∃v,s.op.vc P ev H (fun v' H'=>v'=v∧H'=H)∧K v H else s.op.vc P ev H K
@[go_sem ↓] theorem fT.ZU(P:Program)(g:Option (Nat×Bool))(d:Option Nat)(op:da)(ev:Ev)(H:Hp)(K:Value→Hp→Prop):fT.vc P ⟨false,g,d,op⟩ ev H K=op.vc P ev H K:=(rfl)
@[go_sem ↓] theorem fT.ZV(P:Program)(g:Option (Nat×Bool))(d:Option Nat)(op:da)(ev:Ev)(H:Hp)(K:Value→Hp→Prop):
  fT.vc P ⟨true,g,d,op⟩ ev H K=∃v,op.vc P ev H (fun v' H'=>v'=v∧H'=H)∧K v H:=(rfl)
def Fa(o:Option Value)(F:Bool→Prop)(_t:Tag F:=⟨⟩):Prop:=match o with|some v=>zP v F|none=>False
@[go_sem] theorem US(v:Value)(F:Bool→Prop):Fa (some v) F=zP v F:=(rfl)
def gV(o:Option Value)(F:Bool→Prop)(N:Prop)(_t:Tag F:=⟨⟩)(_u:Tag N:=⟨⟩):Prop:=
 match o with|some v=>(match v with| .bool b=>am b F| .tuple _=>N|_=>False)|none=>False
@[go_sem] theorem acP(b:Bool)(F:Bool→Prop)(N:Prop):gV (some (.bool b)) F N=am b F:=(rfl)
@[go_sem] theorem ZW(F:Bool→Prop)(N:Prop):gV (some undef) F N=N:=(rfl)
theorem EA{o:Option Value}{F:Bool→Prop}{N:Prop}(h:gV o F N):(∃b,o=some (.bool b)∧F b)∨(∃vs,o=some (.tuple vs)∧N):=by
 unfold gV at h
 split at h
 ·rename_i v
  split at h
  ·rename_i b
   obtain⟨b',e,h2⟩:=yb (v:=.bool b) (F:=F) h
   injection e with e
   subst e
   exact .inl ⟨b,rfl,h2⟩
  ·rename_i vs
   exact .inr ⟨vs,rfl,h⟩
  ·exact h.elim
 ·exact h.elim
def im(P:Program)(K:Env→Hp→Prop):List fT→Env→Hp→Prop
 | [],env,H=>K env H
 |s::r,env,H=>
  match s.guard with
  |none=>s.vc P (Env.ev env) H fun v H'=>im P K r (Env.put env s.dst v) H'
  |some (g,want)=>gV (Env.find env g) (fun b=>
   E9 (b==want) (s.vc P (Env.ev ((g,.bool b)::env)) H fun v H'=>im P K r (Env.put ((g,.bool b)::env) s.dst v) H')
    (im P K r (Env.put ((g,.bool b)::env) s.dst undef) H)) (im P K r (Env.put env s.dst undef) H)
@[go_sem ↓] theorem Yx(P:Program)(K:Env→Hp→Prop)(env:Env)(H:Hp):im P K [] env H=K env H:=(rfl)
@[go_sem ↓] theorem VX(P:Program)(K:Env→Hp→Prop)(q:Bool)(d:Option Nat)(op:da)(r:List fT)(env:Env)(H:Hp):
  im P K (⟨q,none,d,op⟩::r) env H=fT.vc P ⟨q,none,d,op⟩ (Env.ev env) H fun v H'=>im P K r (Env.put env d v) H':=(rfl)
@[go_sem ↓] theorem UT(P:Program)(K:Env→Hp→Prop)(q:Bool)(g:Nat)(want:Bool)(d:Option Nat)(op:da)(r:List fT)(env:Env)(H:Hp):
  im P K (⟨q,some (g,want),d,op⟩::r) env H=gV (Env.find env g) (fun b=>
   E9 (b==want) (fT.vc P ⟨q,none,d,op⟩ (Env.ev ((g,.bool b)::env)) H fun v H'=>im P K r (Env.put ((g,.bool b)::env) d v) H')
    (im P K r (Env.put ((g,.bool b)::env) d undef) H)) (im P K r (Env.put env d undef) H):=(rfl)
def qJ(P:Program)(n:Nat)(ops:Array Oper)(q:List Nat)(i:Nat)(o:Oper):Option fT:=
 match o.dst with
 |some d=>if d<n then go (some d)else none
 |none=>go none
 where
 go (dst:Option Nat):Option fT:=
  match Ic P o with
  |none=>none
  |some op=>
   match o.guard with
   |none=>some ⟨q.contains i,none,dst,op⟩
   |some (j,want)=>match(ops[j]?).bind (·.dst)with
    |some g=>some ⟨q.contains i,some (g,want),dst,op⟩
    |none=>none
def hX(P:Program)(n:Nat)(ops:Array Oper)(q:List Nat):Nat→List Oper→Option (List fT)
 |_,[]=>some []
 |i,o::r=>
  match qJ P n ops q i o with
  |none=>none
  |some s=>(hX P n ops q (i+1) r).map (s:: ·)
def fT.cls(s:fT):Km:=match s.op.cls with| .GG=>bif s.quiet then .quiet else .GG|c=>c
def Q2(l:List fT)(i:Nat):Km:=match l[i]? with|some s=>s.cls|none=>.GG
section
variable {P : Program} {ops : Array Oper} {n : Nat}
theorem kE{q:List Nat}{i:Nat}{o:Oper}{s:fT}(h:qJ P n ops q i o=some s):
  Ic P o=some s.op∧s.dst=o.dst∧(∀d,o.dst=some d→d<n)∧
   ((o.guard=none∧s.guard=none)∨∃j want g,o.guard=some (j,want)∧(ops[j]?).bind (·.dst)=some g∧s.guard=some (g,want)):=by
 have key:∀dst,qJ.go P ops q i o dst=some s→Ic P o=some s.op∧s.dst=dst∧
   ((o.guard=none∧s.guard=none)∨∃j want g,o.guard=some (j,want)∧(ops[j]?).bind (·.dst)=some g∧s.guard=some (g,want)):=by
  intro dst h
  unfold qJ.go at h
  split at h
  ·cases h
  ·rename_i op Db
   split at h
   ·rename_i hg;injection h with h;subst h;exact⟨Db,rfl,.inl ⟨hg,rfl⟩⟩
   ·rename_i j want hg
    split at h
    ·rename_i g zF;injection h with h;subst h;exact⟨Db,rfl,.inr ⟨j,want,g,hg,zF,rfl⟩⟩
    ·cases h
 unfold qJ at h
 split at h
 ·rename_i d hd
  split at h
  ·rename_i aO
   obtain⟨h1,h2,h3⟩:=key _ h
   exact⟨h1,h2.trans hd.symm,(fun d' e=>by rw[hd]at e;injection e with e;subst e;exact aO),h3⟩
  ·cases h
 ·rename_i hd
  obtain⟨h1,h2,h3⟩:=key _ h
  exact⟨h1,h2.trans hd.symm,(fun d' e=>by rw[hd]at e;cases e),h3⟩
theorem tO{o:Oper}{y:Nat→Option Bool}(h:o.guard=none):Region.wanted o y=true:=by simp[Region.wanted,h]
theorem tP{o:Oper}{a:Act}{j g:Nat}{want b:Bool}(h:o.guard=some (j,want))(hg:(ops[j]?).bind (·.dst)=some g)(hv:a.tmps[g]? =some (.bool b)):
  Region.wanted o (yielded ops a.tmps)=(b==want):=by
 have:yielded ops a.tmps j=some b:=by simp[yielded,hg,hv]
 simp[Region.wanted,h,this]
theorem qK{o:Oper}{a:Act}{j g:Nat}{want:Bool}{vs:Array Value}(h:o.guard=some (j,want))(hg:(ops[j]?).bind (·.dst)=some g)(hv:a.tmps[g]? =some (.tuple vs)):
  Region.wanted o (yielded ops a.tmps)=false:=by
 have:yielded ops a.tmps j=none:=by simp[yielded,hg,hv]
 simp[Region.wanted,h,this]
theorem fT.sound{s:fT}{o:Oper}{a:Act}{ev:Ev}{H:Hp}{K:Value→Hp→Prop}(hd:Ic P o=some s.op)(bE:bP ev a)(h:s.vc P ev H K):dO P o a H K:=by
 unfold fT.vc at h
 cases hq:s.quiet
 ·rw[hq]at h;exact(Go.Vc.sound s.op hd bE h).2
 ·rw[hq]at h
  obtain⟨v,h1,h2⟩:=h
  exact(Go.Vc.sound s.op hd bE h1).2.mono fun v' H' ⟨e1,e2⟩=>by rw[e1,e2];exact h2
theorem MB{K:Env→Hp→Prop}{q:List Nat}:∀ (l:List Oper) (i:Nat) (ss:List fT),(∀k,l[k]? =ops[i+k]?)→hX P n ops q i l=some ss→
  ∀ (env:Env) (a:Act) (H:Hp),Holds env a n→im P K ss env H→Kv P ops (fun a' H'=>∃aT,Holds aT a' n∧K aT H') (List.range' i l.length) a H:=by
 intro l
 induction l with
 |nil=>
  intro i ss _ hd env a H hh h
  simp only[hX,anE]at hd
  subst hd
  exact⟨env,hh,h⟩
 |cons o l ih=>
  intro i ss hl hd env a H hh h
  unfold hX at hd
  split at hd
  ·cases hd
  ·rename_i s hs
   cases hr:hX P n ops q (i+1) l with
   |none=>rw[hr]at hd;cases hd
   |some SO=>
    rw[hr]at hd
    simp only[Option.map_some,anE]at hd
    subst hd
    obtain⟨Db,mR,aO,hg⟩:=kE hs
    have VY:ops[i]? =some o:=by have:=hl 0;simpa using this.symm
    have Ez:∀k,l[k]? =ops[i+1+k]? :=fun k=>by have:=hl (k+1);rw[aov]at this;rw[this];congr 1;omega
    rw[anO,List.range'_succ]
    simp only[Kv,VY]
    unfold im at h
    rcases hg with ⟨NX,BN⟩| ⟨j,want,g,NX,BN,ZX⟩
    ·rw[tO NX,if_pos rfl]
     rw[BN]at h
     refine(fT.sound Db hh.tN h).mono fun v H' hk=>?_
     rw[mR]at hk
     exact ih (i+1) SO Ez hr _ _ _ (hh.put aO v) hk
    ·rw[ZX]at h
     rcases EA h with ⟨b,hv,h⟩| ⟨vs,hv,h⟩
     ·have Kw:=tP (o:=o) NX BN (hh.zS g _ hv)
      rw[Kw]
      have nY:=hh.guard hv
      cases hb:b==want
      ·rw[hb]at h
       simp only[E9]at h
       rw[if_neg (by simp)]
       rw[mR]at h
       exact ih (i+1) SO Ez hr _ _ _ (nY.put aO undef) h
      ·rw[hb]at h
       simp only[E9]at h
       rw[if_pos rfl]
       refine(fT.sound Db nY.tN h).mono fun v H' hk=>?_
       rw[mR]at hk
       exact ih (i+1) SO Ez hr _ _ _ (nY.put aO v) hk
     ·rw[qK NX BN (hh.zS g _ hv),if_neg (by simp)]
      rw[mR]at h
      exact ih (i+1) SO Ez hr _ _ _ (hh.put aO undef) h
def ZY(P:Program)(s:fT)(env:Env)(H:Hp)(F:Env→Hp→Prop):Prop:=
 match s.guard with
 |none=>s.vc P (Env.ev env) H fun v H'=>F (Env.put env s.dst v) H'
 |some (g,want)=>gV (Env.find env g) (fun b=>
   E9 (b==want) (s.vc P (Env.ev ((g,.bool b)::env)) H fun v H'=>F (Env.put ((g,.bool b)::env) s.dst v) H')
    (F (Env.put ((g,.bool b)::env) s.dst undef) H)) (F (Env.put env s.dst undef) H)
theorem Q3{q:List Nat}{cls:Nat→Km}{i:Nat}{o:Oper}{s:fT}{F:Env→Hp→Prop}{G:Act→Hp→Prop}{env:Env}{a:Act}{H:Hp}(VY:ops[i]? =some o)(hs:qJ P n ops q i o=some s)(Tr:cls i=s.cls)
  (hh:Holds env a n)(h:ZY P s env H F)(next:∀aT a' H',Holds aT a' n→F aT H'→G a' H'):jA P ops cls i G a H:=by
 obtain⟨Db,mR,aO,hg⟩:=kE hs
 have step:∀ (env:Env),Holds env a n→s.vc P (Env.ev env) H (fun v H'=>F (Env.put env s.dst v) H')→
   (match cls i with
    | .pure=>∃v,(∀w,(execOp a.eval o).run P w= .ok (.value v) w)∧G (a.put o.dst v) H
    | .quiet=>∃v,dO P o a H (fun v' H'=>v'=v∧H'=H)∧G (a.put o.dst v) H
    | .GG=>dO P o a H fun v H'=>G (a.put o.dst v) H'):=by
  intro env hh h
  have next':∀v H',F (Env.put env s.dst v) H'→G (a.put o.dst v) H':=by
   intro v H' hk
   rw[mR]at hk
   exact next _ _ _ (hh.put aO v) hk
  rw[Tr]
  unfold fT.cls
  cases hc:s.op.cls with
  |pure=>
   have hp:s.op.vc P (Env.ev env) H (fun v H'=>F (Env.put env s.dst v) H'):=by
    unfold fT.vc at h
    cases hq:s.quiet
    ·rw[hq]at h;exact h
    ·rw[hq]at h
     obtain⟨v,h1,h2⟩:=h
     exact(NW s.op hc h1 fun v' H' ⟨e1,e2⟩=>by rw[e1,e2];exact h2)
   obtain⟨v,e1,e2⟩:=(Go.Vc.sound s.op Db hh.tN hp).1 hc
   exact⟨v,e1,next' _ _ e2⟩
  |quiet=>
   unfold fT.vc at h
   cases hq:s.quiet
   ·rw[hq]at h
    obtain⟨v,h1,h2⟩:=Q1 s.op hc h
    exact⟨v,(Go.Vc.sound s.op Db hh.tN h1).2,next' _ _ h2⟩
   ·rw[hq]at h
    obtain⟨v,h1,h2⟩:=h
    exact⟨v,(Go.Vc.sound s.op Db hh.tN h1).2,next' _ _ h2⟩
  |GG=>
   unfold fT.vc at h
   cases hq:s.quiet
   ·rw[hq]at h;exact(Go.Vc.sound s.op Db hh.tN h).2.mono next'
   ·rw[hq]at h
    obtain⟨v,h1,h2⟩:=h
    exact⟨v,(Go.Vc.sound s.op Db hh.tN h1).2,next' _ _ h2⟩
 unfold jA
 simp only[VY]
 unfold ZY at h
 rcases hg with ⟨NX,BN⟩| ⟨j,want,g,NX,BN,ZX⟩
 ·rw[tO NX,if_pos rfl]
  rw[BN]at h
  exact step env hh h
 ·rw[ZX]at h
  rcases EA h with ⟨b,hv,h⟩| ⟨vs,hv,h⟩
  ·have Kw:=tP (o:=o) NX BN (hh.zS g _ hv)
   rw[Kw]
   have nY:=hh.guard hv
   cases hb:b==want
   ·rw[hb]at h
    simp only[E9]at h
    rw[if_neg (by simp)]
    rw[mR]at h
    exact next _ _ _ (nY.put aO undef) h
   ·rw[hb]at h
    simp only[E9]at h
    rw[if_pos rfl]
    exact step _ nY h
  ·rw[qK NX BN (hh.zS g _ hv),if_neg (by simp)]
   rw[mR]at h
   exact next _ _ _ (hh.put aO undef) h
theorem MC{K:Env→Hp→Prop}{q:List Nat}{cls:Nat→Km}:∀ (l:List Oper) (i:Nat) (ss:List fT),(∀k,l[k]? =ops[i+k]?)→hX P n ops q i l=some ss→
  (∀k s,ss[k]? =some s→cls (i+k)=s.cls)→
  ∀ (env:Env) (a:Act) (H:Hp),Holds env a n→im P K ss env H→Q4 P ops cls (fun a' H'=>∃aT,Holds aT a' n∧K aT H') (List.range' i l.length) a H:=by
 intro l
 induction l with
 |nil=>
  intro i ss _ hd _ env a H hh h
  simp only[hX,anE]at hd
  subst hd
  exact⟨env,hh,h⟩
 |cons o l ih=>
  intro i ss hl hd ZZ env a H hh h
  unfold hX at hd
  split at hd
  ·cases hd
  ·rename_i s hs
   cases hr:hX P n ops q (i+1) l with
   |none=>rw[hr]at hd;cases hd
   |some SO=>
    rw[hr]at hd
    simp only[Option.map_some,anE]at hd
    subst hd
    have VY:ops[i]? =some o:=by have:=hl 0;simpa using this.symm
    have Ez:∀k,l[k]? =ops[i+1+k]? :=fun k=>by have:=hl (k+1);rw[aov]at this;rw[this];congr 1;omega
    have Tr:cls i=s.cls:=by have:=ZZ 0 s rfl;simpa using this
    have Z0:∀k s',SO[k]? =some s'→cls (i+1+k)=s'.cls:=fun k s' e=>by have:=ZZ (k+1) s' (by simpa using e);rw[←this];congr 1;omega
    rw[anO,List.range'_succ]
    exact Q3 (F:=im P K SO) VY hs Tr hh h fun aT a' H' nY hk=>ih (i+1) SO Ez hr Z0 aT a' H' nY hk
theorem MD{q:List Nat}:∀ (l:List Oper) (i:Nat) (ss:List fT),(∀k,l[k]? =ops[i+k]?)→hX P n ops q i l=some ss→∀k s,ss[k]? =some s→∃o,ops[i+k]? =some o∧qJ P n ops q (i+k) o=some s:=by
 intro l
 induction l with
 |nil=>intro i ss _ hd k s hk;simp only[hX,anE]at hd;subst hd;simp at hk
 |cons o l ih=>
  intro i ss hl hd k s hk
  unfold hX at hd
  split at hd
  ·cases hd
  ·rename_i s0 hs
   cases hr:hX P n ops q (i+1) l with
   |none=>rw[hr]at hd;cases hd
   |some SO=>
    rw[hr]at hd
    simp only[Option.map_some,anE]at hd
    subst hd
    have Ez:∀k,l[k]? =ops[i+1+k]? :=fun k=>by have:=hl (k+1);rw[aov]at this;rw[this];congr 1;omega
    cases k with
    |zero=>
     simp only[anY,anE]at hk
     subst hk
     exact⟨o,by have:=hl 0;simpa using this.symm,hs⟩
    |succ k=>
     have:=ih (i+1) SO Ez hr k s (by simpa using hk)
     rw[show i+1+k=i+(k+1) by omega]at this
     exact this
inductive sn where
 |done
 |aS(s:fT)(t:sn)
 |zG(s:fT)(t:sn)
 |aE(s:fT)(t r:sn)
 |stop
 deriving Inhabited
def fT.steady(s:fT):Bool:=s.quiet || (match s.op.cls with| .pure=>true|_=>false)
def Ky(l:List fT)(i:Nat):Bool:=match l[i]? with|some s=>s.steady|none=>false
def attach(ss:List fT):Ot→Option sn
 | .done=>some .done
 | .step i t=>match ss[i]?,attach ss t with
  |some s,some t=>bif s.quiet then some (.zG s t)else match s.op.cls with| .pure=>some (.aS s t)|_=>none
  |_,_=>none
 | .aE i t r=>match ss[i]?,attach ss t,attach ss r with
  |some s,some t,some r=>bif s.steady then none else some (.aE s t r)
  |_,_,_=>none
 | .stop=>some .stop
def EB(A B:Prop)(_ta:Tag A:=⟨⟩)(_tb:Tag B:=⟨⟩):Prop:=A∧B
theorem EB.intro{A B:Prop}(a:A)(b:B):EB A B:=⟨a,b⟩
@[go_sem] theorem Z1(A:Prop):EB A True=A:=by simp[EB]
def fV(Inv:Hp→Prop)(G:Hp→(Value→Hp→Prop)→Prop)(K:Value→Prop)(_t:Tag G:=⟨⟩)(_u:Tag K:=⟨⟩):Prop:=∃v,(∀H',Inv H'→G H' fun v' Gu=>v'=v∧Gu=H')∧K v
theorem fV.intro{Inv:Hp→Prop}{G:Hp→(Value→Hp→Prop)→Prop}{K:Value→Prop}(v:Value)(h:∀H',Inv H'→G H' fun v' Gu=>v'=v∧Gu=H')(k:K v):fV Inv G K:=⟨v,h,k⟩
def jX(H:Hp)(F:(Hp→Prop)→Prop)(_t:Tag F:=⟨⟩):Prop:=∃Inv,Inv H∧F Inv
theorem jX.intro{H:Hp}{F:(Hp→Prop)→Prop}(Inv:Hp→Prop)(h:Inv H)(f:F Inv):jX H F:=⟨Inv,h,f⟩
def zT(s:fT)(env:Env)(F:Env→Prop)(N:Env→Prop):Prop:=
 match s.guard with
 |none=>F env
 |some (g,want)=>gV (Env.find env g) (fun b=>E9 (b==want) (F ((g,.bool b)::env)) (N ((g,.bool b)::env))) (N env)
@[go_sem ↓] theorem VZ(q:Bool)(d:Option Nat)(op:da)(env:Env)(F N:Env→Prop):zT ⟨q,none,d,op⟩ env F N=F env:=(rfl)
@[go_sem ↓] theorem V0(q:Bool)(g:Nat)(want:Bool)(d:Option Nat)(op:da)(env:Env)(F N:Env→Prop):
  zT ⟨q,some (g,want),d,op⟩ env F N=gV (Env.find env g) (fun b=>E9 (b==want) (F ((g,.bool b)::env)) (N ((g,.bool b)::env))) (N env):=(rfl)
def BO(P:Program)(Inv:Hp→Prop)(K:Env→Hp→Prop):sn→Env→Hp→Prop
 | .done,env,H=>K env H
 | .aS s t,env,H=>zT s env (fun e=>s.op.vc P (Env.ev e) H fun v H'=>BO P Inv K t (Env.put e s.dst v) H') (fun e=>BO P Inv K t (Env.put e s.dst undef) H)
 | .zG s t,env,H=>zT s env (fun e=>fV Inv (fun H' k=>s.op.vc P (Env.ev e) H' k) fun v=>BO P Inv K t (Env.put e s.dst v) H) (fun e=>BO P Inv K t (Env.put e s.dst undef) H)
 | .aE s t r,env,H=>EB (zT s env (fun e=>s.op.vc P (Env.ev e) H fun v H'=>dm (Inv H') (BO P Inv K t (Env.put e s.dst v) H')) (fun e=>BO P Inv K t (Env.put e s.dst undef) H)) (BO P Inv K r env H)
 | .stop,_,_=>True
section
variable (Inv : Hp → Prop) (K : Env → Hp → Prop) (s : fT) (t r : sn) (env : Env) (H : Hp)
@[go_sem ↓] theorem Z2:BO P Inv K .done env H=K env H:=(rfl)
@[go_sem ↓] theorem Z3:BO P Inv K .stop env H=True:=(rfl)
@[go_sem ↓] theorem acQ(q:Bool)(g:Option (Nat×Bool))(d:Option Nat)(op:da):BO P Inv K (.aS ⟨q,g,d,op⟩ t) env H=
  zT ⟨q,g,d,op⟩ env (fun e=>op.vc P (Env.ev e) H fun v H'=>BO P Inv K t (Env.put e d v) H') (fun e=>BO P Inv K t (Env.put e d undef) H):=(rfl)
@[go_sem ↓] theorem acR(q:Bool)(g:Option (Nat×Bool))(d:Option Nat)(op:da):BO P Inv K (.zG ⟨q,g,d,op⟩ t) env H=
  zT ⟨q,g,d,op⟩ env (fun e=>fV Inv (fun H' k=>op.vc P (Env.ev e) H' k) fun v=>BO P Inv K t (Env.put e d v) H) (fun e=>BO P Inv K t (Env.put e d undef) H):=(rfl)
@[go_sem ↓] theorem Z4(q:Bool)(g:Option (Nat×Bool))(d:Option Nat)(op:da)(s':fT)(t' r':sn):BO P Inv K (.aE ⟨q,g,d,op⟩ t (.aE s' t' r')) env H=
  EB (zT ⟨q,g,d,op⟩ env (fun e=>op.vc P (Env.ev e) H fun v H'=>dm (Inv H') (BO P Inv K t (Env.put e d v) H')) (fun e=>BO P Inv K t (Env.put e d undef) H)) (BO P Inv K (.aE s' t' r') env H):=(rfl)
@[go_sem ↓] theorem Yy(q:Bool)(g:Option (Nat×Bool))(d:Option Nat)(op:da):BO P Inv K (.aE ⟨q,g,d,op⟩ t .stop) env H=
  zT ⟨q,g,d,op⟩ env (fun e=>op.vc P (Env.ev e) H fun v H'=>dm (Inv H') (BO P Inv K t (Env.put e d v) H')) (fun e=>BO P Inv K t (Env.put e d undef) H):=by
 show EB _ True=_
 simp[EB]
end
theorem Fb{q:List Nat}{Inv:Hp→Prop}{st:Nat→Bool}{i:Nat}{o:Oper}{s:fT}{F N:Env→Prop}{G:Act→Hp→Prop}{env:Env}{a:Act}{H:Hp}(VY:ops[i]? =some o)(hs:qJ P n ops q i o=some s)
  (hh:Holds env a n)(h:zT s env F N)(hN:∀e,Holds e a n→N e→G (a.put o.dst undef) H)
  (hF:∀e,Holds e a n→F e→match st i with
   |true=>∃v,(∀H',Inv H'→dO P o a H' fun v' Gu=>v'=v∧Gu=H')∧G (a.put o.dst v) H
   |false=>dO P o a H fun v H'=>Inv H'∧G (a.put o.dst v) H'):iq P ops Inv st i G a H:=by
 obtain⟨Db,mR,aO,hg⟩:=kE hs
 unfold iq
 simp only[VY]
 unfold zT at h
 rcases hg with ⟨NX,BN⟩| ⟨j,want,g,NX,BN,ZX⟩
 ·rw[tO NX,if_pos rfl]
  rw[BN]at h
  exact hF env hh h
 ·rw[ZX]at h
  rcases EA h with ⟨b,hv,h⟩| ⟨vs,hv,h⟩
  ·have Kw:=tP (o:=o) NX BN (hh.zS g _ hv)
   rw[Kw]
   have nY:=hh.guard hv
   cases hb:b==want
   ·rw[hb]at h
    rw[if_neg (by simp)]
    exact hN _ nY h
   ·rw[hb]at h
    rw[if_pos rfl]
    exact hF _ nY h
  ·rw[qK NX BN (hh.zS g _ hv),if_neg (by simp)]
   exact hN _ hh h
theorem Kz{K:Env→Hp→Prop}{q:List Nat}{Inv:Hp→Prop}{ss:List fT}(bW:∀k s,ss[k]? =some s→∃o,ops[k]? =some o∧qJ P n ops q k o=some s):
  ∀ (t:Ot) (ts:sn),attach ss t=some ts→∀ (env:Env) (a:Act) (H:Hp),Holds env a n→BO P Inv K ts env H→Pa P ops Inv (Ky ss) (fun a' H'=>∃aT,Holds aT a' n∧K aT H') t a H:=by
 intro t
 induction t with
 |done=>intro ts ht env a H hh h;simp only[attach,anE]at ht;subst ht;exact⟨env,hh,h⟩
 |stop=>intro ts ht env a H hh h;trivial
 |step i t ih=>
  intro ts ht env a H hh h
  unfold attach at ht
  split at ht
  ·rename_i s t' hs Ts
   obtain⟨o,ho,hd⟩:=bW i s hs
   obtain⟨Db,mR,aO,_⟩:=kE hd
   cases hq:s.quiet
   ·rw[hq]at ht
    simp only[cond_false]at ht
    split at ht
    ·rename_i hc
     injection ht with ht
     subst ht
     have tK:Ky ss i=true:=by simp[Ky,hs,fT.steady,hc]
     refine Fb ho hd hh h (fun e he hN=>?_) (fun e he hF=>?_)
     ·rw[←mR];exact ih t' Ts _ _ _ (by rw[mR];exact he.put aO undef) hN
     ·rw[tK]
      obtain⟨v,e1,e2⟩:=(Go.Vc.sound s.op Db he.tN hF).1 hc
      refine⟨v,fun H' _=>zU e1 H',?_⟩
      rw[←mR];exact ih t' Ts _ _ _ (by rw[mR];exact he.put aO v) e2
    ·cases ht
   ·rw[hq]at ht
    simp only[cond_true,anE]at ht
    subst ht
    have tK:Ky ss i=true:=by simp[Ky,hs,fT.steady,hq]
    refine Fb ho hd hh h (fun e he hN=>?_) (fun e he hF=>?_)
    ·rw[←mR];exact ih t' Ts _ _ _ (by rw[mR];exact he.put aO undef) hN
    ·rw[tK]
     obtain⟨v,e1,e2⟩:=hF
     refine⟨v,fun H' hI=>(Go.Vc.sound s.op Db he.tN (e1 H' hI)).2,?_⟩
     rw[←mR];exact ih t' Ts _ _ _ (by rw[mR];exact he.put aO v) e2
  ·cases ht
 |aE i t r iht Z5=>
  intro ts ht env a H hh h
  unfold attach at ht
  split at ht
  ·rename_i s t' r' hs Ts hr'
   obtain⟨o,ho,hd⟩:=bW i s hs
   obtain⟨Db,mR,aO,_⟩:=kE hd
   cases hq:s.steady
   ·rw[hq]at ht
    simp only[cond_false,anE]at ht
    subst ht
    have tK:Ky ss i=false:=by simp[Ky,hs,hq]
    refine⟨Fb ho hd hh h.1 (fun e he hN=>?_) (fun e he hF=>?_),Z5 r' hr' env a H hh h.2⟩
    ·rw[←mR];exact iht t' Ts _ _ _ (by rw[mR];exact he.put aO undef) hN
    ·rw[tK]
     refine(Go.Vc.sound s.op Db he.tN hF).2.mono fun v H' ⟨k1,k2⟩=>⟨k1,?_⟩
     rw[←mR];exact iht t' Ts _ _ _ (by rw[mR];exact he.put aO v) k2
   ·rw[hq]at ht
    cases ht
  ·cases ht
end
end Go.Vc
