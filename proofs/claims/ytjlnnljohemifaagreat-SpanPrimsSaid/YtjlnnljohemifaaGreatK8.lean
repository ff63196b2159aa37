/- Texts put behind each other. -/
import Derived.Test.YtjlnnljohemifaaGreatK98
import Derived.Test.YtjlnnljohemifaaGreatK7
set_option maxRecDepth 100000
set_option maxHeartbeats 8000000
set_option linter.unusedVariables false
set_option linter.unusedSimpArgs false
namespace Go.Vc
abbrev Env:=List (Nat×Value)
def Env.find:Env→Nat→Option Value
 | [],_=>none
 | (k,v)::r,n=>bif k==n then some v else Env.find r n
@[go_sem] theorem Env.acP(n:Nat):Env.find [] n=none:=(rfl)
@[go_sem] theorem Env.Z7(k n:Nat)(v:Value)(r:Env):Env.find ((k,v)::r) n=bif k==n then some v else Env.find r n:=(rfl)
def Env.ev(env:Env):Ev
 | .tmp t=>Env.find env t
 | .const v=>some v
 | .global g=>some (.pointer (some ⟨g,0,none⟩))
 | .func f=>some (.func (.func f) #[] #[])
@[go_sem] theorem Env.ahv(env:Env)(t:Nat):Env.ev env (.tmp t)=Env.find env t:=(rfl)
@[go_sem] theorem Env.acQ(env:Env)(v:Value):Env.ev env (.const v)=some v:=(rfl)
@[go_sem] theorem Env.Z8(env:Env)(g:Nat):Env.ev env (.global g)=some (.pointer (some ⟨g,0,none⟩)):=(rfl)
@[go_sem] theorem Env.aeO(env:Env)(f:Nat):Env.ev env (.func f)=some (.func (.func f) #[] #[]):=(rfl)
def Env.put(env:Env)(dst:Option Nat)(v:Value):Env:=match dst with|some d=>(d,v)::env|none=>env
@[go_sem] theorem Env.acR(env:Env)(d:Nat)(v:Value):Env.put env (some d) v=(d,v)::env:=(rfl)
@[go_sem] theorem Env.acS(env:Env)(v:Value):Env.put env none v=env:=(rfl)
def Env.aM(env:Env):List Nat→Env
 | []=>[]
 |k::ks=>match Env.find env k with|some v=>(k,v)::Env.aM env ks|none=>Env.aM env ks
def Mr(k:Nat)(o:Option Value)(r:Env):Env:=match o with|some v=>(k,v)::r|none=>r
@[go_sem] theorem Yr(k:Nat)(v:Value)(r:Env):Mr k (some v) r=(k,v)::r:=(rfl)
@[go_sem] theorem Ys(k:Nat)(r:Env):Mr k none r=r:=(rfl)
@[go_sem] theorem Env.acT(env:Env):Env.aM env []=[]:=(rfl)
@[go_sem] theorem Env.QN(env:Env)(k:Nat)(ks:List Nat):Env.aM env (k::ks)=Mr k (Env.find env k) (Env.aM env ks):=by
 unfold Mr;rw[Env.aM]
structure Holds(env:Env)(a:Act)(n:Nat):Prop where
 size:a.tmps.size=n
 defers:a.defers=[]
 BV:∀k v,Env.find env k=some v→a.tmps[k]? =some v
theorem Holds.vk{env:Env}{a:Act}{n:Nat}(h:Holds env a n):bR (Env.ev env) a:=by
 intro x v hx
 cases x with
 |tmp t=>simp only[Env.ev]at hx;simp[Act.eval,h.BV t v hx]
 |const u=>injection hx with hx
 |global g=>injection hx with hx
 |func f=>injection hx with hx
theorem Holds.put{env:Env}{a:Act}{n:Nat}(h:Holds env a n){dst:Option Nat}(hd:∀d,dst=some d→d<n)(v:Value):Holds (Env.put env dst v) (a.put dst v) n:=by
 cases dst with
 |none=>exact h
 |some d=>
  have aO:=hd d rfl
  refine⟨by simp[Act.put,h.size],by simp[Act.put,h.defers],fun k u hk=>?_⟩
  simp only[Env.put,Env.find]at hk
  by_cases e:d=k
  ·subst e
   simp at hk
   subst hk
   simp[Act.put,h.size,aO]
  ·have:(d==k)=false:=by simpa using e
   rw[this]at hk
   simp only[cond_false]at hk
   simpa[Act.put,Array.getElem?_setIfInBounds_ne e]using h.BV k u hk
theorem Holds.guard{env:Env}{a:Act}{n:Nat}(h:Holds env a n){g:Nat}{v:Value}(hg:Env.find env g=some v):Holds ((g,v)::env) a n:=by
 refine⟨h.size,h.defers,fun k u hk=>?_⟩
 simp only[Env.find]at hk
 by_cases e:g=k
 ·subst e
  simp at hk
  subst hk
  exact h.BV g v hg
 ·have:(g==k)=false:=by simpa using e
  rw[this]at hk
  exact h.BV k u hk
theorem QO(env:Env):∀ (ks:List Nat) (k:Nat) (v:Value),Env.find (Env.aM env ks) k=some v→Env.find env k=some v:=by
 intro ks
 induction ks with
 |nil=>intro k v h;cases h
 |cons x xs ih=>
  intro k v h
  rw[Env.QN]at h
  cases hx:Env.find env x with
  |none=>rw[hx]at h;exact ih k v h
  |some u=>
   rw[hx]at h
   simp only[Mr,Env.find]at h
   by_cases e:x=k
   ·subst e
    simp at h
    subst h
    exact hx
   ·have:(x==k)=false:=by simpa using e
    rw[this]at h
    exact ih k v h
theorem Holds.aM{env:Env}{a:Act}{n:Nat}(h:Holds env a n)(ks:List Nat):Holds (Env.aM env ks) a n:=
 ⟨h.size,h.defers,fun k v hk=>h.BV k v (QO env ks k v hk)⟩
structure fM where
 quiet:Bool
 guard:Option (Nat×Bool)
 dst:Option Nat
 op:dh
 deriving Inhabited
def fM.vc(P:Program)(s:fM)(ev:Ev)(H:Hp)(K:Value→Hp→Prop):Prop:=
 bif s.quiet then∃v,s.op.vc P ev H (fun v' H'=>v'=v∧H'=H)∧K v H else s.op.vc P ev H K
@[go_sem ↓] theorem fM.acU(P:Program)(g:Option (Nat×Bool))(d:Option Nat)(op:dh)(ev:Ev)(H:Hp)(K:Value→Hp→Prop):fM.vc P ⟨false,g,d,op⟩ ev H K=op.vc P ev H K:=(rfl)
@[go_sem ↓] theorem fM.acV(P:Program)(g:Option (Nat×Bool))(d:Option Nat)(op:dh)(ev:Ev)(H:Hp)(K:Value→Hp→Prop):
  fM.vc P ⟨true,g,d,op⟩ ev H K=∃v,op.vc P ev H (fun v' H'=>v'=v∧H'=H)∧K v H:=(rfl)
def GL(o:Option Value)(F:Bool→Prop)(_t:Tag F:=⟨⟩):Prop:=match o with|some v=>BN v F|none=>False
@[go_sem] theorem V5(v:Value)(F:Bool→Prop):GL (some v) F=BN v F:=(rfl)
def gV(o:Option Value)(F:Bool→Prop)(N:Prop)(_t:Tag F:=⟨⟩)(_u:Tag N:=⟨⟩):Prop:=
 match o with|some v=>(match v with| .bool b=>am b F| .tuple _=>N|_=>False)|none=>False
@[go_sem] theorem aeP(b:Bool)(F:Bool→Prop)(N:Prop):gV (some (.bool b)) F N=am b F:=(rfl)
@[go_sem] theorem acW(F:Bool→Prop)(N:Prop):gV (some undef) F N=N:=(rfl)
theorem EV{o:Option Value}{F:Bool→Prop}{N:Prop}(h:gV o F N):(∃b,o=some (.bool b)∧F b)∨(∃vs,o=some (.tuple vs)∧N):=by
 unfold gV at h
 split at h
 ·rename_i v
  split at h
  ·rename_i b
   obtain⟨b',e,h2⟩:=zU (v:=.bool b) (F:=F) h
   injection e with e
   subst e
   exact .inl ⟨b,rfl,h2⟩
  ·rename_i vs
   exact .inr ⟨vs,rfl,h⟩
  ·exact h.elim
 ·exact h.elim
def iN(P:Program)(K:Env→Hp→Prop):List fM→Env→Hp→Prop
 | [],env,H=>K env H
 |s::r,env,H=>
  match s.guard with
  |none=>s.vc P (Env.ev env) H fun v H'=>iN P K r (Env.put env s.dst v) H'
  |some (g,want)=>gV (Env.find env g) (fun b=>
   Gt (b==want) (s.vc P (Env.ev ((g,.bool b)::env)) H fun v H'=>iN P K r (Env.put ((g,.bool b)::env) s.dst v) H')
    (iN P K r (Env.put ((g,.bool b)::env) s.dst undef) H)) (iN P K r (Env.put env s.dst undef) H)
@[go_sem ↓] theorem Z9(P:Program)(K:Env→Hp→Prop)(env:Env)(H:Hp):iN P K [] env H=K env H:=(rfl)
@[go_sem ↓] theorem Yt(P:Program)(K:Env→Hp→Prop)(q:Bool)(d:Option Nat)(op:dh)(r:List fM)(env:Env)(H:Hp):
  iN P K (⟨q,none,d,op⟩::r) env H=fM.vc P ⟨q,none,d,op⟩ (Env.ev env) H fun v H'=>iN P K r (Env.put env d v) H':=(rfl)
@[go_sem ↓] theorem V6(P:Program)(K:Env→Hp→Prop)(q:Bool)(g:Nat)(want:Bool)(d:Option Nat)(op:dh)(r:List fM)(env:Env)(H:Hp):
  iN P K (⟨q,some (g,want),d,op⟩::r) env H=gV (Env.find env g) (fun b=>
   Gt (b==want) (fM.vc P ⟨q,none,d,op⟩ (Env.ev ((g,.bool b)::env)) H fun v H'=>iN P K r (Env.put ((g,.bool b)::env) d v) H')
    (iN P K r (Env.put ((g,.bool b)::env) d undef) H)) (iN P K r (Env.put env d undef) H):=(rfl)
def sz(P:Program)(n:Nat)(ops:Array Oper)(q:List Nat)(i:Nat)(o:Oper):Option fM:=
 match o.dst with
 |some d=>if d<n then go (some d)else none
 |none=>go none
 where
 go (dst:Option Nat):Option fM:=
  match I1 P o with
  |none=>none
  |some op=>
   match o.guard with
   |none=>some ⟨q.contains i,none,dst,op⟩
   |some (j,want)=>match(ops[j]?).bind (·.dst)with
    |some g=>some ⟨q.contains i,some (g,want),dst,op⟩
    |none=>none
def it(P:Program)(n:Nat)(ops:Array Oper)(q:List Nat):Nat→List Oper→Option (List fM)
 |_,[]=>some []
 |i,o::r=>
  match sz P n ops q i o with
  |none=>none
  |some s=>(it P n ops q (i+1) r).map (s:: ·)
def fM.cls(s:fM):Lg:=match s.op.cls with| .HI=>bif s.quiet then .quiet else .HI|c=>c
def Tb(l:List fM)(i:Nat):Lg:=match l[i]? with|some s=>s.cls|none=>.HI
section
variable {P : Program} {ops : Array Oper} {n : Nat}
theorem lE{q:List Nat}{i:Nat}{o:Oper}{s:fM}(h:sz P n ops q i o=some s):
  I1 P o=some s.op∧s.dst=o.dst∧(∀d,o.dst=some d→d<n)∧
   ((o.guard=none∧s.guard=none)∨∃j want g,o.guard=some (j,want)∧(ops[j]?).bind (·.dst)=some g∧s.guard=some (g,want)):=by
 have key:∀dst,sz.go P ops q i o dst=some s→I1 P o=some s.op∧s.dst=dst∧
   ((o.guard=none∧s.guard=none)∨∃j want g,o.guard=some (j,want)∧(ops[j]?).bind (·.dst)=some g∧s.guard=some (g,want)):=by
  intro dst h
  unfold sz.go at h
  split at h
  ·cases h
  ·rename_i op Aa
   split at h
   ·rename_i hg;injection h with h;subst h;exact⟨Aa,rfl,.inl ⟨hg,rfl⟩⟩
   ·rename_i j want hg
    split at h
    ·rename_i g z8;injection h with h;subst h;exact⟨Aa,rfl,.inr ⟨j,want,g,hg,z8,rfl⟩⟩
    ·cases h
 unfold sz at h
 split at h
 ·rename_i d hd
  split at h
  ·rename_i aO
   obtain⟨h1,h2,h3⟩:=key _ h
   exact⟨h1,h2.trans hd.symm,(fun d' e=>by rw[hd]at e;injection e with e;subst e;exact aO),h3⟩
  ·cases h
 ·rename_i hd
  obtain⟨h1,h2,h3⟩:=key _ h
  exact⟨h1,h2.trans hd.symm,(fun d' e=>by rw[hd]at e;cases e),h3⟩
theorem vl{o:Oper}{y:Nat→Option Bool}(h:o.guard=none):Region.wanted o y=true:=by simp[Region.wanted,h]
theorem vm{o:Oper}{a:Act}{j g:Nat}{want b:Bool}(h:o.guard=some (j,want))(hg:(ops[j]?).bind (·.dst)=some g)(hv:a.tmps[g]? =some (.bool b)):
  Region.wanted o (yielded ops a.tmps)=(b==want):=by
 have:yielded ops a.tmps j=some b:=by simp[yielded,hg,hv]
 simp[Region.wanted,h,this]
theorem sA{o:Oper}{a:Act}{j g:Nat}{want:Bool}{vs:Array Value}(h:o.guard=some (j,want))(hg:(ops[j]?).bind (·.dst)=some g)(hv:a.tmps[g]? =some (.tuple vs)):
  Region.wanted o (yielded ops a.tmps)=false:=by
 have:yielded ops a.tmps j=none:=by simp[yielded,hg,hv]
 simp[Region.wanted,h,this]
theorem fM.sound{s:fM}{o:Oper}{a:Act}{ev:Ev}{H:Hp}{K:Value→Hp→Prop}(hd:I1 P o=some s.op)(bH:bR ev a)(h:s.vc P ev H K):dU P o a H K:=by
 unfold fM.vc at h
 cases hq:s.quiet
 ·rw[hq]at h;exact(Go.Vc.sound s.op hd bH h).2
 ·rw[hq]at h
  obtain⟨v,h1,h2⟩:=h
  exact(Go.Vc.sound s.op hd bH h1).2.mono fun v' H' ⟨e1,e2⟩=>by rw[e1,e2];exact h2
theorem Oo{K:Env→Hp→Prop}{q:List Nat}:∀ (l:List Oper) (i:Nat) (ss:List fM),(∀k,l[k]? =ops[i+k]?)→it P n ops q i l=some ss→
  ∀ (env:Env) (a:Act) (H:Hp),Holds env a n→iN P K ss env H→Lf P ops (fun a' H'=>∃aV,Holds aV a' n∧K aV H') (List.range' i l.length) a H:=by
 intro l
 induction l with
 |nil=>
  intro i ss _ hd env a H hh h
  simp only[it,aos]at hd
  subst hd
  exact⟨env,hh,h⟩
 |cons o l ih=>
  intro i ss hl hd env a H hh h
  unfold it at hd
  split at hd
  ·cases hd
  ·rename_i s hs
   cases hr:it P n ops q (i+1) l with
   |none=>rw[hr]at hd;cases hd
   |some Tz=>
    rw[hr]at hd
    simp only[Option.map_some,aos]at hd
    subst hd
    obtain⟨Aa,nR,aO,hg⟩:=lE hs
    have Yu:ops[i]? =some o:=by have:=hl 0;simpa using this.symm
    have ER:∀k,l[k]? =ops[i+1+k]? :=fun k=>by have:=hl (k+1);rw[apg]at this;rw[this];congr 1;omega
    rw[aoD,List.range'_succ]
    simp only[Lf,Yu]
    unfold iN at h
    rcases hg with ⟨Pe,C4⟩| ⟨j,want,g,Pe,C4,hg3⟩
    ·rw[vl Pe,if_pos rfl]
     rw[C4]at h
     refine(fM.sound Aa hh.vk h).mono fun v H' hk=>?_
     rw[nR]at hk
     exact ih (i+1) Tz ER hr _ _ _ (hh.put aO v) hk
    ·rw[hg3]at h
     rcases EV h with ⟨b,hv,h⟩| ⟨vs,hv,h⟩
     ·have Ms:=vm (o:=o) Pe C4 (hh.BV g _ hv)
      rw[Ms]
      have ou:=hh.guard hv
      cases hb:b==want
      ·rw[hb]at h
       simp only[Gt]at h
       rw[if_neg (by simp)]
       rw[nR]at h
       exact ih (i+1) Tz ER hr _ _ _ (ou.put aO undef) h
      ·rw[hb]at h
       simp only[Gt]at h
       rw[if_pos rfl]
       refine(fM.sound Aa ou.vk h).mono fun v H' hk=>?_
       rw[nR]at hk
       exact ih (i+1) Tz ER hr _ _ _ (ou.put aO v) hk
     ·rw[sA Pe C4 (hh.BV g _ hv),if_neg (by simp)]
      rw[nR]at h
      exact ih (i+1) Tz ER hr _ _ _ (hh.put aO undef) h
def acY(P:Program)(s:fM)(env:Env)(H:Hp)(F:Env→Hp→Prop):Prop:=
 match s.guard with
 |none=>s.vc P (Env.ev env) H fun v H'=>F (Env.put env s.dst v) H'
 |some (g,want)=>gV (Env.find env g) (fun b=>
   Gt (b==want) (s.vc P (Env.ev ((g,.bool b)::env)) H fun v H'=>F (Env.put ((g,.bool b)::env) s.dst v) H')
    (F (Env.put ((g,.bool b)::env) s.dst undef) H)) (F (Env.put env s.dst undef) H)
theorem Tc{q:List Nat}{cls:Nat→Lg}{i:Nat}{o:Oper}{s:fM}{F:Env→Hp→Prop}{G:Act→Hp→Prop}{env:Env}{a:Act}{H:Hp}(Yu:ops[i]? =some o)(hs:sz P n ops q i o=some s)(Wy:cls i=s.cls)
  (hh:Holds env a n)(h:acY P s env H F)(next:∀aV a' H',Holds aV a' n→F aV H'→G a' H'):jR P ops cls i G a H:=by
 obtain⟨Aa,nR,aO,hg⟩:=lE hs
 have step:∀ (env:Env),Holds env a n→s.vc P (Env.ev env) H (fun v H'=>F (Env.put env s.dst v) H')→
   (match cls i with
    | .pure=>∃v,(∀w,(execOp a.eval o).run P w= .ok (.value v) w)∧G (a.put o.dst v) H
    | .quiet=>∃v,dU P o a H (fun v' H'=>v'=v∧H'=H)∧G (a.put o.dst v) H
    | .HI=>dU P o a H fun v H'=>G (a.put o.dst v) H'):=by
  intro env hh h
  have next':∀v H',F (Env.put env s.dst v) H'→G (a.put o.dst v) H':=by
   intro v H' hk
   rw[nR]at hk
   exact next _ _ _ (hh.put aO v) hk
  rw[Wy]
  unfold fM.cls
  cases hc:s.op.cls with
  |pure=>
   have hp:s.op.vc P (Env.ev env) H (fun v H'=>F (Env.put env s.dst v) H'):=by
    unfold fM.vc at h
    cases hq:s.quiet
    ·rw[hq]at h;exact h
    ·rw[hq]at h
     obtain⟨v,h1,h2⟩:=h
     exact(Pd s.op hc h1 fun v' H' ⟨e1,e2⟩=>by rw[e1,e2];exact h2)
   obtain⟨v,e1,e2⟩:=(Go.Vc.sound s.op Aa hh.vk hp).1 hc
   exact⟨v,e1,next' _ _ e2⟩
  |quiet=>
   unfold fM.vc at h
   cases hq:s.quiet
   ·rw[hq]at h
    obtain⟨v,h1,h2⟩:=Ta s.op hc h
    exact⟨v,(Go.Vc.sound s.op Aa hh.vk h1).2,next' _ _ h2⟩
   ·rw[hq]at h
    obtain⟨v,h1,h2⟩:=h
    exact⟨v,(Go.Vc.sound s.op Aa hh.vk h1).2,next' _ _ h2⟩
  |HI=>
   unfold fM.vc at h
   cases hq:s.quiet
   ·rw[hq]at h;exact(Go.Vc.sound s.op Aa hh.vk h).2.mono next'
   ·rw[hq]at h
    obtain⟨v,h1,h2⟩:=h
    exact⟨v,(Go.Vc.sound s.op Aa hh.vk h1).2,next' _ _ h2⟩
 unfold jR
 simp only[Yu]
 unfold acY at h
 rcases hg with ⟨Pe,C4⟩| ⟨j,want,g,Pe,C4,hg3⟩
 ·rw[vl Pe,if_pos rfl]
  rw[C4]at h
  exact step env hh h
 ·rw[hg3]at h
  rcases EV h with ⟨b,hv,h⟩| ⟨vs,hv,h⟩
  ·have Ms:=vm (o:=o) Pe C4 (hh.BV g _ hv)
   rw[Ms]
   have ou:=hh.guard hv
   cases hb:b==want
   ·rw[hb]at h
    simp only[Gt]at h
    rw[if_neg (by simp)]
    rw[nR]at h
    exact next _ _ _ (ou.put aO undef) h
   ·rw[hb]at h
    simp only[Gt]at h
    rw[if_pos rfl]
    exact step _ ou h
  ·rw[sA Pe C4 (hh.BV g _ hv),if_neg (by simp)]
   rw[nR]at h
   exact next _ _ _ (hh.put aO undef) h
theorem Oq{K:Env→Hp→Prop}{q:List Nat}{cls:Nat→Lg}:∀ (l:List Oper) (i:Nat) (ss:List fM),(∀k,l[k]? =ops[i+k]?)→it P n ops q i l=some ss→
  (∀k s,ss[k]? =some s→cls (i+k)=s.cls)→
  ∀ (env:Env) (a:Act) (H:Hp),Holds env a n→iN P K ss env H→Rt P ops cls (fun a' H'=>∃aV,Holds aV a' n∧K aV H') (List.range' i l.length) a H:=by
 intro l
 induction l with
 |nil=>
  intro i ss _ hd _ env a H hh h
  simp only[it,aos]at hd
  subst hd
  exact⟨env,hh,h⟩
 |cons o l ih=>
  intro i ss hl hd acZ env a H hh h
  unfold it at hd
  split at hd
  ·cases hd
  ·rename_i s hs
   cases hr:it P n ops q (i+1) l with
   |none=>rw[hr]at hd;cases hd
   |some Tz=>
    rw[hr]at hd
    simp only[Option.map_some,aos]at hd
    subst hd
    have Yu:ops[i]? =some o:=by have:=hl 0;simpa using this.symm
    have ER:∀k,l[k]? =ops[i+1+k]? :=fun k=>by have:=hl (k+1);rw[apg]at this;rw[this];congr 1;omega
    have Wy:cls i=s.cls:=by have:=acZ 0 s rfl;simpa using this
    have ac0:∀k s',Tz[k]? =some s'→cls (i+1+k)=s'.cls:=fun k s' e=>by have:=acZ (k+1) s' (by simpa using e);rw[←this];congr 1;omega
    rw[aoD,List.range'_succ]
    exact Tc (F:=iN P K Tz) Yu hs Wy hh h fun aV a' H' ou hk=>ih (i+1) Tz ER hr ac0 aV a' H' ou hk
theorem Ou{q:List Nat}:∀ (l:List Oper) (i:Nat) (ss:List fM),(∀k,l[k]? =ops[i+k]?)→it P n ops q i l=some ss→∀k s,ss[k]? =some s→∃o,ops[i+k]? =some o∧sz P n ops q (i+k) o=some s:=by
 intro l
 induction l with
 |nil=>intro i ss _ hd k s hk;simp only[it,aos]at hd;subst hd;simp at hk
 |cons o l ih=>
  intro i ss hl hd k s hk
  unfold it at hd
  split at hd
  ·cases hd
  ·rename_i s0 hs
   cases hr:it P n ops q (i+1) l with
   |none=>rw[hr]at hd;cases hd
   |some Tz=>
    rw[hr]at hd
    simp only[Option.map_some,aos]at hd
    subst hd
    have ER:∀k,l[k]? =ops[i+1+k]? :=fun k=>by have:=hl (k+1);rw[apg]at this;rw[this];congr 1;omega
    cases k with
    |zero=>
     simp only[aoM,aos]at hk
     subst hk
     exact⟨o,by have:=hl 0;simpa using this.symm,hs⟩
    |succ k=>
     have:=ih (i+1) Tz ER hr k s (by simpa using hk)
     rw[show i+1+k=i+(k+1) by omega]at this
     exact this
inductive sM where
 |done
 |aR(s:fM)(t:sM)
 |xQ(s:fM)(t:sM)
 |aE(s:fM)(t r:sM)
 |stop
 deriving Inhabited
def fM.steady(s:fM):Bool:=s.quiet || (match s.op.cls with| .pure=>true|_=>false)
def Mt(l:List fM)(i:Nat):Bool:=match l[i]? with|some s=>s.steady|none=>false
def attach(ss:List fM):Ot→Option sM
 | .done=>some .done
 | .step i t=>match ss[i]?,attach ss t with
  |some s,some t=>bif s.quiet then some (.xQ s t)else match s.op.cls with| .pure=>some (.aR s t)|_=>none
  |_,_=>none
 | .aE i t r=>match ss[i]?,attach ss t,attach ss r with
  |some s,some t,some r=>bif s.steady then none else some (.aE s t r)
  |_,_,_=>none
 | .stop=>some .stop
def EN(A B:Prop)(_ta:Tag A:=⟨⟩)(_tb:Tag B:=⟨⟩):Prop:=A∧B
theorem EN.intro{A B:Prop}(a:A)(b:B):EN A B:=⟨a,b⟩
@[go_sem] theorem ac1(A:Prop):EN A True=A:=by simp[EN]
def fJ(Inv:Hp→Prop)(G:Hp→(Value→Hp→Prop)→Prop)(K:Value→Prop)(_t:Tag G:=⟨⟩)(_u:Tag K:=⟨⟩):Prop:=∃v,(∀H',Inv H'→G H' fun v' GQ=>v'=v∧GQ=H')∧K v
theorem fJ.intro{Inv:Hp→Prop}{G:Hp→(Value→Hp→Prop)→Prop}{K:Value→Prop}(v:Value)(h:∀H',Inv H'→G H' fun v' GQ=>v'=v∧GQ=H')(k:K v):fJ Inv G K:=⟨v,h,k⟩
def jB(H:Hp)(F:(Hp→Prop)→Prop)(_t:Tag F:=⟨⟩):Prop:=∃Inv,Inv H∧F Inv
theorem jB.intro{H:Hp}{F:(Hp→Prop)→Prop}(Inv:Hp→Prop)(h:Inv H)(f:F Inv):jB H F:=⟨Inv,h,f⟩
def BW(s:fM)(env:Env)(F:Env→Prop)(N:Env→Prop):Prop:=
 match s.guard with
 |none=>F env
 |some (g,want)=>gV (Env.find env g) (fun b=>Gt (b==want) (F ((g,.bool b)::env)) (N ((g,.bool b)::env))) (N env)
@[go_sem ↓] theorem Yv(q:Bool)(d:Option Nat)(op:dh)(env:Env)(F N:Env→Prop):BW ⟨q,none,d,op⟩ env F N=F env:=(rfl)
@[go_sem ↓] theorem Yw(q:Bool)(g:Nat)(want:Bool)(d:Option Nat)(op:dh)(env:Env)(F N:Env→Prop):
  BW ⟨q,some (g,want),d,op⟩ env F N=gV (Env.find env g) (fun b=>Gt (b==want) (F ((g,.bool b)::env)) (N ((g,.bool b)::env))) (N env):=(rfl)
def Do(P:Program)(Inv:Hp→Prop)(K:Env→Hp→Prop):sM→Env→Hp→Prop
 | .done,env,H=>K env H
 | .aR s t,env,H=>BW s env (fun e=>s.op.vc P (Env.ev e) H fun v H'=>Do P Inv K t (Env.put e s.dst v) H') (fun e=>Do P Inv K t (Env.put e s.dst undef) H)
 | .xQ s t,env,H=>BW s env (fun e=>fJ Inv (fun H' k=>s.op.vc P (Env.ev e) H' k) fun v=>Do P Inv K t (Env.put e s.dst v) H) (fun e=>Do P Inv K t (Env.put e s.dst undef) H)
 | .aE s t r,env,H=>EN (BW s env (fun e=>s.op.vc P (Env.ev e) H fun v H'=>dD (Inv H') (Do P Inv K t (Env.put e s.dst v) H')) (fun e=>Do P Inv K t (Env.put e s.dst undef) H)) (Do P Inv K r env H)
 | .stop,_,_=>True
section
variable (Inv : Hp → Prop) (K : Env → Hp → Prop) (s : fM) (t r : sM) (env : Env) (H : Hp)
@[go_sem ↓] theorem ac2:Do P Inv K .done env H=K env H:=(rfl)
@[go_sem ↓] theorem ac3:Do P Inv K .stop env H=True:=(rfl)
@[go_sem ↓] theorem aeQ(q:Bool)(g:Option (Nat×Bool))(d:Option Nat)(op:dh):Do P Inv K (.aR ⟨q,g,d,op⟩ t) env H=
  BW ⟨q,g,d,op⟩ env (fun e=>op.vc P (Env.ev e) H fun v H'=>Do P Inv K t (Env.put e d v) H') (fun e=>Do P Inv K t (Env.put e d undef) H):=(rfl)
@[go_sem ↓] theorem aeR(q:Bool)(g:Option (Nat×Bool))(d:Option Nat)(op:dh):Do P Inv K (.xQ ⟨q,g,d,op⟩ t) env H=
  BW ⟨q,g,d,op⟩ env (fun e=>fJ Inv (fun H' k=>op.vc P (Env.ev e) H' k) fun v=>Do P Inv K t (Env.put e d v) H) (fun e=>Do P Inv K t (Env.put e d undef) H):=(rfl)
@[go_sem ↓] theorem ac4(q:Bool)(g:Option (Nat×Bool))(d:Option Nat)(op:dh)(s':fM)(t' r':sM):Do P Inv K (.aE ⟨q,g,d,op⟩ t (.aE s' t' r')) env H=
  EN (BW ⟨q,g,d,op⟩ env (fun e=>op.vc P (Env.ev e) H fun v H'=>dD (Inv H') (Do P Inv K t (Env.put e d v) H')) (fun e=>Do P Inv K t (Env.put e d undef) H)) (Do P Inv K (.aE s' t' r') env H):=(rfl)
@[go_sem ↓] theorem aaa(q:Bool)(g:Option (Nat×Bool))(d:Option Nat)(op:dh):Do P Inv K (.aE ⟨q,g,d,op⟩ t .stop) env H=
  BW ⟨q,g,d,op⟩ env (fun e=>op.vc P (Env.ev e) H fun v H'=>dD (Inv H') (Do P Inv K t (Env.put e d v) H')) (fun e=>Do P Inv K t (Env.put e d undef) H):=by
 show EN _ True=_
 simp[EN]
end
theorem GM{q:List Nat}{Inv:Hp→Prop}{st:Nat→Bool}{i:Nat}{o:Oper}{s:fM}{F N:Env→Prop}{G:Act→Hp→Prop}{env:Env}{a:Act}{H:Hp}(Yu:ops[i]? =some o)(hs:sz P n ops q i o=some s)
  (hh:Holds env a n)(h:BW s env F N)(hN:∀e,Holds e a n→N e→G (a.put o.dst undef) H)
  (hF:∀e,Holds e a n→F e→match st i with
   |true=>∃v,(∀H',Inv H'→dU P o a H' fun v' GQ=>v'=v∧GQ=H')∧G (a.put o.dst v) H
   |false=>dU P o a H fun v H'=>Inv H'∧G (a.put o.dst v) H'):iE P ops Inv st i G a H:=by
 obtain⟨Aa,nR,aO,hg⟩:=lE hs
 unfold iE
 simp only[Yu]
 unfold BW at h
 rcases hg with ⟨Pe,C4⟩| ⟨j,want,g,Pe,C4,hg3⟩
 ·rw[vl Pe,if_pos rfl]
  rw[C4]at h
  exact hF env hh h
 ·rw[hg3]at h
  rcases EV h with ⟨b,hv,h⟩| ⟨vs,hv,h⟩
  ·have Ms:=vm (o:=o) Pe C4 (hh.BV g _ hv)
   rw[Ms]
   have ou:=hh.guard hv
   cases hb:b==want
   ·rw[hb]at h
    rw[if_neg (by simp)]
    exact hN _ ou h
   ·rw[hb]at h
    rw[if_pos rfl]
    exact hF _ ou h
  ·rw[sA Pe C4 (hh.BV g _ hv),if_neg (by simp)]
   exact hN _ hh h
theorem Mu{K:Env→Hp→Prop}{q:List Nat}{Inv:Hp→Prop}{ss:List fM}(cd:∀k s,ss[k]? =some s→∃o,ops[k]? =some o∧sz P n ops q k o=some s):
  ∀ (t:Ot) (ts:sM),attach ss t=some ts→∀ (env:Env) (a:Act) (H:Hp),Holds env a n→Do P Inv K ts env H→PK P ops Inv (Mt ss) (fun a' H'=>∃aV,Holds aV a' n∧K aV H') t a H:=by
 intro t
 induction t with
 |done=>intro ts ht env a H hh h;simp only[attach,aos]at ht;subst ht;exact⟨env,hh,h⟩
 |stop=>intro ts ht env a H hh h;trivial
 |step i t ih=>
  intro ts ht env a H hh h
  unfold attach at ht
  split at ht
  ·rename_i s t' hs TS
   obtain⟨o,ho,hd⟩:=cd i s hs
   obtain⟨Aa,nR,aO,_⟩:=lE hd
   cases hq:s.quiet
   ·rw[hq]at ht
    simp only[cond_false]at ht
    split at ht
    ·rename_i hc
     injection ht with ht
     subst ht
     have uE:Mt ss i=true:=by simp[Mt,hs,fM.steady,hc]
     refine GM ho hd hh h (fun e he hN=>?_) (fun e he hF=>?_)
     ·rw[←nR];exact ih t' TS _ _ _ (by rw[nR];exact he.put aO undef) hN
     ·rw[uE]
      obtain⟨v,e1,e2⟩:=(Go.Vc.sound s.op Aa he.vk hF).1 hc
      refine⟨v,fun H' _=>AX e1 H',?_⟩
      rw[←nR];exact ih t' TS _ _ _ (by rw[nR];exact he.put aO v) e2
    ·cases ht
   ·rw[hq]at ht
    simp only[cond_true,aos]at ht
    subst ht
    have uE:Mt ss i=true:=by simp[Mt,hs,fM.steady,hq]
    refine GM ho hd hh h (fun e he hN=>?_) (fun e he hF=>?_)
    ·rw[←nR];exact ih t' TS _ _ _ (by rw[nR];exact he.put aO undef) hN
    ·rw[uE]
     obtain⟨v,e1,e2⟩:=hF
     refine⟨v,fun H' hI=>(Go.Vc.sound s.op Aa he.vk (e1 H' hI)).2,?_⟩
     rw[←nR];exact ih t' TS _ _ _ (by rw[nR];exact he.put aO v) e2
  ·cases ht
 |aE i t r iht ihr=>
  intro ts ht env a H hh h
  unfold attach at ht
  split at ht
  ·rename_i s t' r' hs TS hr'
   obtain⟨o,ho,hd⟩:=cd i s hs
   obtain⟨Aa,nR,aO,_⟩:=lE hd
   cases hq:s.steady
   ·rw[hq]at ht
    simp only[cond_false,aos]at ht
    subst ht
    have uE:Mt ss i=false:=by simp[Mt,hs,hq]
    refine⟨GM ho hd hh h.1 (fun e he hN=>?_) (fun e he hF=>?_),ihr r' hr' env a H hh h.2⟩
    ·rw[←nR];exact iht t' TS _ _ _ (by rw[nR];exact he.put aO undef) hN
    ·rw[uE]
     refine(Go.Vc.sound s.op Aa he.vk hF).2.mono fun v H' ⟨k1,k2⟩=>⟨k1,?_⟩
     rw[←nR];exact iht t' TS _ _ _ (by rw[nR];exact he.put aO v) k2
   ·rw[hq]at ht
    cases ht
  ·cases ht
end
end Go.Vc
