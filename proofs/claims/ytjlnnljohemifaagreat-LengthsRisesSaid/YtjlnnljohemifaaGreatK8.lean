/-
  Texts put behind each other by a program: Stm.
-/
import Derived.Test.YtjlnnljohemifaaGreatK7
set_option linter.unusedVariables false
set_option linter.unusedSimpArgs false
namespace Go.Vc
abbrev Env:=List (Nat×Value)
def Env.find:Env→Nat→Option Value
 | [],_=>none
 | (k,v)::r,n=>bif k==n then some v else Env.find r n
@[go_sem] theorem Env.abo(n:Nat):Env.find [] n=none:=(rfl)
@[go_sem] theorem Env.Y4(k n:Nat)(v:Value)(r:Env):Env.find ((k,v)::r) n=bif k==n then some v else Env.find r n:=(rfl)
def Env.ev(env:Env):Ev
 | .tmp t=>Env.find env t
 | .const v=>some v
 | .global g=>some (.pointer (some ⟨g,0,none⟩))
 | .func f=>some (.func (.func f) #[] #[])
@[go_sem] theorem Env.afO(env:Env)(t:Nat):Env.ev env (.tmp t)=Env.find env t:=(rfl)
@[go_sem] theorem Env.abp(env:Env)(v:Value):Env.ev env (.const v)=some v:=(rfl)
@[go_sem] theorem Env.Y5(env:Env)(g:Nat):Env.ev env (.global g)=some (.pointer (some ⟨g,0,none⟩)):=(rfl)
@[go_sem] theorem Env.adl(env:Env)(f:Nat):Env.ev env (.func f)=some (.func (.func f) #[] #[]):=(rfl)
def Env.put(env:Env)(dst:Option Nat)(v:Value):Env:=match dst with|some d=>(d,v)::env|none=>env
@[go_sem] theorem Env.abq(env:Env)(d:Nat)(v:Value):Env.put env (some d) v=(d,v)::env:=(rfl)
@[go_sem] theorem Env.abr(env:Env)(v:Value):Env.put env none v=env:=(rfl)
def Env.aN(env:Env):List Nat→Env
 | []=>[]
 |k::ks=>match Env.find env k with|some v=>(k,v)::Env.aN env ks|none=>Env.aN env ks
def Mq(k:Nat)(o:Option Value)(r:Env):Env:=match o with|some v=>(k,v)::r|none=>r
@[go_sem] theorem Xx(k:Nat)(v:Value)(r:Env):Mq k (some v) r=(k,v)::r:=(rfl)
@[go_sem] theorem Xy(k:Nat)(r:Env):Mq k none r=r:=(rfl)
@[go_sem] theorem Env.abt(env:Env):Env.aN env []=[]:=(rfl)
@[go_sem] theorem Env.QA(env:Env)(k:Nat)(ks:List Nat):Env.aN env (k::ks)=Mq k (Env.find env k) (Env.aN env ks):=by
 unfold Mq;rw[Env.aN]
structure Holds(env:Env)(a:Act)(n:Nat):Prop where
 size:a.tmps.size=n
 defers:a.defers=[]
 C3:∀k v,Env.find env k=some v→a.tmps[k]? =some v
theorem Holds.xI{env:Env}{a:Act}{n:Nat}(h:Holds env a n):bR (Env.ev env) a:=by
 intro x v hx
 cases x with
 |tmp t=>simp only[Env.ev]at hx;simp[Act.eval,h.C3 t v hx]
 |const u=>injection hx with hx
 |global g=>injection hx with hx
 |func f=>injection hx with hx
theorem Holds.put{env:Env}{a:Act}{n:Nat}(h:Holds env a n){dst:Option Nat}(hd:∀d,dst=some d→d<n)(v:Value):Holds (Env.put env dst v) (a.put dst v) n:=by
 cases dst with
 |none=>exact h
 |some d=>
  have aR:=hd d rfl
  refine⟨by simp[Act.put,h.size],by simp[Act.put,h.defers],fun k u hk=>?_⟩
  simp only[Env.put,Env.find]at hk
  by_cases e:d=k
  ·subst e
   simp at hk
   subst hk
   simp[Act.put,h.size,aR]
  ·have:(d==k)=false:=by simpa using e
   rw[this]at hk
   simp only[cond_false]at hk
   simpa[Act.put,Array.getElem?_setIfInBounds_ne e]using h.C3 k u hk
theorem Holds.guard{env:Env}{a:Act}{n:Nat}(h:Holds env a n){g:Nat}{v:Value}(hg:Env.find env g=some v):Holds ((g,v)::env) a n:=by
 refine⟨h.size,h.defers,fun k u hk=>?_⟩
 simp only[Env.find]at hk
 by_cases e:g=k
 ·subst e
  simp at hk
  subst hk
  exact h.C3 g v hg
 ·have:(g==k)=false:=by simpa using e
  rw[this]at hk
  exact h.C3 k u hk
theorem QB(env:Env):∀ (ks:List Nat) (k:Nat) (v:Value),Env.find (Env.aN env ks) k=some v→Env.find env k=some v:=by
 intro ks
 induction ks with
 |nil=>intro k v h;cases h
 |cons x xs ih=>
  intro k v h
  rw[Env.QA]at h
  cases hx:Env.find env x with
  |none=>rw[hx]at h;exact ih k v h
  |some u=>
   rw[hx]at h
   simp only[Mq,Env.find]at h
   by_cases e:x=k
   ·subst e
    simp at h
    subst h
    exact hx
   ·have:(x==k)=false:=by simpa using e
    rw[this]at h
    exact ih k v h
theorem Holds.aN{env:Env}{a:Act}{n:Nat}(h:Holds env a n)(ks:List Nat):Holds (Env.aN env ks) a n:=
 ⟨h.size,h.defers,fun k v hk=>h.C3 k v (QB env ks k v hk)⟩
structure gB where
 quiet:Bool
 guard:Option (Nat×Bool)
 dst:Option Nat
 op:dc
 deriving Inhabited
def gB.vc(P:Program)(s:gB)(ev:Ev)(H:Hp)(K:Value→Hp→Prop):Prop:=
 bif s.quiet then∃v,s.op.vc P ev H (fun v' H'=>v'=v∧H'=H)∧K v H else s.op.vc P ev H K
@[go_sem ↓] theorem gB.abu(P:Program)(g:Option (Nat×Bool))(d:Option Nat)(op:dc)(ev:Ev)(H:Hp)(K:Value→Hp→Prop):gB.vc P ⟨false,g,d,op⟩ ev H K=op.vc P ev H K:=(rfl)
@[go_sem ↓] theorem gB.abv(P:Program)(g:Option (Nat×Bool))(d:Option Nat)(op:dc)(ev:Ev)(H:Hp)(K:Value→Hp→Prop):
  gB.vc P ⟨true,g,d,op⟩ ev H K=∃v,op.vc P ev H (fun v' H'=>v'=v∧H'=H)∧K v H:=(rfl)
def Hq(o:Option Value)(F:Bool→Prop)(_t:Tag F:=⟨⟩):Prop:=match o with|some v=>CW v F|none=>False
@[go_sem] theorem Vw(v:Value)(F:Bool→Prop):Hq (some v) F=CW v F:=(rfl)
def gV(o:Option Value)(F:Bool→Prop)(N:Prop)(_t:Tag F:=⟨⟩)(_u:Tag N:=⟨⟩):Prop:=
 match o with|some v=>(match v with| .bool b=>am b F| .tuple _=>N|_=>False)|none=>False
@[go_sem] theorem adm(b:Bool)(F:Bool→Prop)(N:Prop):gV (some (.bool b)) F N=am b F:=(rfl)
@[go_sem] theorem abw(F:Bool→Prop)(N:Prop):gV (some undef) F N=N:=(rfl)
theorem FT{o:Option Value}{F:Bool→Prop}{N:Prop}(h:gV o F N):(∃b,o=some (.bool b)∧F b)∨(∃vs,o=some (.tuple vs)∧N):=by
 unfold gV at h
 split at h
 ·rename_i v
  split at h
  ·rename_i b
   obtain⟨b',e,h2⟩:=Bf (v:=.bool b) (F:=F) h
   injection e with e
   subst e
   exact .inl ⟨b,rfl,h2⟩
  ·rename_i vs
   exact .inr ⟨vs,rfl,h⟩
  ·exact h.elim
 ·exact h.elim
def kH(P:Program)(K:Env→Hp→Prop):List gB→Env→Hp→Prop
 | [],env,H=>K env H
 |s::r,env,H=>
  match s.guard with
  |none=>s.vc P (Env.ev env) H fun v H'=>kH P K r (Env.put env s.dst v) H'
  |some (g,want)=>gV (Env.find env g) (fun b=>
   G7 (b==want) (s.vc P (Env.ev ((g,.bool b)::env)) H fun v H'=>kH P K r (Env.put ((g,.bool b)::env) s.dst v) H')
    (kH P K r (Env.put ((g,.bool b)::env) s.dst undef) H)) (kH P K r (Env.put env s.dst undef) H)
@[go_sem ↓] theorem Y6(P:Program)(K:Env→Hp→Prop)(env:Env)(H:Hp):kH P K [] env H=K env H:=(rfl)
@[go_sem ↓] theorem Xz(P:Program)(K:Env→Hp→Prop)(q:Bool)(d:Option Nat)(op:dc)(r:List gB)(env:Env)(H:Hp):
  kH P K (⟨q,none,d,op⟩::r) env H=gB.vc P ⟨q,none,d,op⟩ (Env.ev env) H fun v H'=>kH P K r (Env.put env d v) H':=(rfl)
@[go_sem ↓] theorem Vx(P:Program)(K:Env→Hp→Prop)(q:Bool)(g:Nat)(want:Bool)(d:Option Nat)(op:dc)(r:List gB)(env:Env)(H:Hp):
  kH P K (⟨q,some (g,want),d,op⟩::r) env H=gV (Env.find env g) (fun b=>
   G7 (b==want) (gB.vc P ⟨q,none,d,op⟩ (Env.ev ((g,.bool b)::env)) H fun v H'=>kH P K r (Env.put ((g,.bool b)::env) d v) H')
    (kH P K r (Env.put ((g,.bool b)::env) d undef) H)) (kH P K r (Env.put env d undef) H):=(rfl)
def uK(P:Program)(n:Nat)(ops:Array Oper)(q:List Nat)(i:Nat)(o:Oper):Option gB:=
 match o.dst with
 |some d=>if d<n then go (some d)else none
 |none=>go none
 where
 go (dst:Option Nat):Option gB:=
  match Jq P o with
  |none=>none
  |some op=>
   match o.guard with
   |none=>some ⟨q.contains i,none,dst,op⟩
   |some (j,want)=>match(ops[j]?).bind (·.dst)with
    |some g=>some ⟨q.contains i,some (g,want),dst,op⟩
    |none=>none
def j0(P:Program)(n:Nat)(ops:Array Oper)(q:List Nat):Nat→List Oper→Option (List gB)
 |_,[]=>some []
 |i,o::r=>
  match uK P n ops q i o with
  |none=>none
  |some s=>(j0 P n ops q (i+1) r).map (s:: ·)
def gB.cls(s:gB):Lo:=match s.op.cls with| .Ii=>bif s.quiet then .quiet else .Ii|c=>c
def SZ(l:List gB)(i:Nat):Lo:=match l[i]? with|some s=>s.cls|none=>.Ii
section
variable {P : Program} {ops : Array Oper} {n : Nat}
theorem nZ{q:List Nat}{i:Nat}{o:Oper}{s:gB}(h:uK P n ops q i o=some s):
  Jq P o=some s.op∧s.dst=o.dst∧(∀d,o.dst=some d→d<n)∧
   ((o.guard=none∧s.guard=none)∨∃j want g,o.guard=some (j,want)∧(ops[j]?).bind (·.dst)=some g∧s.guard=some (g,want)):=by
 have key:∀dst,uK.go P ops q i o dst=some s→Jq P o=some s.op∧s.dst=dst∧
   ((o.guard=none∧s.guard=none)∨∃j want g,o.guard=some (j,want)∧(ops[j]?).bind (·.dst)=some g∧s.guard=some (g,want)):=by
  intro dst h
  unfold uK.go at h
  split at h
  ·cases h
  ·rename_i op C7
   split at h
   ·rename_i hg;injection h with h;subst h;exact⟨C7,rfl,.inl ⟨hg,rfl⟩⟩
   ·rename_i j want hg
    split at h
    ·rename_i g Bp;injection h with h;subst h;exact⟨C7,rfl,.inr ⟨j,want,g,hg,Bp,rfl⟩⟩
    ·cases h
 unfold uK at h
 split at h
 ·rename_i d hd
  split at h
  ·rename_i aR
   obtain⟨h1,h2,h3⟩:=key _ h
   exact⟨h1,h2.trans hd.symm,(fun d' e=>by rw[hd]at e;injection e with e;subst e;exact aR),h3⟩
  ·cases h
 ·rename_i hd
  obtain⟨h1,h2,h3⟩:=key _ h
  exact⟨h1,h2.trans hd.symm,(fun d' e=>by rw[hd]at e;cases e),h3⟩
theorem xJ{o:Oper}{y:Nat→Option Bool}(h:o.guard=none):Region.wanted o y=true:=by simp[Region.wanted,h]
theorem xK{o:Oper}{a:Act}{j g:Nat}{want b:Bool}(h:o.guard=some (j,want))(hg:(ops[j]?).bind (·.dst)=some g)(hv:a.tmps[g]? =some (.bool b)):
  Region.wanted o (yielded ops a.tmps)=(b==want):=by
 have:yielded ops a.tmps j=some b:=by simp[yielded,hg,hv]
 simp[Region.wanted,h,this]
theorem uL{o:Oper}{a:Act}{j g:Nat}{want:Bool}{vs:Array Value}(h:o.guard=some (j,want))(hg:(ops[j]?).bind (·.dst)=some g)(hv:a.tmps[g]? =some (.tuple vs)):
  Region.wanted o (yielded ops a.tmps)=false:=by
 have:yielded ops a.tmps j=none:=by simp[yielded,hg,hv]
 simp[Region.wanted,h,this]
theorem gB.sound{s:gB}{o:Oper}{a:Act}{ev:Ev}{H:Hp}{K:Value→Hp→Prop}(hd:Jq P o=some s.op)(bH:bR ev a)(h:s.vc P ev H K):dV P o a H K:=by
 unfold gB.vc at h
 cases hq:s.quiet
 ·rw[hq]at h;exact(Go.Vc.sound s.op hd bH h).2
 ·rw[hq]at h
  obtain⟨v,h1,h2⟩:=h
  exact(Go.Vc.sound s.op hd bH h1).2.mono fun v' H' ⟨e1,e2⟩=>by rw[e1,e2];exact h2
theorem Oc{K:Env→Hp→Prop}{q:List Nat}:∀ (l:List Oper) (i:Nat) (ss:List gB),(∀k,l[k]? =ops[i+k]?)→j0 P n ops q i l=some ss→
  ∀ (env:Env) (a:Act) (H:Hp),Holds env a n→kH P K ss env H→Ln P ops (fun a' H'=>∃be,Holds be a' n∧K be H') (List.range' i l.length) a H:=by
 intro l
 induction l with
 |nil=>
  intro i ss _ hd env a H hh h
  simp only[j0,Option.some.injEq]at hd
  subst hd
  exact⟨env,hh,h⟩
 |cons o l ih=>
  intro i ss hl hd env a H hh h
  unfold j0 at hd
  split at hd
  ·cases hd
  ·rename_i s hs
   cases hr:j0 P n ops q (i+1) l with
   |none=>rw[hr]at hd;cases hd
   |some To=>
    rw[hr]at hd
    simp only[Option.map_some,Option.some.injEq]at hd
    subst hd
    obtain⟨C7,qG,aR,hg⟩:=nZ hs
    have XA:ops[i]? =some o:=by have:=hl 0;simpa using this.symm
    have Np:∀k,l[k]? =ops[i+1+k]? :=fun k=>by have:=hl (k+1);rw[List.getElem?_cons_succ]at this;rw[this];congr 1;omega
    rw[List.length_cons,List.range'_succ]
    simp only[Ln,XA]
    unfold kH at h
    rcases hg with ⟨O0,Ea⟩| ⟨j,want,g,O0,Ea,hg3⟩
    ·rw[xJ O0,if_pos rfl]
     rw[Ea]at h
     refine(gB.sound C7 hh.xI h).mono fun v H' hk=>?_
     rw[qG]at hk
     exact ih (i+1) To Np hr _ _ _ (hh.put aR v) hk
    ·rw[hg3]at h
     rcases FT h with ⟨b,hv,h⟩| ⟨vs,hv,h⟩
     ·have Mr:=xK (o:=o) O0 Ea (hh.C3 g _ hv)
      rw[Mr]
      have qU:=hh.guard hv
      cases hb:b==want
      ·rw[hb]at h
       simp only[G7]at h
       rw[if_neg (by simp)]
       rw[qG]at h
       exact ih (i+1) To Np hr _ _ _ (qU.put aR undef) h
      ·rw[hb]at h
       simp only[G7]at h
       rw[if_pos rfl]
       refine(gB.sound C7 qU.xI h).mono fun v H' hk=>?_
       rw[qG]at hk
       exact ih (i+1) To Np hr _ _ _ (qU.put aR v) hk
     ·rw[uL O0 Ea (hh.C3 g _ hv),if_neg (by simp)]
      rw[qG]at h
      exact ih (i+1) To Np hr _ _ _ (hh.put aR undef) h
def aby(P:Program)(s:gB)(env:Env)(H:Hp)(F:Env→Hp→Prop):Prop:=
 match s.guard with
 |none=>s.vc P (Env.ev env) H fun v H'=>F (Env.put env s.dst v) H'
 |some (g,want)=>gV (Env.find env g) (fun b=>
   G7 (b==want) (s.vc P (Env.ev ((g,.bool b)::env)) H fun v H'=>F (Env.put ((g,.bool b)::env) s.dst v) H')
    (F (Env.put ((g,.bool b)::env) s.dst undef) H)) (F (Env.put env s.dst undef) H)
theorem S0{q:List Nat}{cls:Nat→Lo}{i:Nat}{o:Oper}{s:gB}{F:Env→Hp→Prop}{G:Act→Hp→Prop}{env:Env}{a:Act}{H:Hp}(XA:ops[i]? =some o)(hs:uK P n ops q i o=some s)(VS:cls i=s.cls)
  (hh:Holds env a n)(h:aby P s env H F)(next:∀be a' H',Holds be a' n→F be H'→G a' H'):my P ops cls i G a H:=by
 obtain⟨C7,qG,aR,hg⟩:=nZ hs
 have step:∀ (env:Env),Holds env a n→s.vc P (Env.ev env) H (fun v H'=>F (Env.put env s.dst v) H')→
   (match cls i with
    | .pure=>∃v,(∀w,(execOp a.eval o).run P w= .ok (.value v) w)∧G (a.put o.dst v) H
    | .quiet=>∃v,dV P o a H (fun v' H'=>v'=v∧H'=H)∧G (a.put o.dst v) H
    | .Ii=>dV P o a H fun v H'=>G (a.put o.dst v) H'):=by
  intro env hh h
  have next':∀v H',F (Env.put env s.dst v) H'→G (a.put o.dst v) H':=by
   intro v H' hk
   rw[qG]at hk
   exact next _ _ _ (hh.put aR v) hk
  rw[VS]
  unfold gB.cls
  cases hc:s.op.cls with
  |pure=>
   have hp:s.op.vc P (Env.ev env) H (fun v H'=>F (Env.put env s.dst v) H'):=by
    unfold gB.vc at h
    cases hq:s.quiet
    ·rw[hq]at h;exact h
    ·rw[hq]at h
     obtain⟨v,h1,h2⟩:=h
     exact(OZ s.op hc h1 fun v' H' ⟨e1,e2⟩=>by rw[e1,e2];exact h2)
   obtain⟨v,e1,e2⟩:=(Go.Vc.sound s.op C7 hh.xI hp).1 hc
   exact⟨v,e1,next' _ _ e2⟩
  |quiet=>
   unfold gB.vc at h
   cases hq:s.quiet
   ·rw[hq]at h
    obtain⟨v,h1,h2⟩:=SY s.op hc h
    exact⟨v,(Go.Vc.sound s.op C7 hh.xI h1).2,next' _ _ h2⟩
   ·rw[hq]at h
    obtain⟨v,h1,h2⟩:=h
    exact⟨v,(Go.Vc.sound s.op C7 hh.xI h1).2,next' _ _ h2⟩
  |Ii=>
   unfold gB.vc at h
   cases hq:s.quiet
   ·rw[hq]at h;exact(Go.Vc.sound s.op C7 hh.xI h).2.mono next'
   ·rw[hq]at h
    obtain⟨v,h1,h2⟩:=h
    exact⟨v,(Go.Vc.sound s.op C7 hh.xI h1).2,next' _ _ h2⟩
 unfold my
 simp only[XA]
 unfold aby at h
 rcases hg with ⟨O0,Ea⟩| ⟨j,want,g,O0,Ea,hg3⟩
 ·rw[xJ O0,if_pos rfl]
  rw[Ea]at h
  exact step env hh h
 ·rw[hg3]at h
  rcases FT h with ⟨b,hv,h⟩| ⟨vs,hv,h⟩
  ·have Mr:=xK (o:=o) O0 Ea (hh.C3 g _ hv)
   rw[Mr]
   have qU:=hh.guard hv
   cases hb:b==want
   ·rw[hb]at h
    simp only[G7]at h
    rw[if_neg (by simp)]
    rw[qG]at h
    exact next _ _ _ (qU.put aR undef) h
   ·rw[hb]at h
    simp only[G7]at h
    rw[if_pos rfl]
    exact step _ qU h
  ·rw[uL O0 Ea (hh.C3 g _ hv),if_neg (by simp)]
   rw[qG]at h
   exact next _ _ _ (hh.put aR undef) h
theorem Od{K:Env→Hp→Prop}{q:List Nat}{cls:Nat→Lo}:∀ (l:List Oper) (i:Nat) (ss:List gB),(∀k,l[k]? =ops[i+k]?)→j0 P n ops q i l=some ss→
  (∀k s,ss[k]? =some s→cls (i+k)=s.cls)→
  ∀ (env:Env) (a:Act) (H:Hp),Holds env a n→kH P K ss env H→Ry P ops cls (fun a' H'=>∃be,Holds be a' n∧K be H') (List.range' i l.length) a H:=by
 intro l
 induction l with
 |nil=>
  intro i ss _ hd _ env a H hh h
  simp only[j0,Option.some.injEq]at hd
  subst hd
  exact⟨env,hh,h⟩
 |cons o l ih=>
  intro i ss hl hd abz env a H hh h
  unfold j0 at hd
  split at hd
  ·cases hd
  ·rename_i s hs
   cases hr:j0 P n ops q (i+1) l with
   |none=>rw[hr]at hd;cases hd
   |some To=>
    rw[hr]at hd
    simp only[Option.map_some,Option.some.injEq]at hd
    subst hd
    have XA:ops[i]? =some o:=by have:=hl 0;simpa using this.symm
    have Np:∀k,l[k]? =ops[i+1+k]? :=fun k=>by have:=hl (k+1);rw[List.getElem?_cons_succ]at this;rw[this];congr 1;omega
    have VS:cls i=s.cls:=by have:=abz 0 s rfl;simpa using this
    have abA:∀k s',To[k]? =some s'→cls (i+1+k)=s'.cls:=fun k s' e=>by have:=abz (k+1) s' (by simpa using e);rw[←this];congr 1;omega
    rw[List.length_cons,List.range'_succ]
    exact S0 (F:=kH P K To) XA hs VS hh h fun be a' H' qU hk=>ih (i+1) To Np hr abA be a' H' qU hk
theorem Oe{q:List Nat}:∀ (l:List Oper) (i:Nat) (ss:List gB),(∀k,l[k]? =ops[i+k]?)→j0 P n ops q i l=some ss→∀k s,ss[k]? =some s→∃o,ops[i+k]? =some o∧uK P n ops q (i+k) o=some s:=by
 intro l
 induction l with
 |nil=>intro i ss _ hd k s hk;simp only[j0,Option.some.injEq]at hd;subst hd;simp at hk
 |cons o l ih=>
  intro i ss hl hd k s hk
  unfold j0 at hd
  split at hd
  ·cases hd
  ·rename_i s0 hs
   cases hr:j0 P n ops q (i+1) l with
   |none=>rw[hr]at hd;cases hd
   |some To=>
    rw[hr]at hd
    simp only[Option.map_some,Option.some.injEq]at hd
    subst hd
    have Np:∀k,l[k]? =ops[i+1+k]? :=fun k=>by have:=hl (k+1);rw[List.getElem?_cons_succ]at this;rw[this];congr 1;omega
    cases k with
    |zero=>
     simp only[List.getElem?_cons_zero,Option.some.injEq]at hk
     subst hk
     exact⟨o,by have:=hl 0;simpa using this.symm,hs⟩
    |succ k=>
     have:=ih (i+1) To Np hr k s (by simpa using hk)
     rw[show i+1+k=i+(k+1) by omega]at this
     exact this
inductive S5 where
 |done
 |aY(s:gB)(t:S5)
 |HU(s:gB)(t:S5)
 |aQ(s:gB)(t r:S5)
 |stop
 deriving Inhabited
def gB.steady(s:gB):Bool:=s.quiet || (match s.op.cls with| .pure=>true|_=>false)
def Ms(l:List gB)(i:Nat):Bool:=match l[i]? with|some s=>s.steady|none=>false
def attach(ss:List gB):Ot→Option S5
 | .done=>some .done
 | .step i t=>match ss[i]?,attach ss t with
  |some s,some t=>bif s.quiet then some (.HU s t)else match s.op.cls with| .pure=>some (.aY s t)|_=>none
  |_,_=>none
 | .aQ i t r=>match ss[i]?,attach ss t,attach ss r with
  |some s,some t,some r=>bif s.steady then none else some (.aQ s t r)
  |_,_,_=>none
 | .stop=>some .stop
def Jd(A B:Prop)(_ta:Tag A:=⟨⟩)(_tb:Tag B:=⟨⟩):Prop:=A∧B
theorem Jd.intro{A B:Prop}(a:A)(b:B):Jd A B:=⟨a,b⟩
@[go_sem] theorem abB(A:Prop):Jd A True=A:=by simp[Jd]
def rW(Inv:Hp→Prop)(G:Hp→(Value→Hp→Prop)→Prop)(K:Value→Prop)(_t:Tag G:=⟨⟩)(_u:Tag K:=⟨⟩):Prop:=∃v,(∀H',Inv H'→G H' fun v' Gk=>v'=v∧Gk=H')∧K v
theorem rW.intro{Inv:Hp→Prop}{G:Hp→(Value→Hp→Prop)→Prop}{K:Value→Prop}(v:Value)(h:∀H',Inv H'→G H' fun v' Gk=>v'=v∧Gk=H')(k:K v):rW Inv G K:=⟨v,h,k⟩
def rV(H:Hp)(F:(Hp→Prop)→Prop)(_t:Tag F:=⟨⟩):Prop:=∃Inv,Inv H∧F Inv
theorem rV.intro{H:Hp}{F:(Hp→Prop)→Prop}(Inv:Hp→Prop)(h:Inv H)(f:F Inv):rV H F:=⟨Inv,h,f⟩
def C4(s:gB)(env:Env)(F:Env→Prop)(N:Env→Prop):Prop:=
 match s.guard with
 |none=>F env
 |some (g,want)=>gV (Env.find env g) (fun b=>G7 (b==want) (F ((g,.bool b)::env)) (N ((g,.bool b)::env))) (N env)
@[go_sem ↓] theorem XB(q:Bool)(d:Option Nat)(op:dc)(env:Env)(F N:Env→Prop):C4 ⟨q,none,d,op⟩ env F N=F env:=(rfl)
@[go_sem ↓] theorem XC(q:Bool)(g:Nat)(want:Bool)(d:Option Nat)(op:dc)(env:Env)(F N:Env→Prop):
  C4 ⟨q,some (g,want),d,op⟩ env F N=gV (Env.find env g) (fun b=>G7 (b==want) (F ((g,.bool b)::env)) (N ((g,.bool b)::env))) (N env):=(rfl)
def Et(P:Program)(Inv:Hp→Prop)(K:Env→Hp→Prop):S5→Env→Hp→Prop
 | .done,env,H=>K env H
 | .aY s t,env,H=>C4 s env (fun e=>s.op.vc P (Env.ev e) H fun v H'=>Et P Inv K t (Env.put e s.dst v) H') (fun e=>Et P Inv K t (Env.put e s.dst undef) H)
 | .HU s t,env,H=>C4 s env (fun e=>rW Inv (fun H' k=>s.op.vc P (Env.ev e) H' k) fun v=>Et P Inv K t (Env.put e s.dst v) H) (fun e=>Et P Inv K t (Env.put e s.dst undef) H)
 | .aQ s t r,env,H=>Jd (C4 s env (fun e=>s.op.vc P (Env.ev e) H fun v H'=>eC (Inv H') (Et P Inv K t (Env.put e s.dst v) H')) (fun e=>Et P Inv K t (Env.put e s.dst undef) H)) (Et P Inv K r env H)
 | .stop,_,_=>True
section
variable (Inv : Hp → Prop) (K : Env → Hp → Prop) (s : gB) (t r : S5) (env : Env) (H : Hp)
@[go_sem ↓] theorem abC:Et P Inv K .done env H=K env H:=(rfl)
@[go_sem ↓] theorem abD:Et P Inv K .stop env H=True:=(rfl)
@[go_sem ↓] theorem adn(q:Bool)(g:Option (Nat×Bool))(d:Option Nat)(op:dc):Et P Inv K (.aY ⟨q,g,d,op⟩ t) env H=
  C4 ⟨q,g,d,op⟩ env (fun e=>op.vc P (Env.ev e) H fun v H'=>Et P Inv K t (Env.put e d v) H') (fun e=>Et P Inv K t (Env.put e d undef) H):=(rfl)
@[go_sem ↓] theorem ado(q:Bool)(g:Option (Nat×Bool))(d:Option Nat)(op:dc):Et P Inv K (.HU ⟨q,g,d,op⟩ t) env H=
  C4 ⟨q,g,d,op⟩ env (fun e=>rW Inv (fun H' k=>op.vc P (Env.ev e) H' k) fun v=>Et P Inv K t (Env.put e d v) H) (fun e=>Et P Inv K t (Env.put e d undef) H):=(rfl)
@[go_sem ↓] theorem abE(q:Bool)(g:Option (Nat×Bool))(d:Option Nat)(op:dc)(s':gB)(t' r':S5):Et P Inv K (.aQ ⟨q,g,d,op⟩ t (.aQ s' t' r')) env H=
  Jd (C4 ⟨q,g,d,op⟩ env (fun e=>op.vc P (Env.ev e) H fun v H'=>eC (Inv H') (Et P Inv K t (Env.put e d v) H')) (fun e=>Et P Inv K t (Env.put e d undef) H)) (Et P Inv K (.aQ s' t' r') env H):=(rfl)
@[go_sem ↓] theorem Y7(q:Bool)(g:Option (Nat×Bool))(d:Option Nat)(op:dc):Et P Inv K (.aQ ⟨q,g,d,op⟩ t .stop) env H=
  C4 ⟨q,g,d,op⟩ env (fun e=>op.vc P (Env.ev e) H fun v H'=>eC (Inv H') (Et P Inv K t (Env.put e d v) H')) (fun e=>Et P Inv K t (Env.put e d undef) H):=by
 show Jd _ True=_
 simp[Jd]
end
theorem Hr{q:List Nat}{Inv:Hp→Prop}{st:Nat→Bool}{i:Nat}{o:Oper}{s:gB}{F N:Env→Prop}{G:Act→Hp→Prop}{env:Env}{a:Act}{H:Hp}(XA:ops[i]? =some o)(hs:uK P n ops q i o=some s)
  (hh:Holds env a n)(h:C4 s env F N)(hN:∀e,Holds e a n→N e→G (a.put o.dst undef) H)
  (hF:∀e,Holds e a n→F e→match st i with
   |true=>∃v,(∀H',Inv H'→dV P o a H' fun v' Gk=>v'=v∧Gk=H')∧G (a.put o.dst v) H
   |false=>dV P o a H fun v H'=>Inv H'∧G (a.put o.dst v) H'):kA P ops Inv st i G a H:=by
 obtain⟨C7,qG,aR,hg⟩:=nZ hs
 unfold kA
 simp only[XA]
 unfold C4 at h
 rcases hg with ⟨O0,Ea⟩| ⟨j,want,g,O0,Ea,hg3⟩
 ·rw[xJ O0,if_pos rfl]
  rw[Ea]at h
  exact hF env hh h
 ·rw[hg3]at h
  rcases FT h with ⟨b,hv,h⟩| ⟨vs,hv,h⟩
  ·have Mr:=xK (o:=o) O0 Ea (hh.C3 g _ hv)
   rw[Mr]
   have qU:=hh.guard hv
   cases hb:b==want
   ·rw[hb]at h
    rw[if_neg (by simp)]
    exact hN _ qU h
   ·rw[hb]at h
    rw[if_pos rfl]
    exact hF _ qU h
  ·rw[uL O0 Ea (hh.C3 g _ hv),if_neg (by simp)]
   exact hN _ hh h
theorem Mt{K:Env→Hp→Prop}{q:List Nat}{Inv:Hp→Prop}{ss:List gB}(ce:∀k s,ss[k]? =some s→∃o,ops[k]? =some o∧uK P n ops q k o=some s):
  ∀ (t:Ot) (ts:S5),attach ss t=some ts→∀ (env:Env) (a:Act) (H:Hp),Holds env a n→Et P Inv K ts env H→Pv P ops Inv (Ms ss) (fun a' H'=>∃be,Holds be a' n∧K be H') t a H:=by
 intro t
 induction t with
 |done=>intro ts ht env a H hh h;simp only[attach,Option.some.injEq]at ht;subst ht;exact⟨env,hh,h⟩
 |stop=>intro ts ht env a H hh h;trivial
 |step i t ih=>
  intro ts ht env a H hh h
  unfold attach at ht
  split at ht
  ·rename_i s t' hs TE
   obtain⟨o,ho,hd⟩:=ce i s hs
   obtain⟨C7,qG,aR,_⟩:=nZ hd
   cases hq:s.quiet
   ·rw[hq]at ht
    simp only[cond_false]at ht
    split at ht
    ·rename_i hc
     injection ht with ht
     subst ht
     have w8:Ms ss i=true:=by simp[Ms,hs,gB.steady,hc]
     refine Hr ho hd hh h (fun e he hN=>?_) (fun e he hF=>?_)
     ·rw[←qG];exact ih t' TE _ _ _ (by rw[qG];exact he.put aR undef) hN
     ·rw[w8]
      obtain⟨v,e1,e2⟩:=(Go.Vc.sound s.op C7 he.xI hF).1 hc
      refine⟨v,fun H' _=>Cg e1 H',?_⟩
      rw[←qG];exact ih t' TE _ _ _ (by rw[qG];exact he.put aR v) e2
    ·cases ht
   ·rw[hq]at ht
    simp only[cond_true,Option.some.injEq]at ht
    subst ht
    have w8:Ms ss i=true:=by simp[Ms,hs,gB.steady,hq]
    refine Hr ho hd hh h (fun e he hN=>?_) (fun e he hF=>?_)
    ·rw[←qG];exact ih t' TE _ _ _ (by rw[qG];exact he.put aR undef) hN
    ·rw[w8]
     obtain⟨v,e1,e2⟩:=hF
     refine⟨v,fun H' hI=>(Go.Vc.sound s.op C7 he.xI (e1 H' hI)).2,?_⟩
     rw[←qG];exact ih t' TE _ _ _ (by rw[qG];exact he.put aR v) e2
  ·cases ht
 |aQ i t r iht ZI=>
  intro ts ht env a H hh h
  unfold attach at ht
  split at ht
  ·rename_i s t' r' hs TE hr'
   obtain⟨o,ho,hd⟩:=ce i s hs
   obtain⟨C7,qG,aR,_⟩:=nZ hd
   cases hq:s.steady
   ·rw[hq]at ht
    simp only[cond_false,Option.some.injEq]at ht
    subst ht
    have w8:Ms ss i=false:=by simp[Ms,hs,hq]
    refine⟨Hr ho hd hh h.1 (fun e he hN=>?_) (fun e he hF=>?_),ZI r' hr' env a H hh h.2⟩
    ·rw[←qG];exact iht t' TE _ _ _ (by rw[qG];exact he.put aR undef) hN
    ·rw[w8]
     refine(Go.Vc.sound s.op C7 he.xI hF).2.mono fun v H' ⟨k1,k2⟩=>⟨k1,?_⟩
     rw[←qG];exact iht t' TE _ _ _ (by rw[qG];exact he.put aR v) k2
   ·rw[hq]at ht
    cases ht
  ·cases ht
end
end Go.Vc
