/- Texts put behind each other. -/
import Derived.Test.YtjlnnljohemifaaGreatK98
import Derived.Test.YtjlnnljohemifaaGreatK7
set_option linter.unusedVariables false
set_option linter.unusedSimpArgs false
namespace Go.Vc
abbrev Env:=List (Nat×Value)
def Env.find:Env→Nat→Option Value
 | [],_=>none
 | (k,v)::r,n=>bif k==n then some v else Env.find r n
@[go_sem] theorem Env.acC(n:Nat):Env.find [] n=none:=(rfl)
@[go_sem] theorem Env.Z9(k n:Nat)(v:Value)(r:Env):Env.find ((k,v)::r) n=bif k==n then some v else Env.find r n:=(rfl)
def Env.ev(env:Env):Ev
 | .tmp t=>Env.find env t
 | .const v=>some v
 | .global g=>some (.pointer (some ⟨g,0,none⟩))
 | .func f=>some (.func (.func f) #[] #[])
@[go_sem] theorem Env.ag6(env:Env)(t:Nat):Env.ev env (.tmp t)=Env.find env t:=(rfl)
@[go_sem] theorem Env.acD(env:Env)(v:Value):Env.ev env (.const v)=some v:=(rfl)
@[go_sem] theorem Env.aaa(env:Env)(g:Nat):Env.ev env (.global g)=some (.pointer (some ⟨g,0,none⟩)):=(rfl)
@[go_sem] theorem Env.aex(env:Env)(f:Nat):Env.ev env (.func f)=some (.func (.func f) #[] #[]):=(rfl)
def Env.put(env:Env)(dst:Option Nat)(v:Value):Env:=match dst with|some d=>(d,v)::env|none=>env
@[go_sem] theorem Env.acE(env:Env)(d:Nat)(v:Value):Env.put env (some d) v=(d,v)::env:=(rfl)
@[go_sem] theorem Env.acF(env:Env)(v:Value):Env.put env none v=env:=(rfl)
def Env.aP(env:Env):List Nat→Env
 | []=>[]
 |k::ks=>match Env.find env k with|some v=>(k,v)::Env.aP env ks|none=>Env.aP env ks
def M6(k:Nat)(o:Option Value)(r:Env):Env:=match o with|some v=>(k,v)::r|none=>r
@[go_sem] theorem Yz(k:Nat)(v:Value)(r:Env):M6 k (some v) r=(k,v)::r:=(rfl)
@[go_sem] theorem YA(k:Nat)(r:Env):M6 k none r=r:=(rfl)
@[go_sem] theorem Env.acG(env:Env):Env.aP env []=[]:=(rfl)
@[go_sem] theorem Env.Rq(env:Env)(k:Nat)(ks:List Nat):Env.aP env (k::ks)=M6 k (Env.find env k) (Env.aP env ks):=by
 unfold M6;rw[Env.aP]
structure Holds(env:Env)(a:Act)(n:Nat):Prop where
 size:a.tmps.size=n
 defers:a.defers=[]
 Dn:∀k v,Env.find env k=some v→a.tmps[k]? =some v
theorem Holds.xZ{env:Env}{a:Act}{n:Nat}(h:Holds env a n):bT (Env.ev env) a:=by
 intro x v hx
 cases x with
 |tmp t=>simp only[Env.ev]at hx;simp[Act.eval,h.Dn t v hx]
 |const u=>injection hx with hx
 |global g=>injection hx with hx
 |func f=>injection hx with hx
theorem Holds.put{env:Env}{a:Act}{n:Nat}(h:Holds env a n){dst:Option Nat}(hd:∀d,dst=some d→d<n)(v:Value):Holds (Env.put env dst v) (a.put dst v) n:=by
 cases dst with
 |none=>exact h
 |some d=>
  have aR:=hd d rfl
  refine⟨by simp[Act.put,h.size],by simp[Act.put,h.defers],fun k u hk=>?_⟩
  simp only[Env.put,Env.find]at hk
  by_cases e:d=k
  ·subst e
   simp at hk
   subst hk
   simp[Act.put,h.size,aR]
  ·have:(d==k)=false:=by simpa using e
   rw[this]at hk
   simp only[cond_false]at hk
   simpa[Act.put,Array.getElem?_setIfInBounds_ne e]using h.Dn k u hk
theorem Holds.guard{env:Env}{a:Act}{n:Nat}(h:Holds env a n){g:Nat}{v:Value}(hg:Env.find env g=some v):Holds ((g,v)::env) a n:=by
 refine⟨h.size,h.defers,fun k u hk=>?_⟩
 simp only[Env.find]at hk
 by_cases e:g=k
 ·subst e
  simp at hk
  subst hk
  exact h.Dn g v hg
 ·have:(g==k)=false:=by simpa using e
  rw[this]at hk
  exact h.Dn k u hk
theorem Rr(env:Env):∀ (ks:List Nat) (k:Nat) (v:Value),Env.find (Env.aP env ks) k=some v→Env.find env k=some v:=by
 intro ks
 induction ks with
 |nil=>intro k v h;cases h
 |cons x xs ih=>
  intro k v h
  rw[Env.Rq]at h
  cases hx:Env.find env x with
  |none=>rw[hx]at h;exact ih k v h
  |some u=>
   rw[hx]at h
   simp only[M6,Env.find]at h
   by_cases e:x=k
   ·subst e
    simp at h
    subst h
    exact hx
   ·have:(x==k)=false:=by simpa using e
    rw[this]at h
    exact ih k v h
theorem Holds.aP{env:Env}{a:Act}{n:Nat}(h:Holds env a n)(ks:List Nat):Holds (Env.aP env ks) a n:=
 ⟨h.size,h.defers,fun k v hk=>h.Dn k v (Rr env ks k v hk)⟩
structure gz where
 quiet:Bool
 guard:Option (Nat×Bool)
 dst:Option Nat
 op:df
 deriving Inhabited
def gz.vc(P:Program)(s:gz)(ev:Ev)(H:Hp)(K:Value→Hp→Prop):Prop:=
 bif s.quiet then∃v,s.op.vc P ev H (fun v' H'=>v'=v∧H'=H)∧K v H else s.op.vc P ev H K
@[go_sem ↓] theorem gz.acH(P:Program)(g:Option (Nat×Bool))(d:Option Nat)(op:df)(ev:Ev)(H:Hp)(K:Value→Hp→Prop):gz.vc P ⟨false,g,d,op⟩ ev H K=op.vc P ev H K:=(rfl)
@[go_sem ↓] theorem gz.acI(P:Program)(g:Option (Nat×Bool))(d:Option Nat)(op:df)(ev:Ev)(H:Hp)(K:Value→Hp→Prop):
  gz.vc P ⟨true,g,d,op⟩ ev H K=∃v,op.vc P ev H (fun v' H'=>v'=v∧H'=H)∧K v H:=(rfl)
def Ij(o:Option Value)(F:Bool→Prop)(_t:Tag F:=⟨⟩):Prop:=match o with|some v=>Dg v F|none=>False
@[go_sem] theorem WC(v:Value)(F:Bool→Prop):Ij (some v) F=Dg v F:=(rfl)
def gV(o:Option Value)(F:Bool→Prop)(N:Prop)(_t:Tag F:=⟨⟩)(_u:Tag N:=⟨⟩):Prop:=
 match o with|some v=>(match v with| .bool b=>am b F| .tuple _=>N|_=>False)|none=>False
@[go_sem] theorem aey(b:Bool)(F:Bool→Prop)(N:Prop):gV (some (.bool b)) F N=am b F:=(rfl)
@[go_sem] theorem acJ(F:Bool→Prop)(N:Prop):gV (some undef) F N=N:=(rfl)
theorem Gr{o:Option Value}{F:Bool→Prop}{N:Prop}(h:gV o F N):(∃b,o=some (.bool b)∧F b)∨(∃vs,o=some (.tuple vs)∧N):=by
 unfold gV at h
 split at h
 ·rename_i v
  split at h
  ·rename_i b
   obtain⟨b',e,h2⟩:=BD (v:=.bool b) (F:=F) h
   injection e with e
   subst e
   exact .inl ⟨b,rfl,h2⟩
  ·rename_i vs
   exact .inr ⟨vs,rfl,h⟩
  ·exact h.elim
 ·exact h.elim
def kO(P:Program)(K:Env→Hp→Prop):List gz→Env→Hp→Prop
 | [],env,H=>K env H
 |s::r,env,H=>
  match s.guard with
  |none=>s.vc P (Env.ev env) H fun v H'=>kO P K r (Env.put env s.dst v) H'
  |some (g,want)=>gV (Env.find env g) (fun b=>
   HQ (b==want) (s.vc P (Env.ev ((g,.bool b)::env)) H fun v H'=>kO P K r (Env.put ((g,.bool b)::env) s.dst v) H')
    (kO P K r (Env.put ((g,.bool b)::env) s.dst undef) H)) (kO P K r (Env.put env s.dst undef) H)
@[go_sem ↓] theorem aab(P:Program)(K:Env→Hp→Prop)(env:Env)(H:Hp):kO P K [] env H=K env H:=(rfl)
@[go_sem ↓] theorem YB(P:Program)(K:Env→Hp→Prop)(q:Bool)(d:Option Nat)(op:df)(r:List gz)(env:Env)(H:Hp):
  kO P K (⟨q,none,d,op⟩::r) env H=gz.vc P ⟨q,none,d,op⟩ (Env.ev env) H fun v H'=>kO P K r (Env.put env d v) H':=(rfl)
@[go_sem ↓] theorem WD(P:Program)(K:Env→Hp→Prop)(q:Bool)(g:Nat)(want:Bool)(d:Option Nat)(op:df)(r:List gz)(env:Env)(H:Hp):
  kO P K (⟨q,some (g,want),d,op⟩::r) env H=gV (Env.find env g) (fun b=>
   HQ (b==want) (gz.vc P ⟨q,none,d,op⟩ (Env.ev ((g,.bool b)::env)) H fun v H'=>kO P K r (Env.put ((g,.bool b)::env) d v) H')
    (kO P K r (Env.put ((g,.bool b)::env) d undef) H)) (kO P K r (Env.put env d undef) H):=(rfl)
def u0(P:Program)(n:Nat)(ops:Array Oper)(q:List Nat)(i:Nat)(o:Oper):Option gz:=
 match o.dst with
 |some d=>if d<n then go (some d)else none
 |none=>go none
 where
 go (dst:Option Nat):Option gz:=
  match J4 P o with
  |none=>none
  |some op=>
   match o.guard with
   |none=>some ⟨q.contains i,none,dst,op⟩
   |some (j,want)=>match(ops[j]?).bind (·.dst)with
    |some g=>some ⟨q.contains i,some (g,want),dst,op⟩
    |none=>none
def kg(P:Program)(n:Nat)(ops:Array Oper)(q:List Nat):Nat→List Oper→Option (List gz)
 |_,[]=>some []
 |i,o::r=>
  match u0 P n ops q i o with
  |none=>none
  |some s=>(kg P n ops q (i+1) r).map (s:: ·)
def gz.cls(s:gz):Mb:=match s.op.cls with| .I2=>bif s.quiet then .quiet else .I2|c=>c
def TV(l:List gz)(i:Nat):Mb:=match l[i]? with|some s=>s.cls|none=>.I2
section
variable {P : Program} {ops : Array Oper} {n : Nat}
theorem oh{q:List Nat}{i:Nat}{o:Oper}{s:gz}(h:u0 P n ops q i o=some s):
  J4 P o=some s.op∧s.dst=o.dst∧(∀d,o.dst=some d→d<n)∧
   ((o.guard=none∧s.guard=none)∨∃j want g,o.guard=some (j,want)∧(ops[j]?).bind (·.dst)=some g∧s.guard=some (g,want)):=by
 have key:∀dst,u0.go P ops q i o dst=some s→J4 P o=some s.op∧s.dst=dst∧
   ((o.guard=none∧s.guard=none)∨∃j want g,o.guard=some (j,want)∧(ops[j]?).bind (·.dst)=some g∧s.guard=some (g,want)):=by
  intro dst h
  unfold u0.go at h
  split at h
  ·cases h
  ·rename_i op Dt
   split at h
   ·rename_i hg;injection h with h;subst h;exact⟨Dt,rfl,.inl ⟨hg,rfl⟩⟩
   ·rename_i j want hg
    split at h
    ·rename_i g BK;injection h with h;subst h;exact⟨Dt,rfl,.inr ⟨j,want,g,hg,BK,rfl⟩⟩
    ·cases h
 unfold u0 at h
 split at h
 ·rename_i d hd
  split at h
  ·rename_i aR
   obtain⟨h1,h2,h3⟩:=key _ h
   exact⟨h1,h2.trans hd.symm,(fun d' e=>by rw[hd]at e;injection e with e;subst e;exact aR),h3⟩
  ·cases h
 ·rename_i hd
  obtain⟨h1,h2,h3⟩:=key _ h
  exact⟨h1,h2.trans hd.symm,(fun d' e=>by rw[hd]at e;cases e),h3⟩
theorem ya{o:Oper}{y:Nat→Option Bool}(h:o.guard=none):Region.wanted o y=true:=by simp[Region.wanted,h]
theorem yb{o:Oper}{a:Act}{j g:Nat}{want b:Bool}(h:o.guard=some (j,want))(hg:(ops[j]?).bind (·.dst)=some g)(hv:a.tmps[g]? =some (.bool b)):
  Region.wanted o (yielded ops a.tmps)=(b==want):=by
 have:yielded ops a.tmps j=some b:=by simp[yielded,hg,hv]
 simp[Region.wanted,h,this]
theorem u9{o:Oper}{a:Act}{j g:Nat}{want:Bool}{vs:Array Value}(h:o.guard=some (j,want))(hg:(ops[j]?).bind (·.dst)=some g)(hv:a.tmps[g]? =some (.tuple vs)):
  Region.wanted o (yielded ops a.tmps)=false:=by
 have:yielded ops a.tmps j=none:=by simp[yielded,hg,hv]
 simp[Region.wanted,h,this]
theorem gz.sound{s:gz}{o:Oper}{a:Act}{ev:Ev}{H:Hp}{K:Value→Hp→Prop}(hd:J4 P o=some s.op)(bI:bT ev a)(h:s.vc P ev H K):dX P o a H K:=by
 unfold gz.vc at h
 cases hq:s.quiet
 ·rw[hq]at h;exact(Go.Vc.sound s.op hd bI h).2
 ·rw[hq]at h
  obtain⟨v,h1,h2⟩:=h
  exact(Go.Vc.sound s.op hd bI h1).2.mono fun v' H' ⟨e1,e2⟩=>by rw[e1,e2];exact h2
theorem O6{K:Env→Hp→Prop}{q:List Nat}:∀ (l:List Oper) (i:Nat) (ss:List gz),(∀k,l[k]? =ops[i+k]?)→kg P n ops q i l=some ss→
  ∀ (env:Env) (a:Act) (H:Hp),Holds env a n→kO P K ss env H→Ma P ops (fun a' H'=>∃bf,Holds bf a' n∧K bf H') (List.range' i l.length) a H:=by
 intro l
 induction l with
 |nil=>
  intro i ss _ hd env a H hh h
  simp only[kg,anK]at hd
  subst hd
  exact⟨env,hh,h⟩
 |cons o l ih=>
  intro i ss hl hd env a H hh h
  unfold kg at hd
  split at hd
  ·cases hd
  ·rename_i s hs
   cases hr:kg P n ops q (i+1) l with
   |none=>rw[hr]at hd;cases hd
   |some Uj=>
    rw[hr]at hd
    simp only[Option.map_some,anK]at hd
    subst hd
    obtain⟨Dt,qT,aR,hg⟩:=oh hs
    have YC:ops[i]? =some o:=by have:=hl 0;simpa using this.symm
    have Om:∀k,l[k]? =ops[i+1+k]? :=fun k=>by have:=hl (k+1);rw[aox]at this;rw[this];congr 1;omega
    rw[anY,List.range'_succ]
    simp only[Ma,YC]
    unfold kO at h
    rcases hg with ⟨PV,Ex⟩| ⟨j,want,g,PV,Ex,hg3⟩
    ·rw[ya PV,if_pos rfl]
     rw[Ex]at h
     refine(gz.sound Dt hh.xZ h).mono fun v H' hk=>?_
     rw[qT]at hk
     exact ih (i+1) Uj Om hr _ _ _ (hh.put aR v) hk
    ·rw[hg3]at h
     rcases Gr h with ⟨b,hv,h⟩| ⟨vs,hv,h⟩
     ·have M7:=yb (o:=o) PV Ex (hh.Dn g _ hv)
      rw[M7]
      have rF:=hh.guard hv
      cases hb:b==want
      ·rw[hb]at h
       simp only[HQ]at h
       rw[if_neg (by simp)]
       rw[qT]at h
       exact ih (i+1) Uj Om hr _ _ _ (rF.put aR undef) h
      ·rw[hb]at h
       simp only[HQ]at h
       rw[if_pos rfl]
       refine(gz.sound Dt rF.xZ h).mono fun v H' hk=>?_
       rw[qT]at hk
       exact ih (i+1) Uj Om hr _ _ _ (rF.put aR v) hk
     ·rw[u9 PV Ex (hh.Dn g _ hv),if_neg (by simp)]
      rw[qT]at h
      exact ih (i+1) Uj Om hr _ _ _ (hh.put aR undef) h
def acL(P:Program)(s:gz)(env:Env)(H:Hp)(F:Env→Hp→Prop):Prop:=
 match s.guard with
 |none=>s.vc P (Env.ev env) H fun v H'=>F (Env.put env s.dst v) H'
 |some (g,want)=>gV (Env.find env g) (fun b=>
   HQ (b==want) (s.vc P (Env.ev ((g,.bool b)::env)) H fun v H'=>F (Env.put ((g,.bool b)::env) s.dst v) H')
    (F (Env.put ((g,.bool b)::env) s.dst undef) H)) (F (Env.put env s.dst undef) H)
theorem TW{q:List Nat}{cls:Nat→Mb}{i:Nat}{o:Oper}{s:gz}{F:Env→Hp→Prop}{G:Act→Hp→Prop}{env:Env}{a:Act}{H:Hp}(YC:ops[i]? =some o)(hs:u0 P n ops q i o=some s)(WW:cls i=s.cls)
  (hh:Holds env a n)(h:acL P s env H F)(next:∀bf a' H',Holds bf a' n→F bf H'→G a' H'):mD P ops cls i G a H:=by
 obtain⟨Dt,qT,aR,hg⟩:=oh hs
 have step:∀ (env:Env),Holds env a n→s.vc P (Env.ev env) H (fun v H'=>F (Env.put env s.dst v) H')→
   (match cls i with
    | .pure=>∃v,(∀w,(execOp a.eval o).run P w= .ok (.value v) w)∧G (a.put o.dst v) H
    | .quiet=>∃v,dX P o a H (fun v' H'=>v'=v∧H'=H)∧G (a.put o.dst v) H
    | .I2=>dX P o a H fun v H'=>G (a.put o.dst v) H'):=by
  intro env hh h
  have next':∀v H',F (Env.put env s.dst v) H'→G (a.put o.dst v) H':=by
   intro v H' hk
   rw[qT]at hk
   exact next _ _ _ (hh.put aR v) hk
  rw[WW]
  unfold gz.cls
  cases hc:s.op.cls with
  |pure=>
   have hp:s.op.vc P (Env.ev env) H (fun v H'=>F (Env.put env s.dst v) H'):=by
    unfold gz.vc at h
    cases hq:s.quiet
    ·rw[hq]at h;exact h
    ·rw[hq]at h
     obtain⟨v,h1,h2⟩:=h
     exact(PU s.op hc h1 fun v' H' ⟨e1,e2⟩=>by rw[e1,e2];exact h2)
   obtain⟨v,e1,e2⟩:=(Go.Vc.sound s.op Dt hh.xZ hp).1 hc
   exact⟨v,e1,next' _ _ e2⟩
  |quiet=>
   unfold gz.vc at h
   cases hq:s.quiet
   ·rw[hq]at h
    obtain⟨v,h1,h2⟩:=TU s.op hc h
    exact⟨v,(Go.Vc.sound s.op Dt hh.xZ h1).2,next' _ _ h2⟩
   ·rw[hq]at h
    obtain⟨v,h1,h2⟩:=h
    exact⟨v,(Go.Vc.sound s.op Dt hh.xZ h1).2,next' _ _ h2⟩
  |I2=>
   unfold gz.vc at h
   cases hq:s.quiet
   ·rw[hq]at h;exact(Go.Vc.sound s.op Dt hh.xZ h).2.mono next'
   ·rw[hq]at h
    obtain⟨v,h1,h2⟩:=h
    exact⟨v,(Go.Vc.sound s.op Dt hh.xZ h1).2,next' _ _ h2⟩
 unfold mD
 simp only[YC]
 unfold acL at h
 rcases hg with ⟨PV,Ex⟩| ⟨j,want,g,PV,Ex,hg3⟩
 ·rw[ya PV,if_pos rfl]
  rw[Ex]at h
  exact step env hh h
 ·rw[hg3]at h
  rcases Gr h with ⟨b,hv,h⟩| ⟨vs,hv,h⟩
  ·have M7:=yb (o:=o) PV Ex (hh.Dn g _ hv)
   rw[M7]
   have rF:=hh.guard hv
   cases hb:b==want
   ·rw[hb]at h
    simp only[HQ]at h
    rw[if_neg (by simp)]
    rw[qT]at h
    exact next _ _ _ (rF.put aR undef) h
   ·rw[hb]at h
    simp only[HQ]at h
    rw[if_pos rfl]
    exact step _ rF h
  ·rw[u9 PV Ex (hh.Dn g _ hv),if_neg (by simp)]
   rw[qT]at h
   exact next _ _ _ (hh.put aR undef) h
theorem O7{K:Env→Hp→Prop}{q:List Nat}{cls:Nat→Mb}:∀ (l:List Oper) (i:Nat) (ss:List gz),(∀k,l[k]? =ops[i+k]?)→kg P n ops q i l=some ss→
  (∀k s,ss[k]? =some s→cls (i+k)=s.cls)→
  ∀ (env:Env) (a:Act) (H:Hp),Holds env a n→kO P K ss env H→Su P ops cls (fun a' H'=>∃bf,Holds bf a' n∧K bf H') (List.range' i l.length) a H:=by
 intro l
 induction l with
 |nil=>
  intro i ss _ hd _ env a H hh h
  simp only[kg,anK]at hd
  subst hd
  exact⟨env,hh,h⟩
 |cons o l ih=>
  intro i ss hl hd acM env a H hh h
  unfold kg at hd
  split at hd
  ·cases hd
  ·rename_i s hs
   cases hr:kg P n ops q (i+1) l with
   |none=>rw[hr]at hd;cases hd
   |some Uj=>
    rw[hr]at hd
    simp only[Option.map_some,anK]at hd
    subst hd
    have YC:ops[i]? =some o:=by have:=hl 0;simpa using this.symm
    have Om:∀k,l[k]? =ops[i+1+k]? :=fun k=>by have:=hl (k+1);rw[aox]at this;rw[this];congr 1;omega
    have WW:cls i=s.cls:=by have:=acM 0 s rfl;simpa using this
    have acN:∀k s',Uj[k]? =some s'→cls (i+1+k)=s'.cls:=fun k s' e=>by have:=acM (k+1) s' (by simpa using e);rw[←this];congr 1;omega
    rw[anY,List.range'_succ]
    exact TW (F:=kO P K Uj) YC hs WW hh h fun bf a' H' rF hk=>ih (i+1) Uj Om hr acN bf a' H' rF hk
theorem O8{q:List Nat}:∀ (l:List Oper) (i:Nat) (ss:List gz),(∀k,l[k]? =ops[i+k]?)→kg P n ops q i l=some ss→∀k s,ss[k]? =some s→∃o,ops[i+k]? =some o∧u0 P n ops q (i+k) o=some s:=by
 intro l
 induction l with
 |nil=>intro i ss _ hd k s hk;simp only[kg,anK]at hd;subst hd;simp at hk
 |cons o l ih=>
  intro i ss hl hd k s hk
  unfold kg at hd
  split at hd
  ·cases hd
  ·rename_i s0 hs
   cases hr:kg P n ops q (i+1) l with
   |none=>rw[hr]at hd;cases hd
   |some Uj=>
    rw[hr]at hd
    simp only[Option.map_some,anK]at hd
    subst hd
    have Om:∀k,l[k]? =ops[i+1+k]? :=fun k=>by have:=hl (k+1);rw[aox]at this;rw[this];congr 1;omega
    cases k with
    |zero=>
     simp only[an7,anK]at hk
     subst hk
     exact⟨o,by have:=hl 0;simpa using this.symm,hs⟩
    |succ k=>
     have:=ih (i+1) Uj Om hr k s (by simpa using hk)
     rw[show i+1+k=i+(k+1) by omega]at this
     exact this
inductive TX where
 |done
 |aY(s:gz)(t:TX)
 |Fs(s:gz)(t:TX)
 |aJ(s:gz)(t r:TX)
 |stop
 deriving Inhabited
def gz.steady(s:gz):Bool:=s.quiet || (match s.op.cls with| .pure=>true|_=>false)
def M8(l:List gz)(i:Nat):Bool:=match l[i]? with|some s=>s.steady|none=>false
def attach(ss:List gz):Ot→Option TX
 | .done=>some .done
 | .step i t=>match ss[i]?,attach ss t with
  |some s,some t=>bif s.quiet then some (.Fs s t)else match s.op.cls with| .pure=>some (.aY s t)|_=>none
  |_,_=>none
 | .aJ i t r=>match ss[i]?,attach ss t,attach ss r with
  |some s,some t,some r=>bif s.steady then none else some (.aJ s t r)
  |_,_,_=>none
 | .stop=>some .stop
def He(A B:Prop)(_ta:Tag A:=⟨⟩)(_tb:Tag B:=⟨⟩):Prop:=A∧B
theorem He.intro{A B:Prop}(a:A)(b:B):He A B:=⟨a,b⟩
@[go_sem] theorem acO(A:Prop):He A True=A:=by simp[He]
def oQ(Inv:Hp→Prop)(G:Hp→(Value→Hp→Prop)→Prop)(K:Value→Prop)(_t:Tag G:=⟨⟩)(_u:Tag K:=⟨⟩):Prop:=∃v,(∀H',Inv H'→G H' fun v' GU=>v'=v∧GU=H')∧K v
theorem oQ.intro{Inv:Hp→Prop}{G:Hp→(Value→Hp→Prop)→Prop}{K:Value→Prop}(v:Value)(h:∀H',Inv H'→G H' fun v' GU=>v'=v∧GU=H')(k:K v):oQ Inv G K:=⟨v,h,k⟩
def rq(H:Hp)(F:(Hp→Prop)→Prop)(_t:Tag F:=⟨⟩):Prop:=∃Inv,Inv H∧F Inv
theorem rq.intro{H:Hp}{F:(Hp→Prop)→Prop}(Inv:Hp→Prop)(h:Inv H)(f:F Inv):rq H F:=⟨Inv,h,f⟩
def Do(s:gz)(env:Env)(F:Env→Prop)(N:Env→Prop):Prop:=
 match s.guard with
 |none=>F env
 |some (g,want)=>gV (Env.find env g) (fun b=>HQ (b==want) (F ((g,.bool b)::env)) (N ((g,.bool b)::env))) (N env)
@[go_sem ↓] theorem YD(q:Bool)(d:Option Nat)(op:df)(env:Env)(F N:Env→Prop):Do ⟨q,none,d,op⟩ env F N=F env:=(rfl)
@[go_sem ↓] theorem YE(q:Bool)(g:Nat)(want:Bool)(d:Option Nat)(op:df)(env:Env)(F N:Env→Prop):
  Do ⟨q,some (g,want),d,op⟩ env F N=gV (Env.find env g) (fun b=>HQ (b==want) (F ((g,.bool b)::env)) (N ((g,.bool b)::env))) (N env):=(rfl)
def EQ(P:Program)(Inv:Hp→Prop)(K:Env→Hp→Prop):TX→Env→Hp→Prop
 | .done,env,H=>K env H
 | .aY s t,env,H=>Do s env (fun e=>s.op.vc P (Env.ev e) H fun v H'=>EQ P Inv K t (Env.put e s.dst v) H') (fun e=>EQ P Inv K t (Env.put e s.dst undef) H)
 | .Fs s t,env,H=>Do s env (fun e=>oQ Inv (fun H' k=>s.op.vc P (Env.ev e) H' k) fun v=>EQ P Inv K t (Env.put e s.dst v) H) (fun e=>EQ P Inv K t (Env.put e s.dst undef) H)
 | .aJ s t r,env,H=>He (Do s env (fun e=>s.op.vc P (Env.ev e) H fun v H'=>eB (Inv H') (EQ P Inv K t (Env.put e s.dst v) H')) (fun e=>EQ P Inv K t (Env.put e s.dst undef) H)) (EQ P Inv K r env H)
 | .stop,_,_=>True
section
variable (Inv : Hp → Prop) (K : Env → Hp → Prop) (s : gz) (t r : TX) (env : Env) (H : Hp)
@[go_sem ↓] theorem acP:EQ P Inv K .done env H=K env H:=(rfl)
@[go_sem ↓] theorem acQ:EQ P Inv K .stop env H=True:=(rfl)
@[go_sem ↓] theorem aez(q:Bool)(g:Option (Nat×Bool))(d:Option Nat)(op:df):EQ P Inv K (.aY ⟨q,g,d,op⟩ t) env H=
  Do ⟨q,g,d,op⟩ env (fun e=>op.vc P (Env.ev e) H fun v H'=>EQ P Inv K t (Env.put e d v) H') (fun e=>EQ P Inv K t (Env.put e d undef) H):=(rfl)
@[go_sem ↓] theorem aeA(q:Bool)(g:Option (Nat×Bool))(d:Option Nat)(op:df):EQ P Inv K (.Fs ⟨q,g,d,op⟩ t) env H=
  Do ⟨q,g,d,op⟩ env (fun e=>oQ Inv (fun H' k=>op.vc P (Env.ev e) H' k) fun v=>EQ P Inv K t (Env.put e d v) H) (fun e=>EQ P Inv K t (Env.put e d undef) H):=(rfl)
@[go_sem ↓] theorem acR(q:Bool)(g:Option (Nat×Bool))(d:Option Nat)(op:df)(s':gz)(t' r':TX):EQ P Inv K (.aJ ⟨q,g,d,op⟩ t (.aJ s' t' r')) env H=
  He (Do ⟨q,g,d,op⟩ env (fun e=>op.vc P (Env.ev e) H fun v H'=>eB (Inv H') (EQ P Inv K t (Env.put e d v) H')) (fun e=>EQ P Inv K t (Env.put e d undef) H)) (EQ P Inv K (.aJ s' t' r') env H):=(rfl)
@[go_sem ↓] theorem aac(q:Bool)(g:Option (Nat×Bool))(d:Option Nat)(op:df):EQ P Inv K (.aJ ⟨q,g,d,op⟩ t .stop) env H=
  Do ⟨q,g,d,op⟩ env (fun e=>op.vc P (Env.ev e) H fun v H'=>eB (Inv H') (EQ P Inv K t (Env.put e d v) H')) (fun e=>EQ P Inv K t (Env.put e d undef) H):=by
 show He _ True=_
 simp[He]
end
theorem Ik{q:List Nat}{Inv:Hp→Prop}{st:Nat→Bool}{i:Nat}{o:Oper}{s:gz}{F N:Env→Prop}{G:Act→Hp→Prop}{env:Env}{a:Act}{H:Hp}(YC:ops[i]? =some o)(hs:u0 P n ops q i o=some s)
  (hh:Holds env a n)(h:Do s env F N)(hN:∀e,Holds e a n→N e→G (a.put o.dst undef) H)
  (hF:∀e,Holds e a n→F e→match st i with
   |true=>∃v,(∀H',Inv H'→dX P o a H' fun v' GU=>v'=v∧GU=H')∧G (a.put o.dst v) H
   |false=>dX P o a H fun v H'=>Inv H'∧G (a.put o.dst v) H'):kH P ops Inv st i G a H:=by
 obtain⟨Dt,qT,aR,hg⟩:=oh hs
 unfold kH
 simp only[YC]
 unfold Do at h
 rcases hg with ⟨PV,Ex⟩| ⟨j,want,g,PV,Ex,hg3⟩
 ·rw[ya PV,if_pos rfl]
  rw[Ex]at h
  exact hF env hh h
 ·rw[hg3]at h
  rcases Gr h with ⟨b,hv,h⟩| ⟨vs,hv,h⟩
  ·have M7:=yb (o:=o) PV Ex (hh.Dn g _ hv)
   rw[M7]
   have rF:=hh.guard hv
   cases hb:b==want
   ·rw[hb]at h
    rw[if_neg (by simp)]
    exact hN _ rF h
   ·rw[hb]at h
    rw[if_pos rfl]
    exact hF _ rF h
  ·rw[u9 PV Ex (hh.Dn g _ hv),if_neg (by simp)]
   exact hN _ hh h
theorem M9{K:Env→Hp→Prop}{q:List Nat}{Inv:Hp→Prop}{ss:List gz}(ce:∀k s,ss[k]? =some s→∃o,ops[k]? =some o∧u0 P n ops q k o=some s):
  ∀ (t:Ot) (ts:TX),attach ss t=some ts→∀ (env:Env) (a:Act) (H:Hp),Holds env a n→EQ P Inv K ts env H→Qr P ops Inv (M8 ss) (fun a' H'=>∃bf,Holds bf a' n∧K bf H') t a H:=by
 intro t
 induction t with
 |done=>intro ts ht env a H hh h;simp only[attach,anK]at ht;subst ht;exact⟨env,hh,h⟩
 |stop=>intro ts ht env a H hh h;trivial
 |step i t ih=>
  intro ts ht env a H hh h
  unfold attach at ht
  split at ht
  ·rename_i s t' hs UC
   obtain⟨o,ho,hd⟩:=ce i s hs
   obtain⟨Dt,qT,aR,_⟩:=oh hd
   cases hq:s.quiet
   ·rw[hq]at ht
    simp only[cond_false]at ht
    split at ht
    ·rename_i hc
     injection ht with ht
     subst ht
     have vu:M8 ss i=true:=by simp[M8,hs,gz.steady,hc]
     refine Ik ho hd hh h (fun e he hN=>?_) (fun e he hF=>?_)
     ·rw[←qT];exact ih t' UC _ _ _ (by rw[qT];exact he.put aR undef) hN
     ·rw[vu]
      obtain⟨v,e1,e2⟩:=(Go.Vc.sound s.op Dt he.xZ hF).1 hc
      refine⟨v,fun H' _=>CA e1 H',?_⟩
      rw[←qT];exact ih t' UC _ _ _ (by rw[qT];exact he.put aR v) e2
    ·cases ht
   ·rw[hq]at ht
    simp only[cond_true,anK]at ht
    subst ht
    have vu:M8 ss i=true:=by simp[M8,hs,gz.steady,hq]
    refine Ik ho hd hh h (fun e he hN=>?_) (fun e he hF=>?_)
    ·rw[←qT];exact ih t' UC _ _ _ (by rw[qT];exact he.put aR undef) hN
    ·rw[vu]
     obtain⟨v,e1,e2⟩:=hF
     refine⟨v,fun H' hI=>(Go.Vc.sound s.op Dt he.xZ (e1 H' hI)).2,?_⟩
     rw[←qT];exact ih t' UC _ _ _ (by rw[qT];exact he.put aR v) e2
  ·cases ht
 |aJ i t r iht ihr=>
  intro ts ht env a H hh h
  unfold attach at ht
  split at ht
  ·rename_i s t' r' hs UC hr'
   obtain⟨o,ho,hd⟩:=ce i s hs
   obtain⟨Dt,qT,aR,_⟩:=oh hd
   cases hq:s.steady
   ·rw[hq]at ht
    simp only[cond_false,anK]at ht
    subst ht
    have vu:M8 ss i=false:=by simp[M8,hs,hq]
    refine⟨Ik ho hd hh h.1 (fun e he hN=>?_) (fun e he hF=>?_),ihr r' hr' env a H hh h.2⟩
    ·rw[←qT];exact iht t' UC _ _ _ (by rw[qT];exact he.put aR undef) hN
    ·rw[vu]
     refine(Go.Vc.sound s.op Dt he.xZ hF).2.mono fun v H' ⟨k1,k2⟩=>⟨k1,?_⟩
     rw[←qT];exact iht t' UC _ _ _ (by rw[qT];exact he.put aR v) k2
   ·rw[hq]at ht
    cases ht
  ·cases ht
end
end Go.Vc
