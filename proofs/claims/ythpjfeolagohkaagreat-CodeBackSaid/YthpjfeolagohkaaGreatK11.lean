/- Texts put behind each other. -/
import Derived.Test.YthpjfeolagohkaaGreatK98
import Derived.Test.YthpjfeolagohkaaGreatK10
set_option maxRecDepth 100000
set_option maxHeartbeats 8000000
set_option linter.unusedVariables false
set_option linter.unusedSimpArgs false
namespace Go.Vc
abbrev Env:=List (Nat×Value)
def Env.find:Env→Nat→Option Value
 | [],_=>none
 | (k,v)::r,n=>bif k==n then some v else Env.find r n
@[go_sem] theorem Env.aaS(n:Nat):Env.find [] n=none:=(rfl)
@[go_sem] theorem Env.Zq(k n:Nat)(v:Value)(r:Env):Env.find ((k,v)::r) n=bif k==n then some v else Env.find r n:=(rfl)
def Env.ev(env:Env):Ev
 | .tmp t=>Env.find env t
 | .const v=>some v
 | .global g=>some (.pointer (some ⟨g,0,none⟩))
 | .func f=>some (.func (.func f) #[] #[])
@[go_sem] theorem Env.afg(env:Env)(t:Nat):Env.ev env (.tmp t)=Env.find env t:=(rfl)
@[go_sem] theorem Env.aaT(env:Env)(v:Value):Env.ev env (.const v)=some v:=(rfl)
@[go_sem] theorem Env.Zr(env:Env)(g:Nat):Env.ev env (.global g)=some (.pointer (some ⟨g,0,none⟩)):=(rfl)
@[go_sem] theorem Env.adL(env:Env)(f:Nat):Env.ev env (.func f)=some (.func (.func f) #[] #[]):=(rfl)
def Env.put(env:Env)(dst:Option Nat)(v:Value):Env:=match dst with|some d=>(d,v)::env|none=>env
@[go_sem] theorem Env.aaU(env:Env)(d:Nat)(v:Value):Env.put env (some d) v=(d,v)::env:=(rfl)
@[go_sem] theorem Env.aaV(env:Env)(v:Value):Env.put env none v=env:=(rfl)
def Env.aG(env:Env):List Nat→Env
 | []=>[]
 |k::ks=>match Env.find env k with|some v=>(k,v)::Env.aG env ks|none=>Env.aG env ks
def K8(k:Nat)(o:Option Value)(r:Env):Env:=match o with|some v=>(k,v)::r|none=>r
@[go_sem] theorem Xm(k:Nat)(v:Value)(r:Env):K8 k (some v) r=(k,v)::r:=(rfl)
@[go_sem] theorem Xn(k:Nat)(r:Env):K8 k none r=r:=(rfl)
@[go_sem] theorem Env.aaW(env:Env):Env.aG env []=[]:=(rfl)
@[go_sem] theorem Env.PN(env:Env)(k:Nat)(ks:List Nat):Env.aG env (k::ks)=K8 k (Env.find env k) (Env.aG env ks):=by
 unfold K8;rw[Env.aG]
structure Holds(env:Env)(a:Act)(n:Nat):Prop where
 size:a.tmps.size=n
 defers:a.defers=[]
 zR:∀k v,Env.find env k=some v→a.tmps[k]? =some v
theorem Holds.tL{env:Env}{a:Act}{n:Nat}(h:Holds env a n):bK (Env.ev env) a:=by
 intro x v hx
 cases x with
 |tmp t=>simp only[Env.ev]at hx;simp[Act.eval,h.zR t v hx]
 |const u=>injection hx with hx
 |global g=>injection hx with hx
 |func f=>injection hx with hx
theorem Holds.put{env:Env}{a:Act}{n:Nat}(h:Holds env a n){dst:Option Nat}(hd:∀d,dst=some d→d<n)(v:Value):Holds (Env.put env dst v) (a.put dst v) n:=by
 cases dst with
 |none=>exact h
 |some d=>
  have aK:=hd d rfl
  refine⟨by simp[Act.put,h.size],by simp[Act.put,h.defers],fun k u hk=>?_⟩
  simp only[Env.put,Env.find]at hk
  by_cases e:d=k
  ·subst e
   simp at hk
   subst hk
   simp[Act.put,h.size,aK]
  ·have:(d==k)=false:=by simpa using e
   rw[this]at hk
   simp only[cond_false]at hk
   simpa[Act.put,Array.getElem?_setIfInBounds_ne e]using h.zR k u hk
theorem Holds.guard{env:Env}{a:Act}{n:Nat}(h:Holds env a n){g:Nat}{v:Value}(hg:Env.find env g=some v):Holds ((g,v)::env) a n:=by
 refine⟨h.size,h.defers,fun k u hk=>?_⟩
 simp only[Env.find]at hk
 by_cases e:g=k
 ·subst e
  simp at hk
  subst hk
  exact h.zR g v hg
 ·have:(g==k)=false:=by simpa using e
  rw[this]at hk
  exact h.zR k u hk
theorem PO(env:Env):∀ (ks:List Nat) (k:Nat) (v:Value),Env.find (Env.aG env ks) k=some v→Env.find env k=some v:=by
 intro ks
 induction ks with
 |nil=>intro k v h;cases h
 |cons x xs ih=>
  intro k v h
  rw[Env.PN]at h
  cases hx:Env.find env x with
  |none=>rw[hx]at h;exact ih k v h
  |some u=>
   rw[hx]at h
   simp only[K8,Env.find]at h
   by_cases e:x=k
   ·subst e
    simp at h
    subst h
    exact hx
   ·have:(x==k)=false:=by simpa using e
    rw[this]at h
    exact ih k v h
theorem Holds.aG{env:Env}{a:Act}{n:Nat}(h:Holds env a n)(ks:List Nat):Holds (Env.aG env ks) a n:=
 ⟨h.size,h.defers,fun k v hk=>h.zR k v (PO env ks k v hk)⟩
structure gO where
 quiet:Bool
 guard:Option (Nat×Bool)
 dst:Option Nat
 op:de
 deriving Inhabited
def gO.vc(P:Program)(s:gO)(ev:Ev)(H:Hp)(K:Value→Hp→Prop):Prop:=
 bif s.quiet then∃v,s.op.vc P ev H (fun v' H'=>v'=v∧H'=H)∧K v H else s.op.vc P ev H K
@[go_sem ↓] theorem gO.aaX(P:Program)(g:Option (Nat×Bool))(d:Option Nat)(op:de)(ev:Ev)(H:Hp)(K:Value→Hp→Prop):gO.vc P ⟨false,g,d,op⟩ ev H K=op.vc P ev H K:=(rfl)
@[go_sem ↓] theorem gO.aaY(P:Program)(g:Option (Nat×Bool))(d:Option Nat)(op:de)(ev:Ev)(H:Hp)(K:Value→Hp→Prop):
  gO.vc P ⟨true,g,d,op⟩ ev H K=∃v,op.vc P ev H (fun v' H'=>v'=v∧H'=H)∧K v H:=(rfl)
def Fq(o:Option Value)(F:Bool→Prop)(_t:Tag F:=⟨⟩):Prop:=match o with|some v=>zO v F|none=>False
@[go_sem] theorem VV(v:Value)(F:Bool→Prop):Fq (some v) F=zO v F:=(rfl)
def gV(o:Option Value)(F:Bool→Prop)(N:Prop)(_t:Tag F:=⟨⟩)(_u:Tag N:=⟨⟩):Prop:=
 match o with|some v=>(match v with| .bool b=>ai b F| .tuple _=>N|_=>False)|none=>False
@[go_sem] theorem adM(b:Bool)(F:Bool→Prop)(N:Prop):gV (some (.bool b)) F N=ai b F:=(rfl)
@[go_sem] theorem aaZ(F:Bool→Prop)(N:Prop):gV (some undef) F N=N:=(rfl)
theorem EW{o:Option Value}{F:Bool→Prop}{N:Prop}(h:gV o F N):(∃b,o=some (.bool b)∧F b)∨(∃vs,o=some (.tuple vs)∧N):=by
 unfold gV at h
 split at h
 ·rename_i v
  split at h
  ·rename_i b
   obtain⟨b',e,h2⟩:=xQ (v:=.bool b) (F:=F) h
   injection e with e
   subst e
   exact .inl ⟨b,rfl,h2⟩
  ·rename_i vs
   exact .inr ⟨vs,rfl,h⟩
  ·exact h.elim
 ·exact h.elim
def gY(P:Program)(K:Env→Hp→Prop):List gO→Env→Hp→Prop
 | [],env,H=>K env H
 |s::r,env,H=>
  match s.guard with
  |none=>s.vc P (Env.ev env) H fun v H'=>gY P K r (Env.put env s.dst v) H'
  |some (g,want)=>gV (Env.find env g) (fun b=>
   DV (b==want) (s.vc P (Env.ev ((g,.bool b)::env)) H fun v H'=>gY P K r (Env.put ((g,.bool b)::env) s.dst v) H')
    (gY P K r (Env.put ((g,.bool b)::env) s.dst undef) H)) (gY P K r (Env.put env s.dst undef) H)
@[go_sem ↓] theorem Zt(P:Program)(K:Env→Hp→Prop)(env:Env)(H:Hp):gY P K [] env H=K env H:=(rfl)
@[go_sem ↓] theorem Xo(P:Program)(K:Env→Hp→Prop)(q:Bool)(d:Option Nat)(op:de)(r:List gO)(env:Env)(H:Hp):
  gY P K (⟨q,none,d,op⟩::r) env H=gO.vc P ⟨q,none,d,op⟩ (Env.ev env) H fun v H'=>gY P K r (Env.put env d v) H':=(rfl)
@[go_sem ↓] theorem VW(P:Program)(K:Env→Hp→Prop)(q:Bool)(g:Nat)(want:Bool)(d:Option Nat)(op:de)(r:List gO)(env:Env)(H:Hp):
  gY P K (⟨q,some (g,want),d,op⟩::r) env H=gV (Env.find env g) (fun b=>
   DV (b==want) (gO.vc P ⟨q,none,d,op⟩ (Env.ev ((g,.bool b)::env)) H fun v H'=>gY P K r (Env.put ((g,.bool b)::env) d v) H')
    (gY P K r (Env.put ((g,.bool b)::env) d undef) H)) (gY P K r (Env.put env d undef) H):=(rfl)
def qD(P:Program)(n:Nat)(ops:Array Oper)(q:List Nat)(i:Nat)(o:Oper):Option gO:=
 match o.dst with
 |some d=>if d<n then go (some d)else none
 |none=>go none
 where
 go (dst:Option Nat):Option gO:=
  match ID P o with
  |none=>none
  |some op=>
   match o.guard with
   |none=>some ⟨q.contains i,none,dst,op⟩
   |some (j,want)=>match(ops[j]?).bind (·.dst)with
    |some g=>some ⟨q.contains i,some (g,want),dst,op⟩
    |none=>none
def gP(P:Program)(n:Nat)(ops:Array Oper)(q:List Nat):Nat→List Oper→Option (List gO)
 |_,[]=>some []
 |i,o::r=>
  match qD P n ops q i o with
  |none=>none
  |some s=>(gP P n ops q (i+1) r).map (s:: ·)
def gO.cls(s:gO):KX:=match s.op.cls with| .G9=>bif s.quiet then .quiet else .G9|c=>c
def RY(l:List gO)(i:Nat):KX:=match l[i]? with|some s=>s.cls|none=>.G9
section
variable {P : Program} {ops : Array Oper} {n : Nat}
theorem jW{q:List Nat}{i:Nat}{o:Oper}{s:gO}(h:qD P n ops q i o=some s):
  ID P o=some s.op∧s.dst=o.dst∧(∀d,o.dst=some d→d<n)∧
   ((o.guard=none∧s.guard=none)∨∃j want g,o.guard=some (j,want)∧(ops[j]?).bind (·.dst)=some g∧s.guard=some (g,want)):=by
 have key:∀dst,qD.go P ops q i o dst=some s→ID P o=some s.op∧s.dst=dst∧
   ((o.guard=none∧s.guard=none)∨∃j want g,o.guard=some (j,want)∧(ops[j]?).bind (·.dst)=some g∧s.guard=some (g,want)):=by
  intro dst h
  unfold qD.go at h
  split at h
  ·cases h
  ·rename_i op BQ
   split at h
   ·rename_i hg;injection h with h;subst h;exact⟨BQ,rfl,.inl ⟨hg,rfl⟩⟩
   ·rename_i j want hg
    split at h
    ·rename_i g zy;injection h with h;subst h;exact⟨BQ,rfl,.inr ⟨j,want,g,hg,zy,rfl⟩⟩
    ·cases h
 unfold qD at h
 split at h
 ·rename_i d hd
  split at h
  ·rename_i aK
   obtain⟨h1,h2,h3⟩:=key _ h
   exact⟨h1,h2.trans hd.symm,(fun d' e=>by rw[hd]at e;injection e with e;subst e;exact aK),h3⟩
  ·cases h
 ·rename_i hd
  obtain⟨h1,h2,h3⟩:=key _ h
  exact⟨h1,h2.trans hd.symm,(fun d' e=>by rw[hd]at e;cases e),h3⟩
theorem tM{o:Oper}{y:Nat→Option Bool}(h:o.guard=none):Region.wanted o y=true:=by simp[Region.wanted,h]
theorem tN{o:Oper}{a:Act}{j g:Nat}{want b:Bool}(h:o.guard=some (j,want))(hg:(ops[j]?).bind (·.dst)=some g)(hv:a.tmps[g]? =some (.bool b)):
  Region.wanted o (yielded ops a.tmps)=(b==want):=by
 have:yielded ops a.tmps j=some b:=by simp[yielded,hg,hv]
 simp[Region.wanted,h,this]
theorem qE{o:Oper}{a:Act}{j g:Nat}{want:Bool}{vs:Array Value}(h:o.guard=some (j,want))(hg:(ops[j]?).bind (·.dst)=some g)(hv:a.tmps[g]? =some (.tuple vs)):
  Region.wanted o (yielded ops a.tmps)=false:=by
 have:yielded ops a.tmps j=none:=by simp[yielded,hg,hv]
 simp[Region.wanted,h,this]
theorem gO.sound{s:gO}{o:Oper}{a:Act}{ev:Ev}{H:Hp}{K:Value→Hp→Prop}(hd:ID P o=some s.op)(bz:bK ev a)(h:s.vc P ev H K):dR P o a H K:=by
 unfold gO.vc at h
 cases hq:s.quiet
 ·rw[hq]at h;exact(Go.Vc.sound s.op hd bz h).2
 ·rw[hq]at h
  obtain⟨v,h1,h2⟩:=h
  exact(Go.Vc.sound s.op hd bz h1).2.mono fun v' H' ⟨e1,e2⟩=>by rw[e1,e2];exact h2
theorem Nb{K:Env→Hp→Prop}{q:List Nat}:∀ (l:List Oper) (i:Nat) (ss:List gO),(∀k,l[k]? =ops[i+k]?)→gP P n ops q i l=some ss→
  ∀ (env:Env) (a:Act) (H:Hp),Holds env a n→gY P K ss env H→K9 P ops (fun a' H'=>∃aU,Holds aU a' n∧K aU H') (List.range' i l.length) a H:=by
 intro l
 induction l with
 |nil=>
  intro i ss _ hd env a H hh h
  simp only[gP,aoz]at hd
  subst hd
  exact⟨env,hh,h⟩
 |cons o l ih=>
  intro i ss hl hd env a H hh h
  unfold gP at hd
  split at hd
  ·cases hd
  ·rename_i s hs
   cases hr:gP P n ops q (i+1) l with
   |none=>rw[hr]at hd;cases hd
   |some TR=>
    rw[hr]at hd
    simp only[Option.map_some,aoz]at hd
    subst hd
    obtain⟨BQ,mG,aK,hg⟩:=jW hs
    have Xp:ops[i]? =some o:=by have:=hl 0;simpa using this.symm
    have Ku:∀k,l[k]? =ops[i+1+k]? :=fun k=>by have:=hl (k+1);rw[api]at this;rw[this];congr 1;omega
    rw[aoI,List.range'_succ]
    simp only[K9,Xp]
    unfold gY at h
    rcases hg with ⟨OI,B1⟩| ⟨j,want,g,OI,B1,hg3⟩
    ·rw[tM OI,if_pos rfl]
     rw[B1]at h
     refine(gO.sound BQ hh.tL h).mono fun v H' hk=>?_
     rw[mG]at hk
     exact ih (i+1) TR Ku hr _ _ _ (hh.put aK v) hk
    ·rw[hg3]at h
     rcases EW h with ⟨b,hv,h⟩| ⟨vs,hv,h⟩
     ·have La:=tN (o:=o) OI B1 (hh.zR g _ hv)
      rw[La]
      have nV:=hh.guard hv
      cases hb:b==want
      ·rw[hb]at h
       simp only[DV]at h
       rw[if_neg (by simp)]
       rw[mG]at h
       exact ih (i+1) TR Ku hr _ _ _ (nV.put aK undef) h
      ·rw[hb]at h
       simp only[DV]at h
       rw[if_pos rfl]
       refine(gO.sound BQ nV.tL h).mono fun v H' hk=>?_
       rw[mG]at hk
       exact ih (i+1) TR Ku hr _ _ _ (nV.put aK v) hk
     ·rw[qE OI B1 (hh.zR g _ hv),if_neg (by simp)]
      rw[mG]at h
      exact ih (i+1) TR Ku hr _ _ _ (hh.put aK undef) h
def aa1(P:Program)(s:gO)(env:Env)(H:Hp)(F:Env→Hp→Prop):Prop:=
 match s.guard with
 |none=>s.vc P (Env.ev env) H fun v H'=>F (Env.put env s.dst v) H'
 |some (g,want)=>gV (Env.find env g) (fun b=>
   DV (b==want) (s.vc P (Env.ev ((g,.bool b)::env)) H fun v H'=>F (Env.put ((g,.bool b)::env) s.dst v) H')
    (F (Env.put ((g,.bool b)::env) s.dst undef) H)) (F (Env.put env s.dst undef) H)
theorem RZ{q:List Nat}{cls:Nat→KX}{i:Nat}{o:Oper}{s:gO}{F:Env→Hp→Prop}{G:Act→Hp→Prop}{env:Env}{a:Act}{H:Hp}(Xp:ops[i]? =some o)(hs:qD P n ops q i o=some s)(R0:cls i=s.cls)
  (hh:Holds env a n)(h:aa1 P s env H F)(next:∀aU a' H',Holds aU a' n→F aU H'→G a' H'):jg P ops cls i G a H:=by
 obtain⟨BQ,mG,aK,hg⟩:=jW hs
 have step:∀ (env:Env),Holds env a n→s.vc P (Env.ev env) H (fun v H'=>F (Env.put env s.dst v) H')→
   (match cls i with
    | .pure=>∃v,(∀w,(execOp a.eval o).run P w= .ok (.value v) w)∧G (a.put o.dst v) H
    | .quiet=>∃v,dR P o a H (fun v' H'=>v'=v∧H'=H)∧G (a.put o.dst v) H
    | .G9=>dR P o a H fun v H'=>G (a.put o.dst v) H'):=by
  intro env hh h
  have next':∀v H',F (Env.put env s.dst v) H'→G (a.put o.dst v) H':=by
   intro v H' hk
   rw[mG]at hk
   exact next _ _ _ (hh.put aK v) hk
  rw[R0]
  unfold gO.cls
  cases hc:s.op.cls with
  |pure=>
   have hp:s.op.vc P (Env.ev env) H (fun v H'=>F (Env.put env s.dst v) H'):=by
    unfold gO.vc at h
    cases hq:s.quiet
    ·rw[hq]at h;exact h
    ·rw[hq]at h
     obtain⟨v,h1,h2⟩:=h
     exact(OH s.op hc h1 fun v' H' ⟨e1,e2⟩=>by rw[e1,e2];exact h2)
   obtain⟨v,e1,e2⟩:=(Go.Vc.sound s.op BQ hh.tL hp).1 hc
   exact⟨v,e1,next' _ _ e2⟩
  |quiet=>
   unfold gO.vc at h
   cases hq:s.quiet
   ·rw[hq]at h
    obtain⟨v,h1,h2⟩:=RX s.op hc h
    exact⟨v,(Go.Vc.sound s.op BQ hh.tL h1).2,next' _ _ h2⟩
   ·rw[hq]at h
    obtain⟨v,h1,h2⟩:=h
    exact⟨v,(Go.Vc.sound s.op BQ hh.tL h1).2,next' _ _ h2⟩
  |G9=>
   unfold gO.vc at h
   cases hq:s.quiet
   ·rw[hq]at h;exact(Go.Vc.sound s.op BQ hh.tL h).2.mono next'
   ·rw[hq]at h
    obtain⟨v,h1,h2⟩:=h
    exact⟨v,(Go.Vc.sound s.op BQ hh.tL h1).2,next' _ _ h2⟩
 unfold jg
 simp only[Xp]
 unfold aa1 at h
 rcases hg with ⟨OI,B1⟩| ⟨j,want,g,OI,B1,hg3⟩
 ·rw[tM OI,if_pos rfl]
  rw[B1]at h
  exact step env hh h
 ·rw[hg3]at h
  rcases EW h with ⟨b,hv,h⟩| ⟨vs,hv,h⟩
  ·have La:=tN (o:=o) OI B1 (hh.zR g _ hv)
   rw[La]
   have nV:=hh.guard hv
   cases hb:b==want
   ·rw[hb]at h
    simp only[DV]at h
    rw[if_neg (by simp)]
    rw[mG]at h
    exact next _ _ _ (nV.put aK undef) h
   ·rw[hb]at h
    simp only[DV]at h
    rw[if_pos rfl]
    exact step _ nV h
  ·rw[qE OI B1 (hh.zR g _ hv),if_neg (by simp)]
   rw[mG]at h
   exact next _ _ _ (hh.put aK undef) h
theorem Nc{K:Env→Hp→Prop}{q:List Nat}{cls:Nat→KX}:∀ (l:List Oper) (i:Nat) (ss:List gO),(∀k,l[k]? =ops[i+k]?)→gP P n ops q i l=some ss→
  (∀k s,ss[k]? =some s→cls (i+k)=s.cls)→
  ∀ (env:Env) (a:Act) (H:Hp),Holds env a n→gY P K ss env H→R1 P ops cls (fun a' H'=>∃aU,Holds aU a' n∧K aU H') (List.range' i l.length) a H:=by
 intro l
 induction l with
 |nil=>
  intro i ss _ hd _ env a H hh h
  simp only[gP,aoz]at hd
  subst hd
  exact⟨env,hh,h⟩
 |cons o l ih=>
  intro i ss hl hd aa2 env a H hh h
  unfold gP at hd
  split at hd
  ·cases hd
  ·rename_i s hs
   cases hr:gP P n ops q (i+1) l with
   |none=>rw[hr]at hd;cases hd
   |some TR=>
    rw[hr]at hd
    simp only[Option.map_some,aoz]at hd
    subst hd
    have Xp:ops[i]? =some o:=by have:=hl 0;simpa using this.symm
    have Ku:∀k,l[k]? =ops[i+1+k]? :=fun k=>by have:=hl (k+1);rw[api]at this;rw[this];congr 1;omega
    have R0:cls i=s.cls:=by have:=aa2 0 s rfl;simpa using this
    have aa3:∀k s',TR[k]? =some s'→cls (i+1+k)=s'.cls:=fun k s' e=>by have:=aa2 (k+1) s' (by simpa using e);rw[←this];congr 1;omega
    rw[aoI,List.range'_succ]
    exact RZ (F:=gY P K TR) Xp hs R0 hh h fun aU a' H' nV hk=>ih (i+1) TR Ku hr aa3 aU a' H' nV hk
theorem Nd{q:List Nat}:∀ (l:List Oper) (i:Nat) (ss:List gO),(∀k,l[k]? =ops[i+k]?)→gP P n ops q i l=some ss→∀k s,ss[k]? =some s→∃o,ops[i+k]? =some o∧qD P n ops q (i+k) o=some s:=by
 intro l
 induction l with
 |nil=>intro i ss _ hd k s hk;simp only[gP,aoz]at hd;subst hd;simp at hk
 |cons o l ih=>
  intro i ss hl hd k s hk
  unfold gP at hd
  split at hd
  ·cases hd
  ·rename_i s0 hs
   cases hr:gP P n ops q (i+1) l with
   |none=>rw[hr]at hd;cases hd
   |some TR=>
    rw[hr]at hd
    simp only[Option.map_some,aoz]at hd
    subst hd
    have Ku:∀k,l[k]? =ops[i+1+k]? :=fun k=>by have:=hl (k+1);rw[api]at this;rw[this];congr 1;omega
    cases k with
    |zero=>
     simp only[ao2,aoz]at hk
     subst hk
     exact⟨o,by have:=hl 0;simpa using this.symm,hs⟩
    |succ k=>
     have:=ih (i+1) TR Ku hr k s (by simpa using hk)
     rw[show i+1+k=i+(k+1) by omega]at this
     exact this
inductive GY where
 |done
 |bA(s:gO)(t:GY)
 |Kv(s:gO)(t:GY)
 |bc(s:gO)(t r:GY)
 |stop
 deriving Inhabited
def gO.steady(s:gO):Bool:=s.quiet || (match s.op.cls with| .pure=>true|_=>false)
def Lb(l:List gO)(i:Nat):Bool:=match l[i]? with|some s=>s.steady|none=>false
def attach(ss:List gO):Ot→Option GY
 | .done=>some .done
 | .step i t=>match ss[i]?,attach ss t with
  |some s,some t=>bif s.quiet then some (.Kv s t)else match s.op.cls with| .pure=>some (.bA s t)|_=>none
  |_,_=>none
 | .bc i t r=>match ss[i]?,attach ss t,attach ss r with
  |some s,some t,some r=>bif s.steady then none else some (.bc s t r)
  |_,_,_=>none
 | .stop=>some .stop
def II(A B:Prop)(_ta:Tag A:=⟨⟩)(_tb:Tag B:=⟨⟩):Prop:=A∧B
theorem II.intro{A B:Prop}(a:A)(b:B):II A B:=⟨a,b⟩
@[go_sem] theorem aa4(A:Prop):II A True=A:=by simp[II]
def oB(Inv:Hp→Prop)(G:Hp→(Value→Hp→Prop)→Prop)(K:Value→Prop)(_t:Tag G:=⟨⟩)(_u:Tag K:=⟨⟩):Prop:=∃v,(∀H',Inv H'→G H' fun v' Dx=>v'=v∧Dx=H')∧K v
theorem oB.intro{Inv:Hp→Prop}{G:Hp→(Value→Hp→Prop)→Prop}{K:Value→Prop}(v:Value)(h:∀H',Inv H'→G H' fun v' Dx=>v'=v∧Dx=H')(k:K v):oB Inv G K:=⟨v,h,k⟩
def oC(H:Hp)(F:(Hp→Prop)→Prop)(_t:Tag F:=⟨⟩):Prop:=∃Inv,Inv H∧F Inv
theorem oC.intro{H:Hp}{F:(Hp→Prop)→Prop}(Inv:Hp→Prop)(h:Inv H)(f:F Inv):oC H F:=⟨Inv,h,f⟩
def zS(s:gO)(env:Env)(F:Env→Prop)(N:Env→Prop):Prop:=
 match s.guard with
 |none=>F env
 |some (g,want)=>gV (Env.find env g) (fun b=>DV (b==want) (F ((g,.bool b)::env)) (N ((g,.bool b)::env))) (N env)
@[go_sem ↓] theorem Xq(q:Bool)(d:Option Nat)(op:de)(env:Env)(F N:Env→Prop):zS ⟨q,none,d,op⟩ env F N=F env:=(rfl)
@[go_sem ↓] theorem Xr(q:Bool)(g:Nat)(want:Bool)(d:Option Nat)(op:de)(env:Env)(F N:Env→Prop):
  zS ⟨q,some (g,want),d,op⟩ env F N=gV (Env.find env g) (fun b=>DV (b==want) (F ((g,.bool b)::env)) (N ((g,.bool b)::env))) (N env):=(rfl)
def B3(P:Program)(Inv:Hp→Prop)(K:Env→Hp→Prop):GY→Env→Hp→Prop
 | .done,env,H=>K env H
 | .bA s t,env,H=>zS s env (fun e=>s.op.vc P (Env.ev e) H fun v H'=>B3 P Inv K t (Env.put e s.dst v) H') (fun e=>B3 P Inv K t (Env.put e s.dst undef) H)
 | .Kv s t,env,H=>zS s env (fun e=>oB Inv (fun H' k=>s.op.vc P (Env.ev e) H' k) fun v=>B3 P Inv K t (Env.put e s.dst v) H) (fun e=>B3 P Inv K t (Env.put e s.dst undef) H)
 | .bc s t r,env,H=>II (zS s env (fun e=>s.op.vc P (Env.ev e) H fun v H'=>dW (Inv H') (B3 P Inv K t (Env.put e s.dst v) H')) (fun e=>B3 P Inv K t (Env.put e s.dst undef) H)) (B3 P Inv K r env H)
 | .stop,_,_=>True
section
variable (Inv : Hp → Prop) (K : Env → Hp → Prop) (s : gO) (t r : GY) (env : Env) (H : Hp)
@[go_sem ↓] theorem aa5:B3 P Inv K .done env H=K env H:=(rfl)
@[go_sem ↓] theorem aa6:B3 P Inv K .stop env H=True:=(rfl)
@[go_sem ↓] theorem adN(q:Bool)(g:Option (Nat×Bool))(d:Option Nat)(op:de):B3 P Inv K (.bA ⟨q,g,d,op⟩ t) env H=
  zS ⟨q,g,d,op⟩ env (fun e=>op.vc P (Env.ev e) H fun v H'=>B3 P Inv K t (Env.put e d v) H') (fun e=>B3 P Inv K t (Env.put e d undef) H):=(rfl)
@[go_sem ↓] theorem adO(q:Bool)(g:Option (Nat×Bool))(d:Option Nat)(op:de):B3 P Inv K (.Kv ⟨q,g,d,op⟩ t) env H=
  zS ⟨q,g,d,op⟩ env (fun e=>oB Inv (fun H' k=>op.vc P (Env.ev e) H' k) fun v=>B3 P Inv K t (Env.put e d v) H) (fun e=>B3 P Inv K t (Env.put e d undef) H):=(rfl)
@[go_sem ↓] theorem aa7(q:Bool)(g:Option (Nat×Bool))(d:Option Nat)(op:de)(s':gO)(t' r':GY):B3 P Inv K (.bc ⟨q,g,d,op⟩ t (.bc s' t' r')) env H=
  II (zS ⟨q,g,d,op⟩ env (fun e=>op.vc P (Env.ev e) H fun v H'=>dW (Inv H') (B3 P Inv K t (Env.put e d v) H')) (fun e=>B3 P Inv K t (Env.put e d undef) H)) (B3 P Inv K (.bc s' t' r') env H):=(rfl)
@[go_sem ↓] theorem Zu(q:Bool)(g:Option (Nat×Bool))(d:Option Nat)(op:de):B3 P Inv K (.bc ⟨q,g,d,op⟩ t .stop) env H=
  zS ⟨q,g,d,op⟩ env (fun e=>op.vc P (Env.ev e) H fun v H'=>dW (Inv H') (B3 P Inv K t (Env.put e d v) H')) (fun e=>B3 P Inv K t (Env.put e d undef) H):=by
 show II _ True=_
 simp[II]
end
theorem Fs{q:List Nat}{Inv:Hp→Prop}{st:Nat→Bool}{i:Nat}{o:Oper}{s:gO}{F N:Env→Prop}{G:Act→Hp→Prop}{env:Env}{a:Act}{H:Hp}(Xp:ops[i]? =some o)(hs:qD P n ops q i o=some s)
  (hh:Holds env a n)(h:zS s env F N)(hN:∀e,Holds e a n→N e→G (a.put o.dst undef) H)
  (hF:∀e,Holds e a n→F e→match st i with
   |true=>∃v,(∀H',Inv H'→dR P o a H' fun v' Dx=>v'=v∧Dx=H')∧G (a.put o.dst v) H
   |false=>dR P o a H fun v H'=>Inv H'∧G (a.put o.dst v) H'):gZ P ops Inv st i G a H:=by
 obtain⟨BQ,mG,aK,hg⟩:=jW hs
 unfold gZ
 simp only[Xp]
 unfold zS at h
 rcases hg with ⟨OI,B1⟩| ⟨j,want,g,OI,B1,hg3⟩
 ·rw[tM OI,if_pos rfl]
  rw[B1]at h
  exact hF env hh h
 ·rw[hg3]at h
  rcases EW h with ⟨b,hv,h⟩| ⟨vs,hv,h⟩
  ·have La:=tN (o:=o) OI B1 (hh.zR g _ hv)
   rw[La]
   have nV:=hh.guard hv
   cases hb:b==want
   ·rw[hb]at h
    rw[if_neg (by simp)]
    exact hN _ nV h
   ·rw[hb]at h
    rw[if_pos rfl]
    exact hF _ nV h
  ·rw[qE OI B1 (hh.zR g _ hv),if_neg (by simp)]
   exact hN _ hh h
theorem Lc{K:Env→Hp→Prop}{q:List Nat}{Inv:Hp→Prop}{ss:List gO}(bQ:∀k s,ss[k]? =some s→∃o,ops[k]? =some o∧qD P n ops q k o=some s):
  ∀ (t:Ot) (ts:GY),attach ss t=some ts→∀ (env:Env) (a:Act) (H:Hp),Holds env a n→B3 P Inv K ts env H→PP P ops Inv (Lb ss) (fun a' H'=>∃aU,Holds aU a' n∧K aU H') t a H:=by
 intro t
 induction t with
 |done=>intro ts ht env a H hh h;simp only[attach,aoz]at ht;subst ht;exact⟨env,hh,h⟩
 |stop=>intro ts ht env a H hh h;trivial
 |step i t ih=>
  intro ts ht env a H hh h
  unfold attach at ht
  split at ht
  ·rename_i s t' hs Un
   obtain⟨o,ho,hd⟩:=bQ i s hs
   obtain⟨BQ,mG,aK,_⟩:=jW hd
   cases hq:s.quiet
   ·rw[hq]at ht
    simp only[cond_false]at ht
    split at ht
    ·rename_i hc
     injection ht with ht
     subst ht
     have ma:Lb ss i=true:=by simp[Lb,hs,gO.steady,hc]
     refine Fs ho hd hh h (fun e he hN=>?_) (fun e he hF=>?_)
     ·rw[←mG];exact ih t' Un _ _ _ (by rw[mG];exact he.put aK undef) hN
     ·rw[ma]
      obtain⟨v,e1,e2⟩:=(Go.Vc.sound s.op BQ he.tL hF).1 hc
      refine⟨v,fun H' _=>zT e1 H',?_⟩
      rw[←mG];exact ih t' Un _ _ _ (by rw[mG];exact he.put aK v) e2
    ·cases ht
   ·rw[hq]at ht
    simp only[cond_true,aoz]at ht
    subst ht
    have ma:Lb ss i=true:=by simp[Lb,hs,gO.steady,hq]
    refine Fs ho hd hh h (fun e he hN=>?_) (fun e he hF=>?_)
    ·rw[←mG];exact ih t' Un _ _ _ (by rw[mG];exact he.put aK undef) hN
    ·rw[ma]
     obtain⟨v,e1,e2⟩:=hF
     refine⟨v,fun H' hI=>(Go.Vc.sound s.op BQ he.tL (e1 H' hI)).2,?_⟩
     rw[←mG];exact ih t' Un _ _ _ (by rw[mG];exact he.put aK v) e2
  ·cases ht
 |bc i t r iht ihr=>
  intro ts ht env a H hh h
  unfold attach at ht
  split at ht
  ·rename_i s t' r' hs Un hr'
   obtain⟨o,ho,hd⟩:=bQ i s hs
   obtain⟨BQ,mG,aK,_⟩:=jW hd
   cases hq:s.steady
   ·rw[hq]at ht
    simp only[cond_false,aoz]at ht
    subst ht
    have ma:Lb ss i=false:=by simp[Lb,hs,hq]
    refine⟨Fs ho hd hh h.1 (fun e he hN=>?_) (fun e he hF=>?_),ihr r' hr' env a H hh h.2⟩
    ·rw[←mG];exact iht t' Un _ _ _ (by rw[mG];exact he.put aK undef) hN
    ·rw[ma]
     refine(Go.Vc.sound s.op BQ he.tL hF).2.mono fun v H' ⟨k1,k2⟩=>⟨k1,?_⟩
     rw[←mG];exact iht t' Un _ _ _ (by rw[mG];exact he.put aK v) k2
   ·rw[hq]at ht
    cases ht
  ·cases ht
end
end Go.Vc
