/- Texts put behind each other. -/
import Derived.Test.YtjlnnljohemifaaGreatK98
import Derived.Test.YtjlnnljohemifaaGreatK7
set_option maxRecDepth 100000
set_option maxHeartbeats 8000000
set_option linter.unusedVariables false
set_option linter.unusedSimpArgs false
namespace Go.Vc
abbrev Env:=List (Nat×Value)
def Env.find:Env→Nat→Option Value
 | [],_=>none
 | (k,v)::r,n=>bif k==n then some v else Env.find r n
@[go_sem] theorem Env.acO(n:Nat):Env.find [] n=none:=(rfl)
@[go_sem] theorem Env.Z6(k n:Nat)(v:Value)(r:Env):Env.find ((k,v)::r) n=bif k==n then some v else Env.find r n:=(rfl)
def Env.ev(env:Env):Ev
 | .tmp t=>Env.find env t
 | .const v=>some v
 | .global g=>some (.pointer (some ⟨g,0,none⟩))
 | .func f=>some (.func (.func f) #[] #[])
@[go_sem] theorem Env.ahu(env:Env)(t:Nat):Env.ev env (.tmp t)=Env.find env t:=(rfl)
@[go_sem] theorem Env.acP(env:Env)(v:Value):Env.ev env (.const v)=some v:=(rfl)
@[go_sem] theorem Env.Z7(env:Env)(g:Nat):Env.ev env (.global g)=some (.pointer (some ⟨g,0,none⟩)):=(rfl)
@[go_sem] theorem Env.aeN(env:Env)(f:Nat):Env.ev env (.func f)=some (.func (.func f) #[] #[]):=(rfl)
def Env.put(env:Env)(dst:Option Nat)(v:Value):Env:=match dst with|some d=>(d,v)::env|none=>env
@[go_sem] theorem Env.acQ(env:Env)(d:Nat)(v:Value):Env.put env (some d) v=(d,v)::env:=(rfl)
@[go_sem] theorem Env.acR(env:Env)(v:Value):Env.put env none v=env:=(rfl)
def Env.aM(env:Env):List Nat→Env
 | []=>[]
 |k::ks=>match Env.find env k with|some v=>(k,v)::Env.aM env ks|none=>Env.aM env ks
def Mq(k:Nat)(o:Option Value)(r:Env):Env:=match o with|some v=>(k,v)::r|none=>r
@[go_sem] theorem Yq(k:Nat)(v:Value)(r:Env):Mq k (some v) r=(k,v)::r:=(rfl)
@[go_sem] theorem Yr(k:Nat)(r:Env):Mq k none r=r:=(rfl)
@[go_sem] theorem Env.acS(env:Env):Env.aM env []=[]:=(rfl)
@[go_sem] theorem Env.QL(env:Env)(k:Nat)(ks:List Nat):Env.aM env (k::ks)=Mq k (Env.find env k) (Env.aM env ks):=by
 unfold Mq;rw[Env.aM]
structure Holds(env:Env)(a:Act)(n:Nat):Prop where
 size:a.tmps.size=n
 defers:a.defers=[]
 BU:∀k v,Env.find env k=some v→a.tmps[k]? =some v
theorem Holds.vj{env:Env}{a:Act}{n:Nat}(h:Holds env a n):bR (Env.ev env) a:=by
 intro x v hx
 cases x with
 |tmp t=>simp only[Env.ev]at hx;simp[Act.eval,h.BU t v hx]
 |const u=>injection hx with hx
 |global g=>injection hx with hx
 |func f=>injection hx with hx
theorem Holds.put{env:Env}{a:Act}{n:Nat}(h:Holds env a n){dst:Option Nat}(hd:∀d,dst=some d→d<n)(v:Value):Holds (Env.put env dst v) (a.put dst v) n:=by
 cases dst with
 |none=>exact h
 |some d=>
  have aO:=hd d rfl
  refine⟨by simp[Act.put,h.size],by simp[Act.put,h.defers],fun k u hk=>?_⟩
  simp only[Env.put,Env.find]at hk
  by_cases e:d=k
  ·subst e
   simp at hk
   subst hk
   simp[Act.put,h.size,aO]
  ·have:(d==k)=false:=by simpa using e
   rw[this]at hk
   simp only[cond_false]at hk
   simpa[Act.put,Array.getElem?_setIfInBounds_ne e]using h.BU k u hk
theorem Holds.guard{env:Env}{a:Act}{n:Nat}(h:Holds env a n){g:Nat}{v:Value}(hg:Env.find env g=some v):Holds ((g,v)::env) a n:=by
 refine⟨h.size,h.defers,fun k u hk=>?_⟩
 simp only[Env.find]at hk
 by_cases e:g=k
 ·subst e
  simp at hk
  subst hk
  exact h.BU g v hg
 ·have:(g==k)=false:=by simpa using e
  rw[this]at hk
  exact h.BU k u hk
theorem QM(env:Env):∀ (ks:List Nat) (k:Nat) (v:Value),Env.find (Env.aM env ks) k=some v→Env.find env k=some v:=by
 intro ks
 induction ks with
 |nil=>intro k v h;cases h
 |cons x xs ih=>
  intro k v h
  rw[Env.QL]at h
  cases hx:Env.find env x with
  |none=>rw[hx]at h;exact ih k v h
  |some u=>
   rw[hx]at h
   simp only[Mq,Env.find]at h
   by_cases e:x=k
   ·subst e
    simp at h
    subst h
    exact hx
   ·have:(x==k)=false:=by simpa using e
    rw[this]at h
    exact ih k v h
theorem Holds.aM{env:Env}{a:Act}{n:Nat}(h:Holds env a n)(ks:List Nat):Holds (Env.aM env ks) a n:=
 ⟨h.size,h.defers,fun k v hk=>h.BU k v (QM env ks k v hk)⟩
structure fM where
 quiet:Bool
 guard:Option (Nat×Bool)
 dst:Option Nat
 op:dh
 deriving Inhabited
def fM.vc(P:Program)(s:fM)(ev:Ev)(H:Hp)(K:Value→Hp→Prop):Prop:=
 bif s.quiet then∃v,s.op.vc P ev H (fun v' H'=>v'=v∧H'=H)∧K v H else s.op.vc P ev H K
@[go_sem ↓] theorem fM.acT(P:Program)(g:Option (Nat×Bool))(d:Option Nat)(op:dh)(ev:Ev)(H:Hp)(K:Value→Hp→Prop):fM.vc P ⟨false,g,d,op⟩ ev H K=op.vc P ev H K:=(rfl)
@[go_sem ↓] theorem fM.acU(P:Program)(g:Option (Nat×Bool))(d:Option Nat)(op:dh)(ev:Ev)(H:Hp)(K:Value→Hp→Prop):
  fM.vc P ⟨true,g,d,op⟩ ev H K=∃v,op.vc P ev H (fun v' H'=>v'=v∧H'=H)∧K v H:=(rfl)
def GJ(o:Option Value)(F:Bool→Prop)(_t:Tag F:=⟨⟩):Prop:=match o with|some v=>BM v F|none=>False
@[go_sem] theorem V0(v:Value)(F:Bool→Prop):GJ (some v) F=BM v F:=(rfl)
def gV(o:Option Value)(F:Bool→Prop)(N:Prop)(_t:Tag F:=⟨⟩)(_u:Tag N:=⟨⟩):Prop:=
 match o with|some v=>(match v with| .bool b=>am b F| .tuple _=>N|_=>False)|none=>False
@[go_sem] theorem aeO(b:Bool)(F:Bool→Prop)(N:Prop):gV (some (.bool b)) F N=am b F:=(rfl)
@[go_sem] theorem acV(F:Bool→Prop)(N:Prop):gV (some undef) F N=N:=(rfl)
theorem EU{o:Option Value}{F:Bool→Prop}{N:Prop}(h:gV o F N):(∃b,o=some (.bool b)∧F b)∨(∃vs,o=some (.tuple vs)∧N):=by
 unfold gV at h
 split at h
 ·rename_i v
  split at h
  ·rename_i b
   obtain⟨b',e,h2⟩:=zT (v:=.bool b) (F:=F) h
   injection e with e
   subst e
   exact .inl ⟨b,rfl,h2⟩
  ·rename_i vs
   exact .inr ⟨vs,rfl,h⟩
  ·exact h.elim
 ·exact h.elim
def iM(P:Program)(K:Env→Hp→Prop):List fM→Env→Hp→Prop
 | [],env,H=>K env H
 |s::r,env,H=>
  match s.guard with
  |none=>s.vc P (Env.ev env) H fun v H'=>iM P K r (Env.put env s.dst v) H'
  |some (g,want)=>gV (Env.find env g) (fun b=>
   Gr (b==want) (s.vc P (Env.ev ((g,.bool b)::env)) H fun v H'=>iM P K r (Env.put ((g,.bool b)::env) s.dst v) H')
    (iM P K r (Env.put ((g,.bool b)::env) s.dst undef) H)) (iM P K r (Env.put env s.dst undef) H)
@[go_sem ↓] theorem Z8(P:Program)(K:Env→Hp→Prop)(env:Env)(H:Hp):iM P K [] env H=K env H:=(rfl)
@[go_sem ↓] theorem Ys(P:Program)(K:Env→Hp→Prop)(q:Bool)(d:Option Nat)(op:dh)(r:List fM)(env:Env)(H:Hp):
  iM P K (⟨q,none,d,op⟩::r) env H=fM.vc P ⟨q,none,d,op⟩ (Env.ev env) H fun v H'=>iM P K r (Env.put env d v) H':=(rfl)
@[go_sem ↓] theorem V5(P:Program)(K:Env→Hp→Prop)(q:Bool)(g:Nat)(want:Bool)(d:Option Nat)(op:dh)(r:List fM)(env:Env)(H:Hp):
  iM P K (⟨q,some (g,want),d,op⟩::r) env H=gV (Env.find env g) (fun b=>
   Gr (b==want) (fM.vc P ⟨q,none,d,op⟩ (Env.ev ((g,.bool b)::env)) H fun v H'=>iM P K r (Env.put ((g,.bool b)::env) d v) H')
    (iM P K r (Env.put ((g,.bool b)::env) d undef) H)) (iM P K r (Env.put env d undef) H):=(rfl)
def sw(P:Program)(n:Nat)(ops:Array Oper)(q:List Nat)(i:Nat)(o:Oper):Option fM:=
 match o.dst with
 |some d=>if d<n then go (some d)else none
 |none=>go none
 where
 go (dst:Option Nat):Option fM:=
  match I0 P o with
  |none=>none
  |some op=>
   match o.guard with
   |none=>some ⟨q.contains i,none,dst,op⟩
   |some (j,want)=>match(ops[j]?).bind (·.dst)with
    |some g=>some ⟨q.contains i,some (g,want),dst,op⟩
    |none=>none
def is(P:Program)(n:Nat)(ops:Array Oper)(q:List Nat):Nat→List Oper→Option (List fM)
 |_,[]=>some []
 |i,o::r=>
  match sw P n ops q i o with
  |none=>none
  |some s=>(is P n ops q (i+1) r).map (s:: ·)
def fM.cls(s:fM):Lf:=match s.op.cls with| .HH=>bif s.quiet then .quiet else .HH|c=>c
def Ta(l:List fM)(i:Nat):Lf:=match l[i]? with|some s=>s.cls|none=>.HH
section
variable {P : Program} {ops : Array Oper} {n : Nat}
theorem lD{q:List Nat}{i:Nat}{o:Oper}{s:fM}(h:sw P n ops q i o=some s):
  I0 P o=some s.op∧s.dst=o.dst∧(∀d,o.dst=some d→d<n)∧
   ((o.guard=none∧s.guard=none)∨∃j want g,o.guard=some (j,want)∧(ops[j]?).bind (·.dst)=some g∧s.guard=some (g,want)):=by
 have key:∀dst,sw.go P ops q i o dst=some s→I0 P o=some s.op∧s.dst=dst∧
   ((o.guard=none∧s.guard=none)∨∃j want g,o.guard=some (j,want)∧(ops[j]?).bind (·.dst)=some g∧s.guard=some (g,want)):=by
  intro dst h
  unfold sw.go at h
  split at h
  ·cases h
  ·rename_i op z8
   split at h
   ·rename_i hg;injection h with h;subst h;exact⟨z8,rfl,.inl ⟨hg,rfl⟩⟩
   ·rename_i j want hg
    split at h
    ·rename_i g z7;injection h with h;subst h;exact⟨z8,rfl,.inr ⟨j,want,g,hg,z7,rfl⟩⟩
    ·cases h
 unfold sw at h
 split at h
 ·rename_i d hd
  split at h
  ·rename_i aO
   obtain⟨h1,h2,h3⟩:=key _ h
   exact⟨h1,h2.trans hd.symm,(fun d' e=>by rw[hd]at e;injection e with e;subst e;exact aO),h3⟩
  ·cases h
 ·rename_i hd
  obtain⟨h1,h2,h3⟩:=key _ h
  exact⟨h1,h2.trans hd.symm,(fun d' e=>by rw[hd]at e;cases e),h3⟩
theorem vk{o:Oper}{y:Nat→Option Bool}(h:o.guard=none):Region.wanted o y=true:=by simp[Region.wanted,h]
theorem vl{o:Oper}{a:Act}{j g:Nat}{want b:Bool}(h:o.guard=some (j,want))(hg:(ops[j]?).bind (·.dst)=some g)(hv:a.tmps[g]? =some (.bool b)):
  Region.wanted o (yielded ops a.tmps)=(b==want):=by
 have:yielded ops a.tmps j=some b:=by simp[yielded,hg,hv]
 simp[Region.wanted,h,this]
theorem sz{o:Oper}{a:Act}{j g:Nat}{want:Bool}{vs:Array Value}(h:o.guard=some (j,want))(hg:(ops[j]?).bind (·.dst)=some g)(hv:a.tmps[g]? =some (.tuple vs)):
  Region.wanted o (yielded ops a.tmps)=false:=by
 have:yielded ops a.tmps j=none:=by simp[yielded,hg,hv]
 simp[Region.wanted,h,this]
theorem fM.sound{s:fM}{o:Oper}{a:Act}{ev:Ev}{H:Hp}{K:Value→Hp→Prop}(hd:I0 P o=some s.op)(bH:bR ev a)(h:s.vc P ev H K):dT P o a H K:=by
 unfold fM.vc at h
 cases hq:s.quiet
 ·rw[hq]at h;exact(Go.Vc.sound s.op hd bH h).2
 ·rw[hq]at h
  obtain⟨v,h1,h2⟩:=h
  exact(Go.Vc.sound s.op hd bH h1).2.mono fun v' H' ⟨e1,e2⟩=>by rw[e1,e2];exact h2
theorem On{K:Env→Hp→Prop}{q:List Nat}:∀ (l:List Oper) (i:Nat) (ss:List fM),(∀k,l[k]? =ops[i+k]?)→is P n ops q i l=some ss→
  ∀ (env:Env) (a:Act) (H:Hp),Holds env a n→iM P K ss env H→Le P ops (fun a' H'=>∃aU,Holds aU a' n∧K aU H') (List.range' i l.length) a H:=by
 intro l
 induction l with
 |nil=>
  intro i ss _ hd env a H hh h
  simp only[is,aor]at hd
  subst hd
  exact⟨env,hh,h⟩
 |cons o l ih=>
  intro i ss hl hd env a H hh h
  unfold is at hd
  split at hd
  ·cases hd
  ·rename_i s hs
   cases hr:is P n ops q (i+1) l with
   |none=>rw[hr]at hd;cases hd
   |some Ty=>
    rw[hr]at hd
    simp only[Option.map_some,aor]at hd
    subst hd
    obtain⟨z8,nQ,aO,hg⟩:=lD hs
    have Yt:ops[i]? =some o:=by have:=hl 0;simpa using this.symm
    have EQ:∀k,l[k]? =ops[i+1+k]? :=fun k=>by have:=hl (k+1);rw[apf]at this;rw[this];congr 1;omega
    rw[aoC,List.range'_succ]
    simp only[Le,Yt]
    unfold iM at h
    rcases hg with ⟨Pd,C2⟩| ⟨j,want,g,Pd,C2,hg3⟩
    ·rw[vk Pd,if_pos rfl]
     rw[C2]at h
     refine(fM.sound z8 hh.vj h).mono fun v H' hk=>?_
     rw[nQ]at hk
     exact ih (i+1) Ty EQ hr _ _ _ (hh.put aO v) hk
    ·rw[hg3]at h
     rcases EU h with ⟨b,hv,h⟩| ⟨vs,hv,h⟩
     ·have Mr:=vl (o:=o) Pd C2 (hh.BU g _ hv)
      rw[Mr]
      have ot:=hh.guard hv
      cases hb:b==want
      ·rw[hb]at h
       simp only[Gr]at h
       rw[if_neg (by simp)]
       rw[nQ]at h
       exact ih (i+1) Ty EQ hr _ _ _ (ot.put aO undef) h
      ·rw[hb]at h
       simp only[Gr]at h
       rw[if_pos rfl]
       refine(fM.sound z8 ot.vj h).mono fun v H' hk=>?_
       rw[nQ]at hk
       exact ih (i+1) Ty EQ hr _ _ _ (ot.put aO v) hk
     ·rw[sz Pd C2 (hh.BU g _ hv),if_neg (by simp)]
      rw[nQ]at h
      exact ih (i+1) Ty EQ hr _ _ _ (hh.put aO undef) h
def acX(P:Program)(s:fM)(env:Env)(H:Hp)(F:Env→Hp→Prop):Prop:=
 match s.guard with
 |none=>s.vc P (Env.ev env) H fun v H'=>F (Env.put env s.dst v) H'
 |some (g,want)=>gV (Env.find env g) (fun b=>
   Gr (b==want) (s.vc P (Env.ev ((g,.bool b)::env)) H fun v H'=>F (Env.put ((g,.bool b)::env) s.dst v) H')
    (F (Env.put ((g,.bool b)::env) s.dst undef) H)) (F (Env.put env s.dst undef) H)
theorem Tb{q:List Nat}{cls:Nat→Lf}{i:Nat}{o:Oper}{s:fM}{F:Env→Hp→Prop}{G:Act→Hp→Prop}{env:Env}{a:Act}{H:Hp}(Yt:ops[i]? =some o)(hs:sw P n ops q i o=some s)(Wx:cls i=s.cls)
  (hh:Holds env a n)(h:acX P s env H F)(next:∀aU a' H',Holds aU a' n→F aU H'→G a' H'):jQ P ops cls i G a H:=by
 obtain⟨z8,nQ,aO,hg⟩:=lD hs
 have step:∀ (env:Env),Holds env a n→s.vc P (Env.ev env) H (fun v H'=>F (Env.put env s.dst v) H')→
   (match cls i with
    | .pure=>∃v,(∀w,(execOp a.eval o).run P w= .ok (.value v) w)∧G (a.put o.dst v) H
    | .quiet=>∃v,dT P o a H (fun v' H'=>v'=v∧H'=H)∧G (a.put o.dst v) H
    | .HH=>dT P o a H fun v H'=>G (a.put o.dst v) H'):=by
  intro env hh h
  have next':∀v H',F (Env.put env s.dst v) H'→G (a.put o.dst v) H':=by
   intro v H' hk
   rw[nQ]at hk
   exact next _ _ _ (hh.put aO v) hk
  rw[Wx]
  unfold fM.cls
  cases hc:s.op.cls with
  |pure=>
   have hp:s.op.vc P (Env.ev env) H (fun v H'=>F (Env.put env s.dst v) H'):=by
    unfold fM.vc at h
    cases hq:s.quiet
    ·rw[hq]at h;exact h
    ·rw[hq]at h
     obtain⟨v,h1,h2⟩:=h
     exact(Pb s.op hc h1 fun v' H' ⟨e1,e2⟩=>by rw[e1,e2];exact h2)
   obtain⟨v,e1,e2⟩:=(Go.Vc.sound s.op z8 hh.vj hp).1 hc
   exact⟨v,e1,next' _ _ e2⟩
  |quiet=>
   unfold fM.vc at h
   cases hq:s.quiet
   ·rw[hq]at h
    obtain⟨v,h1,h2⟩:=S7 s.op hc h
    exact⟨v,(Go.Vc.sound s.op z8 hh.vj h1).2,next' _ _ h2⟩
   ·rw[hq]at h
    obtain⟨v,h1,h2⟩:=h
    exact⟨v,(Go.Vc.sound s.op z8 hh.vj h1).2,next' _ _ h2⟩
  |HH=>
   unfold fM.vc at h
   cases hq:s.quiet
   ·rw[hq]at h;exact(Go.Vc.sound s.op z8 hh.vj h).2.mono next'
   ·rw[hq]at h
    obtain⟨v,h1,h2⟩:=h
    exact⟨v,(Go.Vc.sound s.op z8 hh.vj h1).2,next' _ _ h2⟩
 unfold jQ
 simp only[Yt]
 unfold acX at h
 rcases hg with ⟨Pd,C2⟩| ⟨j,want,g,Pd,C2,hg3⟩
 ·rw[vk Pd,if_pos rfl]
  rw[C2]at h
  exact step env hh h
 ·rw[hg3]at h
  rcases EU h with ⟨b,hv,h⟩| ⟨vs,hv,h⟩
  ·have Mr:=vl (o:=o) Pd C2 (hh.BU g _ hv)
   rw[Mr]
   have ot:=hh.guard hv
   cases hb:b==want
   ·rw[hb]at h
    simp only[Gr]at h
    rw[if_neg (by simp)]
    rw[nQ]at h
    exact next _ _ _ (ot.put aO undef) h
   ·rw[hb]at h
    simp only[Gr]at h
    rw[if_pos rfl]
    exact step _ ot h
  ·rw[sz Pd C2 (hh.BU g _ hv),if_neg (by simp)]
   rw[nQ]at h
   exact next _ _ _ (hh.put aO undef) h
theorem Oo{K:Env→Hp→Prop}{q:List Nat}{cls:Nat→Lf}:∀ (l:List Oper) (i:Nat) (ss:List fM),(∀k,l[k]? =ops[i+k]?)→is P n ops q i l=some ss→
  (∀k s,ss[k]? =some s→cls (i+k)=s.cls)→
  ∀ (env:Env) (a:Act) (H:Hp),Holds env a n→iM P K ss env H→Rs P ops cls (fun a' H'=>∃aU,Holds aU a' n∧K aU H') (List.range' i l.length) a H:=by
 intro l
 induction l with
 |nil=>
  intro i ss _ hd _ env a H hh h
  simp only[is,aor]at hd
  subst hd
  exact⟨env,hh,h⟩
 |cons o l ih=>
  intro i ss hl hd acY env a H hh h
  unfold is at hd
  split at hd
  ·cases hd
  ·rename_i s hs
   cases hr:is P n ops q (i+1) l with
   |none=>rw[hr]at hd;cases hd
   |some Ty=>
    rw[hr]at hd
    simp only[Option.map_some,aor]at hd
    subst hd
    have Yt:ops[i]? =some o:=by have:=hl 0;simpa using this.symm
    have EQ:∀k,l[k]? =ops[i+1+k]? :=fun k=>by have:=hl (k+1);rw[apf]at this;rw[this];congr 1;omega
    have Wx:cls i=s.cls:=by have:=acY 0 s rfl;simpa using this
    have acZ:∀k s',Ty[k]? =some s'→cls (i+1+k)=s'.cls:=fun k s' e=>by have:=acY (k+1) s' (by simpa using e);rw[←this];congr 1;omega
    rw[aoC,List.range'_succ]
    exact Tb (F:=iM P K Ty) Yt hs Wx hh h fun aU a' H' ot hk=>ih (i+1) Ty EQ hr acZ aU a' H' ot hk
theorem Oq{q:List Nat}:∀ (l:List Oper) (i:Nat) (ss:List fM),(∀k,l[k]? =ops[i+k]?)→is P n ops q i l=some ss→∀k s,ss[k]? =some s→∃o,ops[i+k]? =some o∧sw P n ops q (i+k) o=some s:=by
 intro l
 induction l with
 |nil=>intro i ss _ hd k s hk;simp only[is,aor]at hd;subst hd;simp at hk
 |cons o l ih=>
  intro i ss hl hd k s hk
  unfold is at hd
  split at hd
  ·cases hd
  ·rename_i s0 hs
   cases hr:is P n ops q (i+1) l with
   |none=>rw[hr]at hd;cases hd
   |some Ty=>
    rw[hr]at hd
    simp only[Option.map_some,aor]at hd
    subst hd
    have EQ:∀k,l[k]? =ops[i+1+k]? :=fun k=>by have:=hl (k+1);rw[apf]at this;rw[this];congr 1;omega
    cases k with
    |zero=>
     simp only[aoL,aor]at hk
     subst hk
     exact⟨o,by have:=hl 0;simpa using this.symm,hs⟩
    |succ k=>
     have:=ih (i+1) Ty EQ hr k s (by simpa using hk)
     rw[show i+1+k=i+(k+1) by omega]at this
     exact this
inductive sK where
 |done
 |aR(s:fM)(t:sK)
 |xP(s:fM)(t:sK)
 |aE(s:fM)(t r:sK)
 |stop
 deriving Inhabited
def fM.steady(s:fM):Bool:=s.quiet || (match s.op.cls with| .pure=>true|_=>false)
def Ms(l:List fM)(i:Nat):Bool:=match l[i]? with|some s=>s.steady|none=>false
def attach(ss:List fM):Ot→Option sK
 | .done=>some .done
 | .step i t=>match ss[i]?,attach ss t with
  |some s,some t=>bif s.quiet then some (.xP s t)else match s.op.cls with| .pure=>some (.aR s t)|_=>none
  |_,_=>none
 | .aE i t r=>match ss[i]?,attach ss t,attach ss r with
  |some s,some t,some r=>bif s.steady then none else some (.aE s t r)
  |_,_,_=>none
 | .stop=>some .stop
def EM(A B:Prop)(_ta:Tag A:=⟨⟩)(_tb:Tag B:=⟨⟩):Prop:=A∧B
theorem EM.intro{A B:Prop}(a:A)(b:B):EM A B:=⟨a,b⟩
@[go_sem] theorem ac0(A:Prop):EM A True=A:=by simp[EM]
def fJ(Inv:Hp→Prop)(G:Hp→(Value→Hp→Prop)→Prop)(K:Value→Prop)(_t:Tag G:=⟨⟩)(_u:Tag K:=⟨⟩):Prop:=∃v,(∀H',Inv H'→G H' fun v' GP=>v'=v∧GP=H')∧K v
theorem fJ.intro{Inv:Hp→Prop}{G:Hp→(Value→Hp→Prop)→Prop}{K:Value→Prop}(v:Value)(h:∀H',Inv H'→G H' fun v' GP=>v'=v∧GP=H')(k:K v):fJ Inv G K:=⟨v,h,k⟩
def jB(H:Hp)(F:(Hp→Prop)→Prop)(_t:Tag F:=⟨⟩):Prop:=∃Inv,Inv H∧F Inv
theorem jB.intro{H:Hp}{F:(Hp→Prop)→Prop}(Inv:Hp→Prop)(h:Inv H)(f:F Inv):jB H F:=⟨Inv,h,f⟩
def BV(s:fM)(env:Env)(F:Env→Prop)(N:Env→Prop):Prop:=
 match s.guard with
 |none=>F env
 |some (g,want)=>gV (Env.find env g) (fun b=>Gr (b==want) (F ((g,.bool b)::env)) (N ((g,.bool b)::env))) (N env)
@[go_sem ↓] theorem Yu(q:Bool)(d:Option Nat)(op:dh)(env:Env)(F N:Env→Prop):BV ⟨q,none,d,op⟩ env F N=F env:=(rfl)
@[go_sem ↓] theorem Yv(q:Bool)(g:Nat)(want:Bool)(d:Option Nat)(op:dh)(env:Env)(F N:Env→Prop):
  BV ⟨q,some (g,want),d,op⟩ env F N=gV (Env.find env g) (fun b=>Gr (b==want) (F ((g,.bool b)::env)) (N ((g,.bool b)::env))) (N env):=(rfl)
def Dm(P:Program)(Inv:Hp→Prop)(K:Env→Hp→Prop):sK→Env→Hp→Prop
 | .done,env,H=>K env H
 | .aR s t,env,H=>BV s env (fun e=>s.op.vc P (Env.ev e) H fun v H'=>Dm P Inv K t (Env.put e s.dst v) H') (fun e=>Dm P Inv K t (Env.put e s.dst undef) H)
 | .xP s t,env,H=>BV s env (fun e=>fJ Inv (fun H' k=>s.op.vc P (Env.ev e) H' k) fun v=>Dm P Inv K t (Env.put e s.dst v) H) (fun e=>Dm P Inv K t (Env.put e s.dst undef) H)
 | .aE s t r,env,H=>EM (BV s env (fun e=>s.op.vc P (Env.ev e) H fun v H'=>dD (Inv H') (Dm P Inv K t (Env.put e s.dst v) H')) (fun e=>Dm P Inv K t (Env.put e s.dst undef) H)) (Dm P Inv K r env H)
 | .stop,_,_=>True
section
variable (Inv : Hp → Prop) (K : Env → Hp → Prop) (s : fM) (t r : sK) (env : Env) (H : Hp)
@[go_sem ↓] theorem ac1:Dm P Inv K .done env H=K env H:=(rfl)
@[go_sem ↓] theorem ac2:Dm P Inv K .stop env H=True:=(rfl)
@[go_sem ↓] theorem aeP(q:Bool)(g:Option (Nat×Bool))(d:Option Nat)(op:dh):Dm P Inv K (.aR ⟨q,g,d,op⟩ t) env H=
  BV ⟨q,g,d,op⟩ env (fun e=>op.vc P (Env.ev e) H fun v H'=>Dm P Inv K t (Env.put e d v) H') (fun e=>Dm P Inv K t (Env.put e d undef) H):=(rfl)
@[go_sem ↓] theorem aeQ(q:Bool)(g:Option (Nat×Bool))(d:Option Nat)(op:dh):Dm P Inv K (.xP ⟨q,g,d,op⟩ t) env H=
  BV ⟨q,g,d,op⟩ env (fun e=>fJ Inv (fun H' k=>op.vc P (Env.ev e) H' k) fun v=>Dm P Inv K t (Env.put e d v) H) (fun e=>Dm P Inv K t (Env.put e d undef) H):=(rfl)
@[go_sem ↓] theorem ac3(q:Bool)(g:Option (Nat×Bool))(d:Option Nat)(op:dh)(s':fM)(t' r':sK):Dm P Inv K (.aE ⟨q,g,d,op⟩ t (.aE s' t' r')) env H=
  EM (BV ⟨q,g,d,op⟩ env (fun e=>op.vc P (Env.ev e) H fun v H'=>dD (Inv H') (Dm P Inv K t (Env.put e d v) H')) (fun e=>Dm P Inv K t (Env.put e d undef) H)) (Dm P Inv K (.aE s' t' r') env H):=(rfl)
@[go_sem ↓] theorem Z9(q:Bool)(g:Option (Nat×Bool))(d:Option Nat)(op:dh):Dm P Inv K (.aE ⟨q,g,d,op⟩ t .stop) env H=
  BV ⟨q,g,d,op⟩ env (fun e=>op.vc P (Env.ev e) H fun v H'=>dD (Inv H') (Dm P Inv K t (Env.put e d v) H')) (fun e=>Dm P Inv K t (Env.put e d undef) H):=by
 show EM _ True=_
 simp[EM]
end
theorem GK{q:List Nat}{Inv:Hp→Prop}{st:Nat→Bool}{i:Nat}{o:Oper}{s:fM}{F N:Env→Prop}{G:Act→Hp→Prop}{env:Env}{a:Act}{H:Hp}(Yt:ops[i]? =some o)(hs:sw P n ops q i o=some s)
  (hh:Holds env a n)(h:BV s env F N)(hN:∀e,Holds e a n→N e→G (a.put o.dst undef) H)
  (hF:∀e,Holds e a n→F e→match st i with
   |true=>∃v,(∀H',Inv H'→dT P o a H' fun v' GP=>v'=v∧GP=H')∧G (a.put o.dst v) H
   |false=>dT P o a H fun v H'=>Inv H'∧G (a.put o.dst v) H'):iD P ops Inv st i G a H:=by
 obtain⟨z8,nQ,aO,hg⟩:=lD hs
 unfold iD
 simp only[Yt]
 unfold BV at h
 rcases hg with ⟨Pd,C2⟩| ⟨j,want,g,Pd,C2,hg3⟩
 ·rw[vk Pd,if_pos rfl]
  rw[C2]at h
  exact hF env hh h
 ·rw[hg3]at h
  rcases EU h with ⟨b,hv,h⟩| ⟨vs,hv,h⟩
  ·have Mr:=vl (o:=o) Pd C2 (hh.BU g _ hv)
   rw[Mr]
   have ot:=hh.guard hv
   cases hb:b==want
   ·rw[hb]at h
    rw[if_neg (by simp)]
    exact hN _ ot h
   ·rw[hb]at h
    rw[if_pos rfl]
    exact hF _ ot h
  ·rw[sz Pd C2 (hh.BU g _ hv),if_neg (by simp)]
   exact hN _ hh h
theorem Mt{K:Env→Hp→Prop}{q:List Nat}{Inv:Hp→Prop}{ss:List fM}(cd:∀k s,ss[k]? =some s→∃o,ops[k]? =some o∧sw P n ops q k o=some s):
  ∀ (t:Ot) (ts:sK),attach ss t=some ts→∀ (env:Env) (a:Act) (H:Hp),Holds env a n→Dm P Inv K ts env H→PI P ops Inv (Ms ss) (fun a' H'=>∃aU,Holds aU a' n∧K aU H') t a H:=by
 intro t
 induction t with
 |done=>intro ts ht env a H hh h;simp only[attach,aor]at ht;subst ht;exact⟨env,hh,h⟩
 |stop=>intro ts ht env a H hh h;trivial
 |step i t ih=>
  intro ts ht env a H hh h
  unfold attach at ht
  split at ht
  ·rename_i s t' hs TR
   obtain⟨o,ho,hd⟩:=cd i s hs
   obtain⟨z8,nQ,aO,_⟩:=lD hd
   cases hq:s.quiet
   ·rw[hq]at ht
    simp only[cond_false]at ht
    split at ht
    ·rename_i hc
     injection ht with ht
     subst ht
     have uD:Ms ss i=true:=by simp[Ms,hs,fM.steady,hc]
     refine GK ho hd hh h (fun e he hN=>?_) (fun e he hF=>?_)
     ·rw[←nQ];exact ih t' TR _ _ _ (by rw[nQ];exact he.put aO undef) hN
     ·rw[uD]
      obtain⟨v,e1,e2⟩:=(Go.Vc.sound s.op z8 he.vj hF).1 hc
      refine⟨v,fun H' _=>AW e1 H',?_⟩
      rw[←nQ];exact ih t' TR _ _ _ (by rw[nQ];exact he.put aO v) e2
    ·cases ht
   ·rw[hq]at ht
    simp only[cond_true,aor]at ht
    subst ht
    have uD:Ms ss i=true:=by simp[Ms,hs,fM.steady,hq]
    refine GK ho hd hh h (fun e he hN=>?_) (fun e he hF=>?_)
    ·rw[←nQ];exact ih t' TR _ _ _ (by rw[nQ];exact he.put aO undef) hN
    ·rw[uD]
     obtain⟨v,e1,e2⟩:=hF
     refine⟨v,fun H' hI=>(Go.Vc.sound s.op z8 he.vj (e1 H' hI)).2,?_⟩
     rw[←nQ];exact ih t' TR _ _ _ (by rw[nQ];exact he.put aO v) e2
  ·cases ht
 |aE i t r iht ihr=>
  intro ts ht env a H hh h
  unfold attach at ht
  split at ht
  ·rename_i s t' r' hs TR hr'
   obtain⟨o,ho,hd⟩:=cd i s hs
   obtain⟨z8,nQ,aO,_⟩:=lD hd
   cases hq:s.steady
   ·rw[hq]at ht
    simp only[cond_false,aor]at ht
    subst ht
    have uD:Ms ss i=false:=by simp[Ms,hs,hq]
    refine⟨GK ho hd hh h.1 (fun e he hN=>?_) (fun e he hF=>?_),ihr r' hr' env a H hh h.2⟩
    ·rw[←nQ];exact iht t' TR _ _ _ (by rw[nQ];exact he.put aO undef) hN
    ·rw[uD]
     refine(Go.Vc.sound s.op z8 he.vj hF).2.mono fun v H' ⟨k1,k2⟩=>⟨k1,?_⟩
     rw[←nQ];exact iht t' TR _ _ _ (by rw[nQ];exact he.put aO v) k2
   ·rw[hq]at ht
    cases ht
  ·cases ht
end
end Go.Vc
