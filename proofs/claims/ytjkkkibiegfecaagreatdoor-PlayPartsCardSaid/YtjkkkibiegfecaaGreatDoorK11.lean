/- Texts put behind each other. -/
import Derived.Test.YtjkkkibiegfecaaGreatDoorK98
import Derived.Test.YtjkkkibiegfecaaGreatDoorK10
set_option maxRecDepth 100000
set_option maxHeartbeats 8000000
set_option linter.unusedVariables false
set_option linter.unusedSimpArgs false
namespace Go.Vc
abbrev Env:=List (Nat×Value)
def Env.find:Env→Nat→Option Value
 | [],_=>none
 | (k,v)::r,n=>bif k==n then some v else Env.find r n
@[go_sem] theorem Env.aaA(n:Nat):Env.find [] n=none:=(rfl)
@[go_sem] theorem Env.Zl(k n:Nat)(v:Value)(r:Env):Env.find ((k,v)::r) n=bif k==n then some v else Env.find r n:=(rfl)
def Env.ev(env:Env):Ev
 | .tmp t=>Env.find env t
 | .const v=>some v
 | .global g=>some (.pointer (some ⟨g,0,none⟩))
 | .func f=>some (.func (.func f) #[] #[])
@[go_sem] theorem Env.aeK(env:Env)(t:Nat):Env.ev env (.tmp t)=Env.find env t:=(rfl)
@[go_sem] theorem Env.aaB(env:Env)(v:Value):Env.ev env (.const v)=some v:=(rfl)
@[go_sem] theorem Env.Zm(env:Env)(g:Nat):Env.ev env (.global g)=some (.pointer (some ⟨g,0,none⟩)):=(rfl)
@[go_sem] theorem Env.adh(env:Env)(f:Nat):Env.ev env (.func f)=some (.func (.func f) #[] #[]):=(rfl)
def Env.put(env:Env)(dst:Option Nat)(v:Value):Env:=match dst with|some d=>(d,v)::env|none=>env
@[go_sem] theorem Env.aaC(env:Env)(d:Nat)(v:Value):Env.put env (some d) v=(d,v)::env:=(rfl)
@[go_sem] theorem Env.aaD(env:Env)(v:Value):Env.put env none v=env:=(rfl)
def Env.aO(env:Env):List Nat→Env
 | []=>[]
 |k::ks=>match Env.find env k with|some v=>(k,v)::Env.aO env ks|none=>Env.aO env ks
def PC(k:Nat)(o:Option Value)(r:Env):Env:=match o with|some v=>(k,v)::r|none=>r
@[go_sem] theorem WZ(k:Nat)(v:Value)(r:Env):PC k (some v) r=(k,v)::r:=(rfl)
@[go_sem] theorem W1(k:Nat)(r:Env):PC k none r=r:=(rfl)
@[go_sem] theorem Env.aaE(env:Env):Env.aO env []=[]:=(rfl)
@[go_sem] theorem Env.Qv(env:Env)(k:Nat)(ks:List Nat):Env.aO env (k::ks)=PC k (Env.find env k) (Env.aO env ks):=by
 rfl
structure Holds(env:Env)(a:Act)(n:Nat):Prop where
 size:a.tmps.size=n
 defers:a.defers=[]
 AO:∀k v,Env.find env k=some v→a.tmps[k]? =some v
theorem Holds.uP{env:Env}{a:Act}{n:Nat}(h:Holds env a n):bT (Env.ev env) a:=by
 intro x v hx
 cases x with
 |tmp t=>simp only[Env.ev]at hx;simp[Act.eval,h.AO t v hx]
 |const u=>injection hx with hx
 |global g=>injection hx with hx
 |func f=>injection hx with hx
theorem Holds.put{env:Env}{a:Act}{n:Nat}(h:Holds env a n){dst:Option Nat}(hd:∀d,dst=some d→d<n)(v:Value):Holds (Env.put env dst v) (a.put dst v) n:=by
 cases dst with
 |none=>exact h
 |some d=>
  have bf:=hd d rfl
  refine⟨by simp[Act.put,h.size],by simp[Act.put,h.defers],fun k u hk=>?_⟩
  simp only[Env.put,Env.find]at hk
  by_cases e:d=k
  ·subst e
   simp at hk
   subst hk
   simp[Act.put,h.size,bf]
  ·have:(d==k)=false:=by simpa using e
   rw[this]at hk
   simp only[cond_false]at hk
   simpa[Act.put,Array.getElem?_setIfInBounds_ne e]using h.AO k u hk
theorem Holds.guard{env:Env}{a:Act}{n:Nat}(h:Holds env a n){g:Nat}{v:Value}(hg:Env.find env g=some v):Holds ((g,v)::env) a n:=by
 refine⟨h.size,h.defers,fun k u hk=>?_⟩
 simp only[Env.find]at hk
 by_cases e:g=k
 ·subst e
  simp at hk
  subst hk
  exact h.AO g v hg
 ·have:(g==k)=false:=by simpa using e
  rw[this]at hk
  exact h.AO k u hk
theorem Qw(env:Env):∀ (ks:List Nat) (k:Nat) (v:Value),Env.find (Env.aO env ks) k=some v→Env.find env k=some v:=by
 intro ks
 induction ks with
 |nil=>intro k v h;cases h
 |cons x xs ih=>
  intro k v h
  rw[Env.Qv]at h
  cases hx:Env.find env x with
  |none=>rw[hx]at h;exact ih k v h
  |some u=>
   rw[hx]at h
   simp only[PC,Env.find]at h
   grind
theorem Holds.aO{env:Env}{a:Act}{n:Nat}(h:Holds env a n)(ks:List Nat):Holds (Env.aO env ks) a n:=
 ⟨h.size,h.defers,fun k v hk=>h.AO k v (Qw env ks k v hk)⟩
structure gY where
 quiet:Bool
 guard:Option (Nat×Bool)
 dst:Option Nat
 op:dD
 deriving Inhabited
def gY.vc(P:Program)(s:gY)(ev:Ev)(H:Hp)(K:Value→Hp→Prop):Prop:=
 bif s.quiet then∃v,s.op.vc P ev H (fun v' H'=>v'=v∧H'=H)∧K v H else s.op.vc P ev H K
@[go_sem ↓] theorem gY.aaF(P:Program)(g:Option (Nat×Bool))(d:Option Nat)(op:dD)(ev:Ev)(H:Hp)(K:Value→Hp→Prop):gY.vc P ⟨false,g,d,op⟩ ev H K=op.vc P ev H K:=(rfl)
@[go_sem ↓] theorem gY.aaG(P:Program)(g:Option (Nat×Bool))(d:Option Nat)(op:dD)(ev:Ev)(H:Hp)(K:Value→Hp→Prop):
  gY.vc P ⟨true,g,d,op⟩ ev H K=∃v,op.vc P ev H (fun v' H'=>v'=v∧H'=H)∧K v H:=(rfl)
def FX(o:Option Value)(F:Bool→Prop)(_t:Tag F:=⟨⟩):Prop:=match o with|some v=>AK v F|none=>False
@[go_sem] theorem Wb(v:Value)(F:Bool→Prop):FX (some v) F=AK v F:=(rfl)
def gV(o:Option Value)(F:Bool→Prop)(N:Prop)(_t:Tag F:=⟨⟩)(_u:Tag N:=⟨⟩):Prop:=
 match o with|some v=>(match v with| .bool b=>ar b F| .tuple _=>N|_=>False)|none=>False
@[go_sem] theorem adi(b:Bool)(F:Bool→Prop)(N:Prop):gV (some (.bool b)) F N=ar b F:=(rfl)
@[go_sem] theorem aaH(F:Bool→Prop)(N:Prop):gV (some undef) F N=N:=(rfl)
theorem Fx{o:Option Value}{F:Bool→Prop}{N:Prop}(h:gV o F N):(∃b,o=some (.bool b)∧F b)∨(∃vs,o=some (.tuple vs)∧N):=by
 unfold gV at h
 split at h
 ·rename_i v
  split at h
  ·rename_i b
   obtain⟨b',e,h2⟩:=yW (v:=.bool b) (F:=F) h
   grind
  ·grind
  grind
 grind
def iO(P:Program)(K:Env→Hp→Prop):List gY→Env→Hp→Prop
 | [],env,H=>K env H
 |s::r,env,H=>
  match s.guard with
  |none=>s.vc P (Env.ev env) H fun v H'=>iO P K r (Env.put env s.dst v) H'
  |some (g,want)=>gV (Env.find env g) (fun b=>
   FW (b==want) (s.vc P (Env.ev ((g,.bool b)::env)) H fun v H'=>iO P K r (Env.put ((g,.bool b)::env) s.dst v) H')
    (iO P K r (Env.put ((g,.bool b)::env) s.dst undef) H)) (iO P K r (Env.put env s.dst undef) H)
@[go_sem ↓] theorem Zn(P:Program)(K:Env→Hp→Prop)(env:Env)(H:Hp):iO P K [] env H=K env H:=(rfl)
@[go_sem ↓] theorem W2(P:Program)(K:Env→Hp→Prop)(q:Bool)(d:Option Nat)(op:dD)(r:List gY)(env:Env)(H:Hp):
  iO P K (⟨q,none,d,op⟩::r) env H=gY.vc P ⟨q,none,d,op⟩ (Env.ev env) H fun v H'=>iO P K r (Env.put env d v) H':=(rfl)
@[go_sem ↓] theorem Wc(P:Program)(K:Env→Hp→Prop)(q:Bool)(g:Nat)(want:Bool)(d:Option Nat)(op:dD)(r:List gY)(env:Env)(H:Hp):
  iO P K (⟨q,some (g,want),d,op⟩::r) env H=gV (Env.find env g) (fun b=>
   FW (b==want) (gY.vc P ⟨q,none,d,op⟩ (Env.ev ((g,.bool b)::env)) H fun v H'=>iO P K r (Env.put ((g,.bool b)::env) d v) H')
    (iO P K r (Env.put ((g,.bool b)::env) d undef) H)) (iO P K r (Env.put env d undef) H):=(rfl)
def r7(P:Program)(n:Nat)(ops:Array Oper)(q:List Nat)(i:Nat)(o:Oper):Option gY:=
 match o.dst with
 |some d=>if d<n then go (some d)else none
 |none=>go none
 where
 go (dst:Option Nat):Option gY:=
  match Jr P o with
  |none=>none
  |some op=>
   match o.guard with
   |none=>some ⟨q.contains i,none,dst,op⟩
   |some (j,want)=>match(ops[j]?).bind (·.dst)with
    |some g=>some ⟨q.contains i,some (g,want),dst,op⟩
    |none=>none
def iC(P:Program)(n:Nat)(ops:Array Oper)(q:List Nat):Nat→List Oper→Option (List gY)
 |_,[]=>some []
 |i,o::r=>
  match r7 P n ops q i o with
  |none=>none
  |some s=>(iC P n ops q (i+1) r).map (s:: ·)
def gY.cls(s:gY):LN:=match s.op.cls with| .HZ=>bif s.quiet then .quiet else .HZ|c=>c
def Sc(l:List gY)(i:Nat):LN:=match l[i]? with|some s=>s.cls|none=>.HZ
section
variable {P : Program} {ops : Array Oper} {n : Nat}
theorem lE{q:List Nat}{i:Nat}{o:Oper}{s:gY}(h:r7 P n ops q i o=some s):
  Jr P o=some s.op∧s.dst=o.dst∧(∀d,o.dst=some d→d<n)∧
   ((o.guard=none∧s.guard=none)∨∃j want g,o.guard=some (j,want)∧(ops[j]?).bind (·.dst)=some g∧s.guard=some (g,want)):=by
 have key:∀dst,r7.go P ops q i o dst=some s→Jr P o=some s.op∧s.dst=dst∧
   ((o.guard=none∧s.guard=none)∨∃j want g,o.guard=some (j,want)∧(ops[j]?).bind (·.dst)=some g∧s.guard=some (g,want)):=by
  intro dst h
  unfold r7.go at h
  split at h
  ·cases h
  ·grind
 unfold r7 at h
 grind
theorem uQ{o:Oper}{y:Nat→Option Bool}(h:o.guard=none):Region.wanted o y=true:=by simp[Region.wanted,h]
theorem uR{o:Oper}{a:Act}{j g:Nat}{want b:Bool}(h:o.guard=some (j,want))(hg:(ops[j]?).bind (·.dst)=some g)(hv:a.tmps[g]? =some (.bool b)):
  Region.wanted o (yielded ops a.tmps)=(b==want):=by
 have:yielded ops a.tmps j=some b:=by simp[yielded,hg,hv]
 simp[Region.wanted,h,this]
theorem r9{o:Oper}{a:Act}{j g:Nat}{want:Bool}{vs:Array Value}(h:o.guard=some (j,want))(hg:(ops[j]?).bind (·.dst)=some g)(hv:a.tmps[g]? =some (.tuple vs)):
  Region.wanted o (yielded ops a.tmps)=false:=by
 have:yielded ops a.tmps j=none:=by simp[yielded,hg,hv]
 simp[Region.wanted,h,this]
theorem gY.sound{s:gY}{o:Oper}{a:Act}{ev:Ev}{H:Hp}{K:Value→Hp→Prop}(hd:Jr P o=some s.op)(bO:bT ev a)(h:s.vc P ev H K):ef P o a H K:=by
 unfold gY.vc at h
 cases hq:s.quiet
 ·rw[hq]at h;exact(Go.Vc.sound s.op hd bO h).2
 ·rw[hq]at h
  obtain⟨v,h1,h2⟩:=h
  exact(Go.Vc.sound s.op hd bO h1).2.mono (by grind)
theorem NO{K:Env→Hp→Prop}{q:List Nat}:∀ (l:List Oper) (i:Nat) (ss:List gY),(∀k,l[k]? =ops[i+k]?)→iC P n ops q i l=some ss→
  ∀ (env:Env) (a:Act) (H:Hp),Holds env a n→iO P K ss env H→LX P ops (fun a' H'=>∃bv,Holds bv a' n∧K bv H') (List.range' i l.length) a H:=by
 intro l
 induction l with
 |nil=>
  intro i ss _ hd env a H hh h
  simp only[iC,aoq]at hd
  subst hd
  exact⟨env,hh,h⟩
 |cons o l ih=>
  intro i ss hl hd env a H hh h
  unfold iC at hd
  split at hd
  ·cases hd
  ·rename_i s hs
   cases hr:iC P n ops q (i+1) l with
   |none=>grind
   |some Wd=>
    rw[hr]at hd
    simp only[Option.map_some,aoq]at hd
    subst hd
    obtain⟨Ic,nS,bf,hg⟩:=lE hs
    have W3:ops[i]? =some o:=by have:=hl 0;simpa using this.symm
    have Pz:∀k,l[k]? =ops[i+1+k]? :=fun k=>by have:=hl (k+1);grind
    rw[aop,List.range'_succ]
    simp only[LX,W3]
    unfold iO at h
    rcases hg with ⟨RF,Er⟩| ⟨j,want,g,RF,Er,hg3⟩
    ·rw[uQ RF,if_pos rfl]
     rw[Er]at h
     refine(gY.sound Ic hh.uP h).mono fun v H' hk=>?_
     rw[nS]at hk
     exact ih (i+1) Wd Pz hr _ _ _ (hh.put bf v) hk
    ·rw[hg3]at h
     rcases Fx h with ⟨b,hv,h⟩| ⟨vs,hv,h⟩
     ·have LY:=uR (o:=o) RF Er (hh.AO g _ hv)
      rw[LY]
      have sd:=hh.guard hv
      cases hb:b==want
      ·rw[hb]at h
       simp only[FW]at h
       rw[if_neg (by simp)]
       rw[nS]at h
       exact ih (i+1) Wd Pz hr _ _ _ (sd.put bf undef) h
      ·rw[hb]at h
       simp only[FW]at h
       rw[if_pos rfl]
       refine(gY.sound Ic sd.uP h).mono fun v H' hk=>?_
       rw[nS]at hk
       exact ih (i+1) Wd Pz hr _ _ _ (sd.put bf v) hk
     ·rw[r9 RF Er (hh.AO g _ hv),if_neg (by simp)]
      rw[nS]at h
      exact ih (i+1) Wd Pz hr _ _ _ (hh.put bf undef) h
def aaJ(P:Program)(s:gY)(env:Env)(H:Hp)(F:Env→Hp→Prop):Prop:=
 match s.guard with
 |none=>s.vc P (Env.ev env) H fun v H'=>F (Env.put env s.dst v) H'
 |some (g,want)=>gV (Env.find env g) (fun b=>
   FW (b==want) (s.vc P (Env.ev ((g,.bool b)::env)) H fun v H'=>F (Env.put ((g,.bool b)::env) s.dst v) H')
    (F (Env.put ((g,.bool b)::env) s.dst undef) H)) (F (Env.put env s.dst undef) H)
theorem Sd{q:List Nat}{cls:Nat→LN}{i:Nat}{o:Oper}{s:gY}{F:Env→Hp→Prop}{G:Act→Hp→Prop}{env:Env}{a:Act}{H:Hp}(W3:ops[i]? =some o)(hs:r7 P n ops q i o=some s)(hci:cls i=s.cls)
  (hh:Holds env a n)(h:aaJ P s env H F)(next:∀bv a' H',Holds bv a' n→F bv H'→G a' H'):ke P ops cls i G a H:=by
 obtain⟨Ic,nS,bf,hg⟩:=lE hs
 have step:∀ (env:Env),Holds env a n→s.vc P (Env.ev env) H (fun v H'=>F (Env.put env s.dst v) H')→
   (match cls i with
    | .pure=>∃v,(∀w,(execOp a.eval o).run P w= .ok (.value v) w)∧G (a.put o.dst v) H
    | .quiet=>∃v,ef P o a H (fun v' H'=>v'=v∧H'=H)∧G (a.put o.dst v) H
    | .HZ=>ef P o a H fun v H'=>G (a.put o.dst v) H'):=by
  intro env hh h
  have next':∀v H',F (Env.put env s.dst v) H'→G (a.put o.dst v) H':=by
   intro v H' hk
   rw[nS]at hk
   exact next _ _ _ (hh.put bf v) hk
  rw[hci]
  unfold gY.cls
  cases hc:s.op.cls with
  |pure=>
   have hp:s.op.vc P (Env.ev env) H (fun v H'=>F (Env.put env s.dst v) H'):=by
    unfold gY.vc at h
    cases hq:s.quiet
    ·grind
    ·grind [PA]
   obtain⟨v,e1,e2⟩:=(Go.Vc.sound s.op Ic hh.uP hp).1 hc
   grind
  |quiet=>
   unfold gY.vc at h
   cases hq:s.quiet
   ·rw[hq]at h
    obtain⟨v,h1,h2⟩:=Sb s.op hc h
    exact⟨v,(Go.Vc.sound s.op Ic hh.uP h1).2,next' _ _ h2⟩
   ·rw[hq]at h
    obtain⟨v,h1,h2⟩:=h
    exact⟨v,(Go.Vc.sound s.op Ic hh.uP h1).2,next' _ _ h2⟩
  |HZ=>
   unfold gY.vc at h
   cases hq:s.quiet
   ·rw[hq]at h;exact(Go.Vc.sound s.op Ic hh.uP h).2.mono next'
   ·rw[hq]at h
    obtain⟨v,h1,h2⟩:=h
    exact⟨v,(Go.Vc.sound s.op Ic hh.uP h1).2,next' _ _ h2⟩
 unfold ke
 simp only[W3]
 unfold aaJ at h
 rcases hg with ⟨RF,Er⟩| ⟨j,want,g,RF,Er,hg3⟩
 ·grind [uQ]
 ·rw[hg3]at h
  rcases Fx h with ⟨b,hv,h⟩| ⟨vs,hv,h⟩
  ·have LY:=uR (o:=o) RF Er (hh.AO g _ hv)
   rw[LY]
   have sd:=hh.guard hv
   cases hb:b==want
   ·rw[hb]at h
    simp only[FW]at h
    rw[if_neg (by simp)]
    rw[nS]at h
    exact next _ _ _ (sd.put bf undef) h
   ·rw[hb]at h
    simp only[FW]at h
    grind
  ·rw[r9 RF Er (hh.AO g _ hv),if_neg (by simp)]
   rw[nS]at h
   exact next _ _ _ (hh.put bf undef) h
theorem NP{K:Env→Hp→Prop}{q:List Nat}{cls:Nat→LN}:∀ (l:List Oper) (i:Nat) (ss:List gY),(∀k,l[k]? =ops[i+k]?)→iC P n ops q i l=some ss→
  (∀k s,ss[k]? =some s→cls (i+k)=s.cls)→
  ∀ (env:Env) (a:Act) (H:Hp),Holds env a n→iO P K ss env H→Se P ops cls (fun a' H'=>∃bv,Holds bv a' n∧K bv H') (List.range' i l.length) a H:=by
 intro l
 induction l with
 |nil=>
  intro i ss _ hd _ env a H hh h
  simp only[iC,aoq]at hd
  subst hd
  exact⟨env,hh,h⟩
 |cons o l ih=>
  intro i ss hl hd aaL env a H hh h
  unfold iC at hd
  split at hd
  ·cases hd
  ·rename_i s hs
   cases hr:iC P n ops q (i+1) l with
   |none=>grind
   |some Wd=>
    rw[hr]at hd
    simp only[Option.map_some,aoq]at hd
    subst hd
    have W3:ops[i]? =some o:=by have:=hl 0;simpa using this.symm
    have Pz:∀k,l[k]? =ops[i+1+k]? :=fun k=>by have:=hl (k+1);grind
    have hci:cls i=s.cls:=by have:=aaL 0 s rfl;simpa using this
    have ahF:∀k s',Wd[k]? =some s'→cls (i+1+k)=s'.cls:=fun k s' e=>by have:=aaL (k+1) s' (by grind);grind
    rw[aop,List.range'_succ]
    exact Sd (F:=iO P K Wd) W3 hs hci hh h (by grind)
theorem NQ{q:List Nat}:∀ (l:List Oper) (i:Nat) (ss:List gY),(∀k,l[k]? =ops[i+k]?)→iC P n ops q i l=some ss→∀k s,ss[k]? =some s→∃o,ops[i+k]? =some o∧r7 P n ops q (i+k) o=some s:=by
 intro l
 induction l with
 |nil=>grind [iC]
 |cons o l ih=>
  intro i ss hl hd k s hk
  unfold iC at hd
  split at hd
  ·cases hd
  ·rename_i s0 hs
   cases hr:iC P n ops q (i+1) l with
   |none=>grind
   |some Wd=>
    rw[hr]at hd
    simp only[Option.map_some,aoq]at hd
    subst hd
    have Pz:∀k,l[k]? =ops[i+1+k]? :=fun k=>by have:=hl (k+1);grind
    cases k with
    |zero=>
     simp only[ao7,aoq]at hk
     subst hk
     exact⟨o,by have:=hl 0;grind,hs⟩
    |succ k=>
     grind
inductive D2 where
 |done
 |bE(s:gY)(t:D2)
 |HS(s:gY)(t:D2)
 |aT(s:gY)(t r:D2)
 |stop
 deriving Inhabited
def gY.steady(s:gY):Bool:=s.quiet || (match s.op.cls with| .pure=>true|_=>false)
def LZ(l:List gY)(i:Nat):Bool:=match l[i]? with|some s=>s.steady|none=>false
def attach(ss:List gY):Ot→Option D2
 | .done=>some .done
 | .step i t=>match ss[i]?,attach ss t with
  |some s,some t=>bif s.quiet then some (.HS s t)else match s.op.cls with| .pure=>some (.bE s t)|_=>none
  |_,_=>none
 | .aT i t r=>match ss[i]?,attach ss t,attach ss r with
  |some s,some t,some r=>bif s.steady then none else some (.aT s t r)
  |_,_,_=>none
 | .stop=>some .stop
def Fy(A B:Prop)(_ta:Tag A:=⟨⟩)(_tb:Tag B:=⟨⟩):Prop:=A∧B
theorem Fy.intro{A B:Prop}(a:A)(b:B):Fy A B:=⟨a,b⟩
@[go_sem] theorem aaM(A:Prop):Fy A True=A:=by simp[Fy]
def dV(Inv:Hp→Prop)(G:Hp→(Value→Hp→Prop)→Prop)(K:Value→Prop)(_t:Tag G:=⟨⟩)(_u:Tag K:=⟨⟩):Prop:=∃v,(∀H',Inv H'→G H' fun v' FY=>v'=v∧FY=H')∧K v
theorem dV.intro{Inv:Hp→Prop}{G:Hp→(Value→Hp→Prop)→Prop}{K:Value→Prop}(v:Value)(h:∀H',Inv H'→G H' fun v' FY=>v'=v∧FY=H')(k:K v):dV Inv G K:=⟨v,h,k⟩
def fV(H:Hp)(F:(Hp→Prop)→Prop)(_t:Tag F:=⟨⟩):Prop:=∃Inv,Inv H∧F Inv
theorem fV.intro{H:Hp}{F:(Hp→Prop)→Prop}(Inv:Hp→Prop)(h:Inv H)(f:F Inv):fV H F:=⟨Inv,h,f⟩
def AP(s:gY)(env:Env)(F:Env→Prop)(N:Env→Prop):Prop:=
 match s.guard with
 |none=>F env
 |some (g,want)=>gV (Env.find env g) (fun b=>FW (b==want) (F ((g,.bool b)::env)) (N ((g,.bool b)::env))) (N env)
@[go_sem ↓] theorem W4(q:Bool)(d:Option Nat)(op:dD)(env:Env)(F N:Env→Prop):AP ⟨q,none,d,op⟩ env F N=F env:=(rfl)
@[go_sem ↓] theorem W5(q:Bool)(g:Nat)(want:Bool)(d:Option Nat)(op:dD)(env:Env)(F N:Env→Prop):
  AP ⟨q,some (g,want),d,op⟩ env F N=gV (Env.find env g) (fun b=>FW (b==want) (F ((g,.bool b)::env)) (N ((g,.bool b)::env))) (N env):=(rfl)
def CP(P:Program)(Inv:Hp→Prop)(K:Env→Hp→Prop):D2→Env→Hp→Prop
 | .done,env,H=>K env H
 | .bE s t,env,H=>AP s env (fun e=>s.op.vc P (Env.ev e) H fun v H'=>CP P Inv K t (Env.put e s.dst v) H') (fun e=>CP P Inv K t (Env.put e s.dst undef) H)
 | .HS s t,env,H=>AP s env (fun e=>dV Inv (fun H' k=>s.op.vc P (Env.ev e) H' k) fun v=>CP P Inv K t (Env.put e s.dst v) H) (fun e=>CP P Inv K t (Env.put e s.dst undef) H)
 | .aT s t r,env,H=>Fy (AP s env (fun e=>s.op.vc P (Env.ev e) H fun v H'=>eo (Inv H') (CP P Inv K t (Env.put e s.dst v) H')) (fun e=>CP P Inv K t (Env.put e s.dst undef) H)) (CP P Inv K r env H)
 | .stop,_,_=>True
section
variable (Inv : Hp → Prop) (K : Env → Hp → Prop) (s : gY) (t r : D2) (env : Env) (H : Hp)
@[go_sem ↓] theorem aaN:CP P Inv K .done env H=K env H:=(rfl)
@[go_sem ↓] theorem aaO:CP P Inv K .stop env H=True:=(rfl)
@[go_sem ↓] theorem adj(q:Bool)(g:Option (Nat×Bool))(d:Option Nat)(op:dD):CP P Inv K (.bE ⟨q,g,d,op⟩ t) env H=
  AP ⟨q,g,d,op⟩ env (fun e=>op.vc P (Env.ev e) H fun v H'=>CP P Inv K t (Env.put e d v) H') (fun e=>CP P Inv K t (Env.put e d undef) H):=(rfl)
@[go_sem ↓] theorem adk(q:Bool)(g:Option (Nat×Bool))(d:Option Nat)(op:dD):CP P Inv K (.HS ⟨q,g,d,op⟩ t) env H=
  AP ⟨q,g,d,op⟩ env (fun e=>dV Inv (fun H' k=>op.vc P (Env.ev e) H' k) fun v=>CP P Inv K t (Env.put e d v) H) (fun e=>CP P Inv K t (Env.put e d undef) H):=(rfl)
@[go_sem ↓] theorem aaP(q:Bool)(g:Option (Nat×Bool))(d:Option Nat)(op:dD)(s':gY)(t' r':D2):CP P Inv K (.aT ⟨q,g,d,op⟩ t (.aT s' t' r')) env H=
  Fy (AP ⟨q,g,d,op⟩ env (fun e=>op.vc P (Env.ev e) H fun v H'=>eo (Inv H') (CP P Inv K t (Env.put e d v) H')) (fun e=>CP P Inv K t (Env.put e d undef) H)) (CP P Inv K (.aT s' t' r') env H):=(rfl)
@[go_sem ↓] theorem Zo(q:Bool)(g:Option (Nat×Bool))(d:Option Nat)(op:dD):CP P Inv K (.aT ⟨q,g,d,op⟩ t .stop) env H=
  AP ⟨q,g,d,op⟩ env (fun e=>op.vc P (Env.ev e) H fun v H'=>eo (Inv H') (CP P Inv K t (Env.put e d v) H')) (fun e=>CP P Inv K t (Env.put e d undef) H):=by
 show Fy _ True=_
 simp[Fy]
end
theorem FZ{q:List Nat}{Inv:Hp→Prop}{st:Nat→Bool}{i:Nat}{o:Oper}{s:gY}{F N:Env→Prop}{G:Act→Hp→Prop}{env:Env}{a:Act}{H:Hp}(W3:ops[i]? =some o)(hs:r7 P n ops q i o=some s)
  (hh:Holds env a n)(h:AP s env F N)(hN:∀e,Holds e a n→N e→G (a.put o.dst undef) H)
  (hF:∀e,Holds e a n→F e→match st i with
   |true=>∃v,(∀H',Inv H'→ef P o a H' fun v' FY=>v'=v∧FY=H')∧G (a.put o.dst v) H
   |false=>ef P o a H fun v H'=>Inv H'∧G (a.put o.dst v) H'):iP P ops Inv st i G a H:=by
 obtain⟨Ic,nS,bf,hg⟩:=lE hs
 unfold iP
 simp only[W3]
 unfold AP at h
 rcases hg with ⟨RF,Er⟩| ⟨j,want,g,RF,Er,hg3⟩
 ·grind [uQ]
 ·rw[hg3]at h
  rcases Fx h with ⟨b,hv,h⟩| ⟨vs,hv,h⟩
  ·have LY:=uR (o:=o) RF Er (hh.AO g _ hv)
   rw[LY]
   have sd:=hh.guard hv
   cases hb:b==want
   ·rw[hb]at h
    rw[if_neg (by simp)]
    exact hN _ sd h
   ·rw[hb]at h
    rw[if_pos rfl]
    exact hF _ sd h
  ·rw[r9 RF Er (hh.AO g _ hv),if_neg (by simp)]
   grind
theorem L0{K:Env→Hp→Prop}{q:List Nat}{Inv:Hp→Prop}{ss:List gY}(dL:∀k s,ss[k]? =some s→∃o,ops[k]? =some o∧r7 P n ops q k o=some s):
  ∀ (t:Ot) (ts:D2),attach ss t=some ts→∀ (env:Env) (a:Act) (H:Hp),Holds env a n→CP P Inv K ts env H→Qx P ops Inv (LZ ss) (fun a' H'=>∃bv,Holds bv a' n∧K bv H') t a H:=by
 intro t
 induction t with
 |done=>intro ts ht env a H hh h;simp only[attach,aoq]at ht;subst ht;exact⟨env,hh,h⟩
 |stop=>intro ts ht env a H hh h;trivial
 |step i t ih=>
  intro ts ht env a H hh h
  unfold attach at ht
  split at ht
  ·rename_i s t' hs Sf
   obtain⟨o,ho,hd⟩:=dL i s hs
   obtain⟨Ic,nS,bf,_⟩:=lE hd
   cases hq:s.quiet
   ·rw[hq]at ht
    simp only[cond_false]at ht
    split at ht
    ·rename_i hc
     injection ht with ht
     subst ht
     have yQ:LZ ss i=true:=by simp[LZ,hs,gY.steady,hc]
     refine FZ ho hd hh h (fun e he hN=>?_) (fun e he hF=>?_)
     ·rw[←nS];exact ih t' Sf _ _ _ (by rw[nS];exact he.put bf undef) hN
     ·rw[yQ]
      obtain⟨v,e1,e2⟩:=(Go.Vc.sound s.op Ic he.uP hF).1 hc
      refine⟨v,fun H' _=>AQ e1 H',?_⟩
      rw[←nS];exact ih t' Sf _ _ _ (by rw[nS];exact he.put bf v) e2
    grind
   ·rw[hq]at ht
    simp only[cond_true,aoq]at ht
    subst ht
    have yQ:LZ ss i=true:=by simp[LZ,hs,gY.steady,hq]
    refine FZ ho hd hh h (fun e he hN=>?_) (fun e he hF=>?_)
    ·rw[←nS];exact ih t' Sf _ _ _ (by rw[nS];exact he.put bf undef) hN
    ·rw[yQ]
     obtain⟨v,e1,e2⟩:=hF
     refine⟨v,fun H' hI=>(Go.Vc.sound s.op Ic he.uP (e1 H' hI)).2,?_⟩
     rw[←nS];exact ih t' Sf _ _ _ (by rw[nS];exact he.put bf v) e2
  grind
 |aT i t r iht ihr=>
  intro ts ht env a H hh h
  unfold attach at ht
  split at ht
  ·rename_i s t' r' hs Sf hr'
   obtain⟨o,ho,hd⟩:=dL i s hs
   obtain⟨Ic,nS,bf,_⟩:=lE hd
   cases hq:s.steady
   ·rw[hq]at ht
    simp only[cond_false,aoq]at ht
    subst ht
    have yQ:LZ ss i=false:=by simp[LZ,hs,hq]
    refine⟨FZ ho hd hh h.1 (fun e he hN=>?_) (fun e he hF=>?_),ihr r' hr' env a H hh h.2⟩
    ·rw[←nS];exact iht t' Sf _ _ _ (by rw[nS];exact he.put bf undef) hN
    ·rw[yQ]
     refine(Go.Vc.sound s.op Ic he.uP hF).2.mono fun v H' ⟨k1,k2⟩=>⟨k1,?_⟩
     rw[←nS];exact iht t' Sf _ _ _ (by rw[nS];exact he.put bf v) k2
   grind
  grind
end
end Go.Vc
