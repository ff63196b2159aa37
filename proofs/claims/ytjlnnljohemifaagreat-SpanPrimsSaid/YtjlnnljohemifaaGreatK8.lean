/- Texts put behind each other. -/
import Derived.Test.YtjlnnljohemifaaGreatK98
import Derived.Test.YtjlnnljohemifaaGreatK7
set_option maxRecDepth 100000
set_option maxHeartbeats 8000000
set_option linter.unusedVariables false
set_option linter.unusedSimpArgs false
namespace Go.Vc
abbrev Env:=List (Nat×Value)
def Env.find:Env→Nat→Option Value
 | [],_=>none
 | (k,v)::r,n=>bif k==n then some v else Env.find r n
@[go_sem] theorem Env.abH(n:Nat):Env.find [] n=none:=(rfl)
@[go_sem] theorem Env.YW(k n:Nat)(v:Value)(r:Env):Env.find ((k,v)::r) n=bif k==n then some v else Env.find r n:=(rfl)
def Env.ev(env:Env):Ev
 | .tmp t=>Env.find env t
 | .const v=>some v
 | .global g=>some (.pointer (some ⟨g,0,none⟩))
 | .func f=>some (.func (.func f) #[] #[])
@[go_sem] theorem Env.ags(env:Env)(t:Nat):Env.ev env (.tmp t)=Env.find env t:=(rfl)
@[go_sem] theorem Env.abI(env:Env)(v:Value):Env.ev env (.const v)=some v:=(rfl)
@[go_sem] theorem Env.YX(env:Env)(g:Nat):Env.ev env (.global g)=some (.pointer (some ⟨g,0,none⟩)):=(rfl)
@[go_sem] theorem Env.adI(env:Env)(f:Nat):Env.ev env (.func f)=some (.func (.func f) #[] #[]):=(rfl)
def Env.put(env:Env)(dst:Option Nat)(v:Value):Env:=match dst with|some d=>(d,v)::env|none=>env
@[go_sem] theorem Env.abJ(env:Env)(d:Nat)(v:Value):Env.put env (some d) v=(d,v)::env:=(rfl)
@[go_sem] theorem Env.abK(env:Env)(v:Value):Env.put env none v=env:=(rfl)
def Env.aI(env:Env):List Nat→Env
 | []=>[]
 |k::ks=>match Env.find env k with|some v=>(k,v)::Env.aI env ks|none=>Env.aI env ks
def KT(k:Nat)(o:Option Value)(r:Env):Env:=match o with|some v=>(k,v)::r|none=>r
@[go_sem] theorem Xh(k:Nat)(v:Value)(r:Env):KT k (some v) r=(k,v)::r:=(rfl)
@[go_sem] theorem Xi(k:Nat)(r:Env):KT k none r=r:=(rfl)
@[go_sem] theorem Env.abL(env:Env):Env.aI env []=[]:=(rfl)
@[go_sem] theorem Env.Pp(env:Env)(k:Nat)(ks:List Nat):Env.aI env (k::ks)=KT k (Env.find env k) (Env.aI env ks):=by
 unfold KT;rw[Env.aI]
structure Holds(env:Env)(a:Act)(n:Nat):Prop where
 size:a.tmps.size=n
 defers:a.defers=[]
 Ay:∀k v,Env.find env k=some v→a.tmps[k]? =some v
theorem Holds.tQ{env:Env}{a:Act}{n:Nat}(h:Holds env a n):bM (Env.ev env) a:=by
 intro x v hx
 cases x with
 |tmp t=>simp only[Env.ev]at hx;simp[Act.eval,h.Ay t v hx]
 |const u=>injection hx with hx
 |global g=>injection hx with hx
 |func f=>injection hx with hx
theorem Holds.put{env:Env}{a:Act}{n:Nat}(h:Holds env a n){dst:Option Nat}(hd:∀d,dst=some d→d<n)(v:Value):Holds (Env.put env dst v) (a.put dst v) n:=by
 cases dst with
 |none=>exact h
 |some d=>
  have aK:=hd d rfl
  refine⟨by simp[Act.put,h.size],by simp[Act.put,h.defers],fun k u hk=>?_⟩
  simp only[Env.put,Env.find]at hk
  by_cases e:d=k
  ·subst e
   simp at hk
   subst hk
   simp[Act.put,h.size,aK]
  ·have:(d==k)=false:=by simpa using e
   rw[this]at hk
   simp only[cond_false]at hk
   simpa[Act.put,Array.getElem?_setIfInBounds_ne e]using h.Ay k u hk
theorem Holds.guard{env:Env}{a:Act}{n:Nat}(h:Holds env a n){g:Nat}{v:Value}(hg:Env.find env g=some v):Holds ((g,v)::env) a n:=by
 refine⟨h.size,h.defers,fun k u hk=>?_⟩
 simp only[Env.find]at hk
 by_cases e:g=k
 ·subst e
  simp at hk
  subst hk
  exact h.Ay g v hg
 ·have:(g==k)=false:=by simpa using e
  rw[this]at hk
  exact h.Ay k u hk
theorem Pq(env:Env):∀ (ks:List Nat) (k:Nat) (v:Value),Env.find (Env.aI env ks) k=some v→Env.find env k=some v:=by
 intro ks
 induction ks with
 |nil=>intro k v h;cases h
 |cons x xs ih=>
  intro k v h
  rw[Env.Pp]at h
  cases hx:Env.find env x with
  |none=>rw[hx]at h;exact ih k v h
  |some u=>
   rw[hx]at h
   simp only[KT,Env.find]at h
   by_cases e:x=k
   ·subst e
    simp at h
    subst h
    exact hx
   ·have:(x==k)=false:=by simpa using e
    rw[this]at h
    exact ih k v h
theorem Holds.aI{env:Env}{a:Act}{n:Nat}(h:Holds env a n)(ks:List Nat):Holds (Env.aI env ks) a n:=
 ⟨h.size,h.defers,fun k v hk=>h.Ay k v (Pq env ks k v hk)⟩
structure jn where
 quiet:Bool
 guard:Option (Nat×Bool)
 dst:Option Nat
 op:c7
 deriving Inhabited
def jn.vc(P:Program)(s:jn)(ev:Ev)(H:Hp)(K:Value→Hp→Prop):Prop:=
 bif s.quiet then∃v,s.op.vc P ev H (fun v' H'=>v'=v∧H'=H)∧K v H else s.op.vc P ev H K
@[go_sem ↓] theorem jn.abM(P:Program)(g:Option (Nat×Bool))(d:Option Nat)(op:c7)(ev:Ev)(H:Hp)(K:Value→Hp→Prop):jn.vc P ⟨false,g,d,op⟩ ev H K=op.vc P ev H K:=(rfl)
@[go_sem ↓] theorem jn.abN(P:Program)(g:Option (Nat×Bool))(d:Option Nat)(op:c7)(ev:Ev)(H:Hp)(K:Value→Hp→Prop):
  jn.vc P ⟨true,g,d,op⟩ ev H K=∃v,op.vc P ev H (fun v' H'=>v'=v∧H'=H)∧K v H:=(rfl)
def Fs(o:Option Value)(F:Bool→Prop)(_t:Tag F:=⟨⟩):Prop:=match o with|some v=>Ao v F|none=>False
@[go_sem] theorem UN(v:Value)(F:Bool→Prop):Fs (some v) F=Ao v F:=(rfl)
def gV(o:Option Value)(F:Bool→Prop)(N:Prop)(_t:Tag F:=⟨⟩)(_u:Tag N:=⟨⟩):Prop:=
 match o with|some v=>(match v with| .bool b=>ak b F| .tuple _=>N|_=>False)|none=>False
@[go_sem] theorem adJ(b:Bool)(F:Bool→Prop)(N:Prop):gV (some (.bool b)) F N=ak b F:=(rfl)
@[go_sem] theorem abO(F:Bool→Prop)(N:Prop):gV (some undef) F N=N:=(rfl)
theorem DC{o:Option Value}{F:Bool→Prop}{N:Prop}(h:gV o F N):(∃b,o=some (.bool b)∧F b)∨(∃vs,o=some (.tuple vs)∧N):=by
 unfold gV at h
 split at h
 ·rename_i v
  split at h
  ·rename_i b
   obtain⟨b',e,h2⟩:=yw (v:=.bool b) (F:=F) h
   injection e with e
   subst e
   exact .inl ⟨b,rfl,h2⟩
  ·rename_i vs
   exact .inr ⟨vs,rfl,h⟩
  ·exact h.elim
 ·exact h.elim
def iy(P:Program)(K:Env→Hp→Prop):List jn→Env→Hp→Prop
 | [],env,H=>K env H
 |s::r,env,H=>
  match s.guard with
  |none=>s.vc P (Env.ev env) H fun v H'=>iy P K r (Env.put env s.dst v) H'
  |some (g,want)=>gV (Env.find env g) (fun b=>
   E8 (b==want) (s.vc P (Env.ev ((g,.bool b)::env)) H fun v H'=>iy P K r (Env.put ((g,.bool b)::env) s.dst v) H')
    (iy P K r (Env.put ((g,.bool b)::env) s.dst undef) H)) (iy P K r (Env.put env s.dst undef) H)
@[go_sem ↓] theorem YY(P:Program)(K:Env→Hp→Prop)(env:Env)(H:Hp):iy P K [] env H=K env H:=(rfl)
@[go_sem ↓] theorem Xj(P:Program)(K:Env→Hp→Prop)(q:Bool)(d:Option Nat)(op:c7)(r:List jn)(env:Env)(H:Hp):
  iy P K (⟨q,none,d,op⟩::r) env H=jn.vc P ⟨q,none,d,op⟩ (Env.ev env) H fun v H'=>iy P K r (Env.put env d v) H':=(rfl)
@[go_sem ↓] theorem UO(P:Program)(K:Env→Hp→Prop)(q:Bool)(g:Nat)(want:Bool)(d:Option Nat)(op:c7)(r:List jn)(env:Env)(H:Hp):
  iy P K (⟨q,some (g,want),d,op⟩::r) env H=gV (Env.find env g) (fun b=>
   E8 (b==want) (jn.vc P ⟨q,none,d,op⟩ (Env.ev ((g,.bool b)::env)) H fun v H'=>iy P K r (Env.put ((g,.bool b)::env) d v) H')
    (iy P K r (Env.put ((g,.bool b)::env) d undef) H)) (iy P K r (Env.put env d undef) H):=(rfl)
def qG(P:Program)(n:Nat)(ops:Array Oper)(q:List Nat)(i:Nat)(o:Oper):Option jn:=
 match o.dst with
 |some d=>if d<n then go (some d)else none
 |none=>go none
 where
 go (dst:Option Nat):Option jn:=
  match Hy P o with
  |none=>none
  |some op=>
   match o.guard with
   |none=>some ⟨q.contains i,none,dst,op⟩
   |some (j,want)=>match(ops[j]?).bind (·.dst)with
    |some g=>some ⟨q.contains i,some (g,want),dst,op⟩
    |none=>none
def gX(P:Program)(n:Nat)(ops:Array Oper)(q:List Nat):Nat→List Oper→Option (List jn)
 |_,[]=>some []
 |i,o::r=>
  match qG P n ops q i o with
  |none=>none
  |some s=>(gX P n ops q (i+1) r).map (s:: ·)
def jn.cls(s:jn):JQ:=match s.op.cls with| .Gj=>bif s.quiet then .quiet else .Gj|c=>c
def RL(l:List jn)(i:Nat):JQ:=match l[i]? with|some s=>s.cls|none=>.Gj
section
variable {P : Program} {ops : Array Oper} {n : Nat}
theorem kK{q:List Nat}{i:Nat}{o:Oper}{s:jn}(h:qG P n ops q i o=some s):
  Hy P o=some s.op∧s.dst=o.dst∧(∀d,o.dst=some d→d<n)∧
   ((o.guard=none∧s.guard=none)∨∃j want g,o.guard=some (j,want)∧(ops[j]?).bind (·.dst)=some g∧s.guard=some (g,want)):=by
 have key:∀dst,qG.go P ops q i o dst=some s→Hy P o=some s.op∧s.dst=dst∧
   ((o.guard=none∧s.guard=none)∨∃j want g,o.guard=some (j,want)∧(ops[j]?).bind (·.dst)=some g∧s.guard=some (g,want)):=by
  intro dst h
  unfold qG.go at h
  split at h
  ·cases h
  ·rename_i op yF
   split at h
   ·rename_i hg;injection h with h;subst h;exact⟨yF,rfl,.inl ⟨hg,rfl⟩⟩
   ·rename_i j want hg
    split at h
    ·rename_i g yE;injection h with h;subst h;exact⟨yF,rfl,.inr ⟨j,want,g,hg,yE,rfl⟩⟩
    ·cases h
 unfold qG at h
 split at h
 ·rename_i d hd
  split at h
  ·rename_i aK
   obtain⟨h1,h2,h3⟩:=key _ h
   exact⟨h1,h2.trans hd.symm,(fun d' e=>by rw[hd]at e;injection e with e;subst e;exact aK),h3⟩
  ·cases h
 ·rename_i hd
  obtain⟨h1,h2,h3⟩:=key _ h
  exact⟨h1,h2.trans hd.symm,(fun d' e=>by rw[hd]at e;cases e),h3⟩
theorem tR{o:Oper}{y:Nat→Option Bool}(h:o.guard=none):Region.wanted o y=true:=by simp[Region.wanted,h]
theorem tS{o:Oper}{a:Act}{j g:Nat}{want b:Bool}(h:o.guard=some (j,want))(hg:(ops[j]?).bind (·.dst)=some g)(hv:a.tmps[g]? =some (.bool b)):
  Region.wanted o (yielded ops a.tmps)=(b==want):=by
 have:yielded ops a.tmps j=some b:=by simp[yielded,hg,hv]
 simp[Region.wanted,h,this]
theorem qH{o:Oper}{a:Act}{j g:Nat}{want:Bool}{vs:Array Value}(h:o.guard=some (j,want))(hg:(ops[j]?).bind (·.dst)=some g)(hv:a.tmps[g]? =some (.tuple vs)):
  Region.wanted o (yielded ops a.tmps)=false:=by
 have:yielded ops a.tmps j=none:=by simp[yielded,hg,hv]
 simp[Region.wanted,h,this]
theorem jn.sound{s:jn}{o:Oper}{a:Act}{ev:Ev}{H:Hp}{K:Value→Hp→Prop}(hd:Hy P o=some s.op)(bC:bM ev a)(h:s.vc P ev H K):dJ P o a H K:=by
 unfold jn.vc at h
 cases hq:s.quiet
 ·rw[hq]at h;exact(Go.Vc.sound s.op hd bC h).2
 ·rw[hq]at h
  obtain⟨v,h1,h2⟩:=h
  exact(Go.Vc.sound s.op hd bC h1).2.mono fun v' H' ⟨e1,e2⟩=>by rw[e1,e2];exact h2
theorem MX{K:Env→Hp→Prop}{q:List Nat}:∀ (l:List Oper) (i:Nat) (ss:List jn),(∀k,l[k]? =ops[i+k]?)→gX P n ops q i l=some ss→
  ∀ (env:Env) (a:Act) (H:Hp),Holds env a n→iy P K ss env H→JP P ops (fun a' H'=>∃aR,Holds aR a' n∧K aR H') (List.range' i l.length) a H:=by
 intro l
 induction l with
 |nil=>
  intro i ss _ hd env a H hh h
  simp only[gX,anl]at hd
  subst hd
  exact⟨env,hh,h⟩
 |cons o l ih=>
  intro i ss hl hd env a H hh h
  unfold gX at hd
  split at hd
  ·cases hd
  ·rename_i s hs
   cases hr:gX P n ops q (i+1) l with
   |none=>rw[hr]at hd;cases hd
   |some Sc=>
    rw[hr]at hd
    simp only[Option.map_some,anl]at hd
    subst hd
    obtain⟨yF,mH,aK,hg⟩:=kK hs
    have Xk:ops[i]? =some o:=by have:=hl 0;simpa using this.symm
    have Dy:∀k,l[k]? =ops[i+1+k]? :=fun k=>by have:=hl (k+1);rw[aod]at this;rw[this];congr 1;omega
    rw[anw,List.range'_succ]
    simp only[JP,Xk]
    unfold iy at h
    rcases hg with ⟨NN,BO⟩| ⟨j,want,g,NN,BO,hg3⟩
    ·rw[tR NN,if_pos rfl]
     rw[BO]at h
     refine(jn.sound yF hh.tQ h).mono fun v H' hk=>?_
     rw[mH]at hk
     exact ih (i+1) Sc Dy hr _ _ _ (hh.put aK v) hk
    ·rw[hg3]at h
     rcases DC h with ⟨b,hv,h⟩| ⟨vs,hv,h⟩
     ·have KU:=tS (o:=o) NN BO (hh.Ay g _ hv)
      rw[KU]
      have mS:=hh.guard hv
      cases hb:b==want
      ·rw[hb]at h
       simp only[E8]at h
       rw[if_neg (by simp)]
       rw[mH]at h
       exact ih (i+1) Sc Dy hr _ _ _ (mS.put aK undef) h
      ·rw[hb]at h
       simp only[E8]at h
       rw[if_pos rfl]
       refine(jn.sound yF mS.tQ h).mono fun v H' hk=>?_
       rw[mH]at hk
       exact ih (i+1) Sc Dy hr _ _ _ (mS.put aK v) hk
     ·rw[qH NN BO (hh.Ay g _ hv),if_neg (by simp)]
      rw[mH]at h
      exact ih (i+1) Sc Dy hr _ _ _ (hh.put aK undef) h
def abQ(P:Program)(s:jn)(env:Env)(H:Hp)(F:Env→Hp→Prop):Prop:=
 match s.guard with
 |none=>s.vc P (Env.ev env) H fun v H'=>F (Env.put env s.dst v) H'
 |some (g,want)=>gV (Env.find env g) (fun b=>
   E8 (b==want) (s.vc P (Env.ev ((g,.bool b)::env)) H fun v H'=>F (Env.put ((g,.bool b)::env) s.dst v) H')
    (F (Env.put ((g,.bool b)::env) s.dst undef) H)) (F (Env.put env s.dst undef) H)
theorem RM{q:List Nat}{cls:Nat→JQ}{i:Nat}{o:Oper}{s:jn}{F:Env→Hp→Prop}{G:Act→Hp→Prop}{env:Env}{a:Act}{H:Hp}(Xk:ops[i]? =some o)(hs:qG P n ops q i o=some s)(Vk:cls i=s.cls)
  (hh:Holds env a n)(h:abQ P s env H F)(next:∀aR a' H',Holds aR a' n→F aR H'→G a' H'):js P ops cls i G a H:=by
 obtain⟨yF,mH,aK,hg⟩:=kK hs
 have step:∀ (env:Env),Holds env a n→s.vc P (Env.ev env) H (fun v H'=>F (Env.put env s.dst v) H')→
   (match cls i with
    | .pure=>∃v,(∀w,(execOp a.eval o).run P w= .ok (.value v) w)∧G (a.put o.dst v) H
    | .quiet=>∃v,dJ P o a H (fun v' H'=>v'=v∧H'=H)∧G (a.put o.dst v) H
    | .Gj=>dJ P o a H fun v H'=>G (a.put o.dst v) H'):=by
  intro env hh h
  have next':∀v H',F (Env.put env s.dst v) H'→G (a.put o.dst v) H':=by
   intro v H' hk
   rw[mH]at hk
   exact next _ _ _ (hh.put aK v) hk
  rw[Vk]
  unfold jn.cls
  cases hc:s.op.cls with
  |pure=>
   have hp:s.op.vc P (Env.ev env) H (fun v H'=>F (Env.put env s.dst v) H'):=by
    unfold jn.vc at h
    cases hq:s.quiet
    ·rw[hq]at h;exact h
    ·rw[hq]at h
     obtain⟨v,h1,h2⟩:=h
     exact(NM s.op hc h1 fun v' H' ⟨e1,e2⟩=>by rw[e1,e2];exact h2)
   obtain⟨v,e1,e2⟩:=(Go.Vc.sound s.op yF hh.tQ hp).1 hc
   exact⟨v,e1,next' _ _ e2⟩
  |quiet=>
   unfold jn.vc at h
   cases hq:s.quiet
   ·rw[hq]at h
    obtain⟨v,h1,h2⟩:=RJ s.op hc h
    exact⟨v,(Go.Vc.sound s.op yF hh.tQ h1).2,next' _ _ h2⟩
   ·rw[hq]at h
    obtain⟨v,h1,h2⟩:=h
    exact⟨v,(Go.Vc.sound s.op yF hh.tQ h1).2,next' _ _ h2⟩
  |Gj=>
   unfold jn.vc at h
   cases hq:s.quiet
   ·rw[hq]at h;exact(Go.Vc.sound s.op yF hh.tQ h).2.mono next'
   ·rw[hq]at h
    obtain⟨v,h1,h2⟩:=h
    exact⟨v,(Go.Vc.sound s.op yF hh.tQ h1).2,next' _ _ h2⟩
 unfold js
 simp only[Xk]
 unfold abQ at h
 rcases hg with ⟨NN,BO⟩| ⟨j,want,g,NN,BO,hg3⟩
 ·rw[tR NN,if_pos rfl]
  rw[BO]at h
  exact step env hh h
 ·rw[hg3]at h
  rcases DC h with ⟨b,hv,h⟩| ⟨vs,hv,h⟩
  ·have KU:=tS (o:=o) NN BO (hh.Ay g _ hv)
   rw[KU]
   have mS:=hh.guard hv
   cases hb:b==want
   ·rw[hb]at h
    simp only[E8]at h
    rw[if_neg (by simp)]
    rw[mH]at h
    exact next _ _ _ (mS.put aK undef) h
   ·rw[hb]at h
    simp only[E8]at h
    rw[if_pos rfl]
    exact step _ mS h
  ·rw[qH NN BO (hh.Ay g _ hv),if_neg (by simp)]
   rw[mH]at h
   exact next _ _ _ (hh.put aK undef) h
theorem MY{K:Env→Hp→Prop}{q:List Nat}{cls:Nat→JQ}:∀ (l:List Oper) (i:Nat) (ss:List jn),(∀k,l[k]? =ops[i+k]?)→gX P n ops q i l=some ss→
  (∀k s,ss[k]? =some s→cls (i+k)=s.cls)→
  ∀ (env:Env) (a:Act) (H:Hp),Holds env a n→iy P K ss env H→Qe P ops cls (fun a' H'=>∃aR,Holds aR a' n∧K aR H') (List.range' i l.length) a H:=by
 intro l
 induction l with
 |nil=>
  intro i ss _ hd _ env a H hh h
  simp only[gX,anl]at hd
  subst hd
  exact⟨env,hh,h⟩
 |cons o l ih=>
  intro i ss hl hd abR env a H hh h
  unfold gX at hd
  split at hd
  ·cases hd
  ·rename_i s hs
   cases hr:gX P n ops q (i+1) l with
   |none=>rw[hr]at hd;cases hd
   |some Sc=>
    rw[hr]at hd
    simp only[Option.map_some,anl]at hd
    subst hd
    have Xk:ops[i]? =some o:=by have:=hl 0;simpa using this.symm
    have Dy:∀k,l[k]? =ops[i+1+k]? :=fun k=>by have:=hl (k+1);rw[aod]at this;rw[this];congr 1;omega
    have Vk:cls i=s.cls:=by have:=abR 0 s rfl;simpa using this
    have abS:∀k s',Sc[k]? =some s'→cls (i+1+k)=s'.cls:=fun k s' e=>by have:=abR (k+1) s' (by simpa using e);rw[←this];congr 1;omega
    rw[anw,List.range'_succ]
    exact RM (F:=iy P K Sc) Xk hs Vk hh h fun aR a' H' mS hk=>ih (i+1) Sc Dy hr abS aR a' H' mS hk
theorem MZ{q:List Nat}:∀ (l:List Oper) (i:Nat) (ss:List jn),(∀k,l[k]? =ops[i+k]?)→gX P n ops q i l=some ss→∀k s,ss[k]? =some s→∃o,ops[i+k]? =some o∧qG P n ops q (i+k) o=some s:=by
 intro l
 induction l with
 |nil=>intro i ss _ hd k s hk;simp only[gX,anl]at hd;subst hd;simp at hk
 |cons o l ih=>
  intro i ss hl hd k s hk
  unfold gX at hd
  split at hd
  ·cases hd
  ·rename_i s0 hs
   cases hr:gX P n ops q (i+1) l with
   |none=>rw[hr]at hd;cases hd
   |some Sc=>
    rw[hr]at hd
    simp only[Option.map_some,anl]at hd
    subst hd
    have Dy:∀k,l[k]? =ops[i+1+k]? :=fun k=>by have:=hl (k+1);rw[aod]at this;rw[this];congr 1;omega
    cases k with
    |zero=>
     simp only[anG,anl]at hk
     subst hk
     exact⟨o,by have:=hl 0;simpa using this.symm,hs⟩
    |succ k=>
     have:=ih (i+1) Sc Dy hr k s (by simpa using hk)
     rw[show i+1+k=i+(k+1) by omega]at this
     exact this
inductive RN where
 |done
 |pur(s:jn)(t:RN)
 |stb(s:jn)(t:RN)
 |zG(s:jn)(t r:RN)
 |stop
 deriving Inhabited
def jn.steady(s:jn):Bool:=s.quiet || (match s.op.cls with| .pure=>true|_=>false)
def KV(l:List jn)(i:Nat):Bool:=match l[i]? with|some s=>s.steady|none=>false
def attach(ss:List jn):Ot→Option RN
 | .done=>some .done
 | .step i t=>match ss[i]?,attach ss t with
  |some s,some t=>bif s.quiet then some (.stb s t)else match s.op.cls with| .pure=>some (.pur s t)|_=>none
  |_,_=>none
 | .zG i t r=>match ss[i]?,attach ss t,attach ss r with
  |some s,some t,some r=>bif s.steady then none else some (.zG s t r)
  |_,_,_=>none
 | .stop=>some .stop
def Du(A B:Prop)(_ta:Tag A:=⟨⟩)(_tb:Tag B:=⟨⟩):Prop:=A∧B
theorem Du.intro{A B:Prop}(a:A)(b:B):Du A B:=⟨a,b⟩
@[go_sem] theorem abT(A:Prop):Du A True=A:=by simp[Du]
def fk(Inv:Hp→Prop)(G:Hp→(Value→Hp→Prop)→Prop)(K:Value→Prop)(_t:Tag G:=⟨⟩)(_u:Tag K:=⟨⟩):Prop:=∃v,(∀H',Inv H'→G H' fun v' Fx=>v'=v∧Fx=H')∧K v
theorem fk.intro{Inv:Hp→Prop}{G:Hp→(Value→Hp→Prop)→Prop}{K:Value→Prop}(v:Value)(h:∀H',Inv H'→G H' fun v' Fx=>v'=v∧Fx=H')(k:K v):fk Inv G K:=⟨v,h,k⟩
def jk(H:Hp)(F:(Hp→Prop)→Prop)(_t:Tag F:=⟨⟩):Prop:=∃Inv,Inv H∧F Inv
theorem jk.intro{H:Hp}{F:(Hp→Prop)→Prop}(Inv:Hp→Prop)(h:Inv H)(f:F Inv):jk H F:=⟨Inv,h,f⟩
def Az(s:jn)(env:Env)(F:Env→Prop)(N:Env→Prop):Prop:=
 match s.guard with
 |none=>F env
 |some (g,want)=>gV (Env.find env g) (fun b=>E8 (b==want) (F ((g,.bool b)::env)) (N ((g,.bool b)::env))) (N env)
@[go_sem ↓] theorem Xl(q:Bool)(d:Option Nat)(op:c7)(env:Env)(F N:Env→Prop):Az ⟨q,none,d,op⟩ env F N=F env:=(rfl)
@[go_sem ↓] theorem Xm(q:Bool)(g:Nat)(want:Bool)(d:Option Nat)(op:c7)(env:Env)(F N:Env→Prop):
  Az ⟨q,some (g,want),d,op⟩ env F N=gV (Env.find env g) (fun b=>E8 (b==want) (F ((g,.bool b)::env)) (N ((g,.bool b)::env))) (N env):=(rfl)
def B9(P:Program)(Inv:Hp→Prop)(K:Env→Hp→Prop):RN→Env→Hp→Prop
 | .done,env,H=>K env H
 | .pur s t,env,H=>Az s env (fun e=>s.op.vc P (Env.ev e) H fun v H'=>B9 P Inv K t (Env.put e s.dst v) H') (fun e=>B9 P Inv K t (Env.put e s.dst undef) H)
 | .stb s t,env,H=>Az s env (fun e=>fk Inv (fun H' k=>s.op.vc P (Env.ev e) H' k) fun v=>B9 P Inv K t (Env.put e s.dst v) H) (fun e=>B9 P Inv K t (Env.put e s.dst undef) H)
 | .zG s t r,env,H=>Du (Az s env (fun e=>s.op.vc P (Env.ev e) H fun v H'=>dt (Inv H') (B9 P Inv K t (Env.put e s.dst v) H')) (fun e=>B9 P Inv K t (Env.put e s.dst undef) H)) (B9 P Inv K r env H)
 | .stop,_,_=>True
section
variable (Inv : Hp → Prop) (K : Env → Hp → Prop) (s : jn) (t r : RN) (env : Env) (H : Hp)
@[go_sem ↓] theorem abU:B9 P Inv K .done env H=K env H:=(rfl)
@[go_sem ↓] theorem abV:B9 P Inv K .stop env H=True:=(rfl)
@[go_sem ↓] theorem adM(q:Bool)(g:Option (Nat×Bool))(d:Option Nat)(op:c7):B9 P Inv K (.pur ⟨q,g,d,op⟩ t) env H=
  Az ⟨q,g,d,op⟩ env (fun e=>op.vc P (Env.ev e) H fun v H'=>B9 P Inv K t (Env.put e d v) H') (fun e=>B9 P Inv K t (Env.put e d undef) H):=(rfl)
@[go_sem ↓] theorem adN(q:Bool)(g:Option (Nat×Bool))(d:Option Nat)(op:c7):B9 P Inv K (.stb ⟨q,g,d,op⟩ t) env H=
  Az ⟨q,g,d,op⟩ env (fun e=>fk Inv (fun H' k=>op.vc P (Env.ev e) H' k) fun v=>B9 P Inv K t (Env.put e d v) H) (fun e=>B9 P Inv K t (Env.put e d undef) H):=(rfl)
@[go_sem ↓] theorem abW(q:Bool)(g:Option (Nat×Bool))(d:Option Nat)(op:c7)(s':jn)(t' r':RN):B9 P Inv K (.zG ⟨q,g,d,op⟩ t (.zG s' t' r')) env H=
  Du (Az ⟨q,g,d,op⟩ env (fun e=>op.vc P (Env.ev e) H fun v H'=>dt (Inv H') (B9 P Inv K t (Env.put e d v) H')) (fun e=>B9 P Inv K t (Env.put e d undef) H)) (B9 P Inv K (.zG s' t' r') env H):=(rfl)
@[go_sem ↓] theorem YZ(q:Bool)(g:Option (Nat×Bool))(d:Option Nat)(op:c7):B9 P Inv K (.zG ⟨q,g,d,op⟩ t .stop) env H=
  Az ⟨q,g,d,op⟩ env (fun e=>op.vc P (Env.ev e) H fun v H'=>dt (Inv H') (B9 P Inv K t (Env.put e d v) H')) (fun e=>B9 P Inv K t (Env.put e d undef) H):=by
 show Du _ True=_
 simp[Du]
end
theorem Ft{q:List Nat}{Inv:Hp→Prop}{st:Nat→Bool}{i:Nat}{o:Oper}{s:jn}{F N:Env→Prop}{G:Act→Hp→Prop}{env:Env}{a:Act}{H:Hp}(Xk:ops[i]? =some o)(hs:qG P n ops q i o=some s)
  (hh:Holds env a n)(h:Az s env F N)(hN:∀e,Holds e a n→N e→G (a.put o.dst undef) H)
  (hF:∀e,Holds e a n→F e→match st i with
   |true=>∃v,(∀H',Inv H'→dJ P o a H' fun v' Fx=>v'=v∧Fx=H')∧G (a.put o.dst v) H
   |false=>dJ P o a H fun v H'=>Inv H'∧G (a.put o.dst v) H'):ie P ops Inv st i G a H:=by
 obtain⟨yF,mH,aK,hg⟩:=kK hs
 unfold ie
 simp only[Xk]
 unfold Az at h
 rcases hg with ⟨NN,BO⟩| ⟨j,want,g,NN,BO,hg3⟩
 ·rw[tR NN,if_pos rfl]
  rw[BO]at h
  exact hF env hh h
 ·rw[hg3]at h
  rcases DC h with ⟨b,hv,h⟩| ⟨vs,hv,h⟩
  ·have KU:=tS (o:=o) NN BO (hh.Ay g _ hv)
   rw[KU]
   have mS:=hh.guard hv
   cases hb:b==want
   ·rw[hb]at h
    rw[if_neg (by simp)]
    exact hN _ mS h
   ·rw[hb]at h
    rw[if_pos rfl]
    exact hF _ mS h
  ·rw[qH NN BO (hh.Ay g _ hv),if_neg (by simp)]
   exact hN _ hh h
theorem KW{K:Env→Hp→Prop}{q:List Nat}{Inv:Hp→Prop}{ss:List jn}(bV:∀k s,ss[k]? =some s→∃o,ops[k]? =some o∧qG P n ops q k o=some s):
  ∀ (t:Ot) (ts:RN),attach ss t=some ts→∀ (env:Env) (a:Act) (H:Hp),Holds env a n→B9 P Inv K ts env H→On P ops Inv (KV ss) (fun a' H'=>∃aR,Holds aR a' n∧K aR H') t a H:=by
 intro t
 induction t with
 |done=>intro ts ht env a H hh h;simp only[attach,anl]at ht;subst ht;exact⟨env,hh,h⟩
 |stop=>intro ts ht env a H hh h;trivial
 |step i t ih=>
  intro ts ht env a H hh h
  unfold attach at ht
  split at ht
  ·rename_i s t' hs Sz
   obtain⟨o,ho,hd⟩:=bV i s hs
   obtain⟨yF,mH,aK,_⟩:=kK hd
   cases hq:s.quiet
   ·rw[hq]at ht
    simp only[cond_false]at ht
    split at ht
    ·rename_i hc
     injection ht with ht
     subst ht
     have sY:KV ss i=true:=by simp[KV,hs,jn.steady,hc]
     refine Ft ho hd hh h (fun e he hN=>?_) (fun e he hF=>?_)
     ·rw[←mH];exact ih t' Sz _ _ _ (by rw[mH];exact he.put aK undef) hN
     ·rw[sY]
      obtain⟨v,e1,e2⟩:=(Go.Vc.sound s.op yF he.tQ hF).1 hc
      refine⟨v,fun H' _=>zB e1 H',?_⟩
      rw[←mH];exact ih t' Sz _ _ _ (by rw[mH];exact he.put aK v) e2
    ·cases ht
   ·rw[hq]at ht
    simp only[cond_true,anl]at ht
    subst ht
    have sY:KV ss i=true:=by simp[KV,hs,jn.steady,hq]
    refine Ft ho hd hh h (fun e he hN=>?_) (fun e he hF=>?_)
    ·rw[←mH];exact ih t' Sz _ _ _ (by rw[mH];exact he.put aK undef) hN
    ·rw[sY]
     obtain⟨v,e1,e2⟩:=hF
     refine⟨v,fun H' hI=>(Go.Vc.sound s.op yF he.tQ (e1 H' hI)).2,?_⟩
     rw[←mH];exact ih t' Sz _ _ _ (by rw[mH];exact he.put aK v) e2
  ·cases ht
 |zG i t r iht Zw=>
  intro ts ht env a H hh h
  unfold attach at ht
  split at ht
  ·rename_i s t' r' hs Sz hr'
   obtain⟨o,ho,hd⟩:=bV i s hs
   obtain⟨yF,mH,aK,_⟩:=kK hd
   cases hq:s.steady
   ·rw[hq]at ht
    simp only[cond_false,anl]at ht
    subst ht
    have sY:KV ss i=false:=by simp[KV,hs,hq]
    refine⟨Ft ho hd hh h.1 (fun e he hN=>?_) (fun e he hF=>?_),Zw r' hr' env a H hh h.2⟩
    ·rw[←mH];exact iht t' Sz _ _ _ (by rw[mH];exact he.put aK undef) hN
    ·rw[sY]
     refine(Go.Vc.sound s.op yF he.tQ hF).2.mono fun v H' ⟨k1,k2⟩=>⟨k1,?_⟩
     rw[←mH];exact iht t' Sz _ _ _ (by rw[mH];exact he.put aK v) k2
   ·rw[hq]at ht
    cases ht
  ·cases ht
end
end Go.Vc
