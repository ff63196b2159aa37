/- Texts put behind each other. -/
import Derived.Test.YtjlnnljohemifaaGreatK98
import Derived.Test.YtjlnnljohemifaaGreatK8
set_option linter.unusedVariables false
set_option linter.unusedSimpArgs false
namespace Go.Vc
abbrev tt(n:Nat):Operand:=.tmp n
abbrev ki(n:Int):Operand:=.const (.int .i64 n)
abbrev kb(b:Bool):Operand:=.const (.bool b)
abbrev s1(d:Nat)(op:df):gz:=⟨false,none,some d,op⟩
abbrev s0(op:df):gz:=⟨false,none,none,op⟩
abbrev sg(g:Nat)(w:Bool)(d:Nat)(op:df):gz:=⟨false,some (g,w),some d,op⟩
abbrev sq(d:Nat)(op:df):gz:=⟨true,none,some d,op⟩
inductive S where
 |skip
 |ag(ops:List gz)(aP:List Nat)
 |qX(t:TX)(aP:List Nat)
 |seq(a b:S)
 |cond(c:Operand)(x y:S)
 |cJ(id:Nat)(b:S)
 |loop(aiV:List Nat)(b:S)
 |exit(id:Nat)
 |ret
 |bad
 deriving Inhabited
def bA(F:Env→Hp→(Env→Hp→Prop)→Prop)(env:Env)(H:Hp)(_t:Tag F:=⟨⟩):Prop:=
 ∃I:Nat→Env→Hp→Prop,(∃m,I m env H)∧∀m env H,I m env H→F env H fun bf H'=>∃m',m'<m∧I m' bf H'
theorem bA.intro{F:Env→Hp→(Env→Hp→Prop)→Prop}{env:Env}{H:Hp}(I:Nat→Env→Hp→Prop)(m:Nat)(h0:I m env H)
  (round:∀m env H,I m env H→F env H fun bf H'=>∃m',m'<m∧I m' bf H'):bA F env H:=⟨I,⟨m,h0⟩,round⟩
def vc(P:Program):S→Env→Hp→(Env→Hp→Prop)→(Nat→Env→Hp→Prop)→(Env→Hp→Prop)→Prop
 | .skip,env,H,Kn,_,_=>Kn env H
 | .ag ops aP,env,H,Kn,_,_=>kO P (fun bf H'=>now (Env.aP bf aP) fun e=>Kn e H') ops env H
 | .qX t aP,env,H,Kn,_,_=>rq H fun Inv=>EQ P Inv (fun bf H'=>now (Env.aP bf aP) fun e=>Kn e H') t env H
 | .seq a b,env,H,Kn,Kx,Kr=>vc P a env H (fun bf H'=>vc P b bf H' Kn Kx Kr) Kx Kr
 | .cond c x y,env,H,Kn,Kx,Kr=>Ij (Env.ev env c) fun t=>HQ t (vc P x env H Kn Kx Kr) (vc P y env H Kn Kx Kr)
 | .cJ id b,env,H,Kn,Kx,Kr=>vc P b env H Kn (fun i bf H'=>HQ (i==id) (Kn bf H') (Kx i bf H')) Kr
 | .loop L b,env,H,_,Kx,Kr=>bA (fun bf H' again=>vc P b bf H' (fun e h=>again (Env.aP e L) h) Kx Kr) (Env.aP env L) H
 | .exit id,env,H,_,Kx,_=>Kx id env H
 | .ret,env,H,_,_,Kr=>Kr env H
 | .bad,_,_,_,_,_=>False
section
variable (P : Program) (env : Env) (H : Hp) (Kn : Env → Hp → Prop) (Kx : Nat → Env → Hp → Prop) (Kr : Env → Hp → Prop)
@[go_sem ↓] theorem Vm:vc P .skip env H Kn Kx Kr=Kn env H:=(rfl)
@[go_sem ↓] theorem ag7(ops:List gz)(aP:List Nat):vc P (.ag ops aP) env H Kn Kx Kr=kO P (fun bf H'=>now (Env.aP bf aP) fun e=>Kn e H') ops env H:=(rfl)
@[go_sem ↓] theorem aeB(t:TX)(aP:List Nat):vc P (.qX t aP) env H Kn Kx Kr=rq H fun Inv=>EQ P Inv (fun bf H'=>now (Env.aP bf aP) fun e=>Kn e H') t env H:=(rfl)
@[go_sem ↓] theorem XX(a b:S):vc P (.seq a b) env H Kn Kx Kr=vc P a env H (fun bf H'=>vc P b bf H' Kn Kx Kr) Kx Kr:=(rfl)
@[go_sem ↓] theorem VN(c:Operand)(x y:S):vc P (.cond c x y) env H Kn Kx Kr=Ij (Env.ev env c) fun t=>HQ t (vc P x env H Kn Kx Kr) (vc P y env H Kn Kx Kr):=(rfl)
@[go_sem ↓] theorem XY(id:Nat)(b:S):vc P (.cJ id b) env H Kn Kx Kr=vc P b env H Kn (fun i bf H'=>HQ (i==id) (Kn bf H') (Kx i bf H')) Kr:=(rfl)
@[go_sem ↓] theorem aeC(L:List Nat)(b:S):vc P (.loop L b) env H Kn Kx Kr=bA (fun bf H' again=>vc P b bf H' (fun e h=>again (Env.aP e L) h) Kx Kr) (Env.aP env L) H:=(rfl)
@[go_sem ↓] theorem aeD(id:Nat):vc P (.exit id) env H Kn Kx Kr=Kx id env H:=(rfl)
@[go_sem ↓] theorem ag8:vc P .bad env H Kn Kx Kr=False:=(rfl)
@[go_sem ↓] theorem ag9:vc P .ret env H Kn Kx Kr=Kr env H:=(rfl)
end
attribute [go_sem] cond_true cond_false
abbrev Uy:=List Nat×List Nat×List Nat
def Ll:Nat→List Nat→Option (Ot×List Nat)
 |0,_=>none
 |_+1,0::r=>some (.done,r)
 |f+1,1::i::r=>match Ll f r with
  |some (t,r)=>some (.step i t,r)
  |none=>none
 |f+1,2::i::r=>match Ll f r with
  |some (t,r)=>match Ll f r with
   |some (u,r)=>some (.aJ i t u,r)
   |none=>none
  |none=>none
 |_+1,3::r=>some (.stop,r)
 |_+1,_=>none
def wB(P:Program)(n:Nat):Code→List Uy→Option (S×List Uy)
 | .skip,an=>some (.skip,an)
 | .region _ ops draw,an=>
  match an with
  | []=>none
  | (aP,q,x::tr)::an=>
   match kg P n ops q 0 ops.toList with
   |none=>none
   |some ss=>
    match Ll (tr.length+2) (x::tr)with
    |some (t,[])=>
     if draw=true∧CD ops (Region.before ops)=true∧T7 ops (Region.before ops) (M8 ss) t (Array.replicate ops.size false) []=true∧Region.noSelect ops=true then(attach ss t).map fun ts=>(.qX ts aP,an)else none
    |_=>none
  | (aP,q,[])::an=>
   match kg P n ops q 0 ops.toList with
   |none=>none
   |some ss=>
    if draw=false∨(CD ops (Region.before ops)=true∧CE ops (Region.before ops) (TV ss)=true∧Region.noSelect ops=true)then some (.ag ss aP,an)else none
 | .seq a b,an=>
  match wB P n a an with
  |none=>none
  |some (x,an)=>match wB P n b an with
   |none=>none
   |some (y,an)=>some (.seq x y,an)
 | .cond c a b,an=>
  match wB P n a an with
  |none=>none
  |some (x,an)=>match wB P n b an with
   |none=>none
   |some (y,an)=>some (.cond c x y,an)
 | .block id a,an=>match wB P n a an with
  |none=>none
  |some (x,an)=>some (.cJ id x,an)
 | .loop a,an=>
  match an with
  | []=>none
  | (L,_,_)::an=>match wB P n a an with
   |none=>none
   |some (x,an)=>some (.loop L x,an)
 | .exit id,an=>some (.exit id,an)
 | .ret,an=>some (.ret,an)
 | .refuse _,an=>some (.bad,an)
 |_,_=>none
theorem wp_loop_ghost{P:Program}{Q:Exit→Act→World→Prop}{a:Act}{w:World}{c:Code}(I:Nat→Act→World→Prop){m:Nat}(h₀:I m a w)
  (round:∀m a w,I m a w→c.wp P (Exit.then (fun a' w'=>∃m',m'<m∧I m' a' w') Q) a w):(Code.loop c).wp P Q a w:=by
 intro b k cs
 have key:∀n a w,I n a w→∃e a' w',Q e a' w'∧Arrives P (lone (b.at a (.code c:: .inLoop c::k)) cs w) b k cs e a' w':=by
  intro n
  induction n using Nat.strongRecOn with
  |_ n ih=>
   intro a w hI
   obtain⟨e,a₁,w₁,hq,Na⟩:=round n a w hI b (.inLoop c::k) cs
   cases e with
   |normal=>
    obtain⟨m',aR,hI₁⟩:=hq
    obtain⟨e₂,a₂,w₂,hq₂,acS⟩:=ih m' aR a₁ w₁ hI₁
    exact⟨e₂,a₂,w₂,hq₂,.of_steps (Steps.trans Na (.one step_inLoop)) acS⟩
   |exit id=>exact⟨_,a₁,w₁,hq,.pass (x:=.inLoop c) rfl (fun _ _=>.inl (by simp)) Na⟩
   |goto l=>exact⟨_,a₁,w₁,hq,.pass (x:=.inLoop c) rfl (fun _ _=>.inl (by simp)) Na⟩
   |ret=>exact⟨_,a₁,w₁,hq,.pass (x:=.inLoop c) rfl (fun _ _=>.inl (by simp)) Na⟩
   |panic ch=>exact⟨_,a₁,w₁,hq,.pass (x:=.inLoop c) rfl (fun _ _=>.inl (by simp)) Na⟩
   |outgrown=>exact⟨_,a₁,w₁,hq,.pass (x:=.inLoop c) rfl (fun _ _=>.inl (by simp)) Na⟩
 obtain⟨e,a',w',hq,Na⟩:=key _ a w h₀
 exact⟨e,a',w',hq,.of_steps (.one step_loop) Na⟩
theorem LX{P:Program}{n:Nat}(hm:P.follows .mixedOrders=true):∀ (c:Code) (an:List Uy) (s:S) (TY:List Uy),wB P n c an=some (s,TY)→
  ∀ (env:Env) (a:Act) (w:World) (Kn:Env→Hp→Prop) (Kx:Nat→Env→Hp→Prop) (Kr:Env→Hp→Prop) (Q:Exit→Act→World→Prop),Holds env a n→vc P s env w.heap Kn Kx Kr→
   (∀bf a' w',bZ w w'→Holds bf a' n→Kn bf w'.heap→Q .normal a' w')→
   (∀i bf a' w',bZ w w'→Holds bf a' n→Kx i bf w'.heap→Q (.exit i) a' w')→
   (∀bf a' w',bZ w w'→Holds bf a' n→Kr bf w'.heap→Q .ret a' w')→c.wp P Q a w:=by
 intro c
 induction c with
 |skip=>
  intro an s TY hd env a w Kn Kx Kr Q hh h hn hx hr
  simp only[wB,anK,Prod.mk.injEq]at hd
  obtain⟨rfl,rfl⟩:=hd
  exact wp_skip (hn env a w (bZ.refl w) hh h)
 |region id ops draw=>
  intro an s TY hd env a w Kn Kx Kr Q hh h hn hx hr
  unfold wB at hd
  split at hd
  ·cases hd
  ·rename_i aP q x tr an0
   split at hd
   ·cases hd
   ·rename_i ss hss
    split at hd
    ·rename_i t ht
     split at hd
     ·rename_i hc
      obtain⟨rfl,h1,h2,h3⟩:=hc
      cases Wi:attach ss t with
      |none=>rw[Wi]at hd;cases hd
      |some ts=>
       rw[Wi]at hd
       simp only[Option.map_some,anK,Prod.mk.injEq]at hd
       obtain⟨rfl,rfl⟩:=hd
       have hl:∀k,ops.toList[k]? =ops[0+k]? :=fun k=>by simp
       have hQ:∀a' w',bZ w w'→(∃bf,Holds bf a' n∧Kn (Env.aP bf aP) w'.heap)→Q .normal a' w':=fun a' w' hs ⟨bf,rF,hk⟩=>hn _ a' w' hs (rF.aP aP) hk
       have ce:=O8 (P:=P) (ops:=ops) (n:=n) ops.toList 0 ss hl hss
       obtain⟨Inv,hI,h⟩:=h
       have h4:=M9 (P:=P) (ops:=ops) (n:=n) (q:=q) (Inv:=Inv) (ss:=ss) (fun k s hk=>by have:=ce k s hk;simpa using this) t ts Wi env a w.heap hh h
       exact GW (K:=fun a' H'=>∃bf,Holds bf a' n∧Kn (Env.aP bf aP) H') hm h1 h2 h3 hI hQ (by simpa[ON]using h4)
     ·cases hd
    ·cases hd
  ·rename_i aP q an0
   split at hd
   ·cases hd
   ·rename_i ss hss
    split at hd
    ·rename_i acT
     simp only[anK,Prod.mk.injEq]at hd
     obtain⟨rfl,rfl⟩:=hd
     have hl:∀k,ops.toList[k]? =ops[0+k]? :=fun k=>by simp
     have hQ:∀a' w',bZ w w'→(∃bf,Holds bf a' n∧Kn (Env.aP bf aP) w'.heap)→Q .normal a' w':=fun a' w' hs ⟨bf,rF,hk⟩=>hn _ a' w' hs (rF.aP aP) hk
     cases draw with
     |false=>
      have h1:=O6 (P:=P) (ops:=ops) (n:=n) ops.toList 0 ss hl hss env a w.heap hh h
      refine GS (K:=fun a' H'=>∃bf,Holds bf a' n∧Kn (Env.aP bf aP) H') hQ ?_
      rw[List.range_eq_range']
      simpa[ON]using h1
     |true=>
      obtain⟨h1,h2,h3⟩:=acT.resolve_left (by simp)
      have h4:=O7 (P:=P) (ops:=ops) (n:=n) (cls:=TV ss) ops.toList 0 ss hl hss (fun k s hk=>by simp[TV,hk]) env a w.heap hh h
      refine GR (K:=fun a' H'=>∃bf,Holds bf a' n∧Kn (Env.aP bf aP) H') hm h1 h2 h3 hQ ?_
      rw[List.range_eq_range']
      simpa[ON]using h4
    ·cases hd
 |seq x y ihx ihy=>
  intro an s TY hd env a w Kn Kx Kr Q hh h hn hx hr
  unfold wB at hd
  split at hd
  ·cases hd
  ·rename_i sx YF YG
   split at hd
   ·cases hd
   ·rename_i sy an2 hdy
    simp only[anK,Prod.mk.injEq]at hd
    obtain⟨rfl,rfl⟩:=hd
    refine wp_seq (ihx an sx YF YG env a w _ Kx Kr _ hh h ?_ ?_ ?_)
    ·intro bf a' w' hs rF hk
     exact ihy YF sy _ hdy bf a' w' Kn Kx Kr Q rF hk (fun e b v FI=>hn e b v (hs.trans FI)) (fun i e b v FI=>hx i e b v (hs.trans FI)) (fun e b v FI=>hr e b v (hs.trans FI))
    ·intro i bf a' w' hs rF hk;exact hx i bf a' w' hs rF hk
    ·intro bf a' w' hs rF hk;exact hr bf a' w' hs rF hk
 |cond c x y ihx ihy=>
  intro an s TY hd env a w Kn Kx Kr Q hh h hn hx hr
  unfold wB at hd
  split at hd
  ·cases hd
  ·rename_i sx YF YG
   split at hd
   ·cases hd
   ·rename_i sy an2 hdy
    simp only[anK,Prod.mk.injEq]at hd
    obtain⟨rfl,rfl⟩:=hd
    rw[VN]at h
    unfold Ij at h
    split at h
    ·rename_i v hv
     obtain⟨b,hb,h2⟩:=BD h
     subst hb
     have hc:=hh.xZ _ _ hv
     refine wp_cond_split hc (fun hb=>?_) (fun hb=>?_)
     ·subst hb;exact ihx an sx YF YG env a w Kn Kx Kr Q hh h2 hn hx hr
     ·subst hb;exact ihy YF sy _ hdy env a w Kn Kx Kr Q hh h2 hn hx hr
    ·exact h.elim
 |block id x ih=>
  intro an s TY hd env a w Kn Kx Kr Q hh h hn hx hr
  unfold wB at hd
  split at hd
  ·cases hd
  ·rename_i sx YF YG
   simp only[anK,Prod.mk.injEq]at hd
   obtain⟨rfl,rfl⟩:=hd
   refine wp_block (ih an sx _ YG env a w Kn _ Kr _ hh h (fun e b v hs rF hk=>hn e b v hs rF hk) ?_ (fun e b v hs rF hk=>hr e b v hs rF hk))
   intro i bf a' w' hs rF hk
   show if i=id then Q .normal a' w' else Q (.exit i) a' w'
   by_cases e:i=id
   ·subst e
    simp only[beq_self_eq_true,HQ]at hk
    rw[if_pos rfl]
    exact hn bf a' w' hs rF hk
   ·have:(i==id)=false:=by simpa using e
    simp only[this,HQ]at hk
    rw[if_neg e]
    exact hx i bf a' w' hs rF hk
 |loop x ih=>
  intro an s TY hd env a w Kn Kx Kr Q hh h hn hx hr
  unfold wB at hd
  split at hd
  ·cases hd
  ·rename_i L q tr an0
   split at hd
   ·cases hd
   ·rename_i sx YF YG
    simp only[anK,Prod.mk.injEq]at hd
    obtain⟨rfl,rfl⟩:=hd
    obtain⟨I,⟨m,h0⟩,round⟩:=h
    refine wp_loop_ghost (fun m a' w'=>bZ w w'∧∃bf,Holds bf a' n∧I m bf w'.heap) ⟨bZ.refl w,_,hh.aP L,h0⟩ ?_
    rintro m a' w' ⟨hs,bf,rF,hI⟩
    refine ih an0 sx _ YG bf a' w' _ Kx Kr _ rF (round m bf w'.heap hI) ?_ ?_ ?_
    ·rintro e b v FI hb ⟨m',aR,UG⟩
     exact⟨m',aR,hs.trans FI,_,hb.aP L,UG⟩
    ·intro i e b v FI hb hk;exact hx i e b v (hs.trans FI) hb hk
    ·intro e b v FI hb hk;exact hr e b v (hs.trans FI) hb hk
 |exit id=>
  intro an s TY hd env a w Kn Kx Kr Q hh h hn hx hr
  simp only[wB,anK,Prod.mk.injEq]at hd
  obtain⟨rfl,rfl⟩:=hd
  exact wp_exit (hx id env a w (bZ.refl w) hh h)
 |ret=>
  intro an s TY hd env a w Kn Kx Kr Q hh h hn hx hr
  simp only[wB,anK,Prod.mk.injEq]at hd
  obtain⟨rfl,rfl⟩:=hd
  exact wp_ret (hr env a w (bZ.refl w) hh h)
 |refuse r=>
  intro an s TY hd env a w Kn Kx Kr Q hh h hn hx hr
  simp only[wB,anK,Prod.mk.injEq]at hd
  obtain⟨rfl,rfl⟩:=hd
  exact h.elim
 |_=>intro an s TY hd;simp[wB]at hd
inductive YH where
 |tmp(t:Nat)
 |one(t:Nat)
 |agg(t n:Nat)
 deriving Inhabited
structure Fn where
 np:Nat
 res:List YH
 body:S
 deriving Inhabited
def xu(env:Env)(H:Hp):List YH→(List Value→Prop)→Prop
 | [],F=>F []
 | .tmp t::r,F=>aF (Env.find env t) fun v=>xu env H r fun vs=>F (v::vs)
 | .one t::r,F=>aF (Env.find env t) fun p=>zO p fun b o=>aF (H.rd b) fun l=>aF l[o]? fun v=>xu env H r fun vs=>F (v::vs)
 | .agg t n::r,F=>aF (Env.find env t) fun p=>zO p fun b o=>aF (H.rd b) fun l=>eB (o+n≤l.length) (xu env H r fun vs=>F (.agg ((l.drop o).take n).toArray::vs))
@[go_sem ↓] theorem acW(env:Env)(H:Hp)(F:List Value→Prop):xu env H [] F=F []:=(rfl)
@[go_sem ↓] theorem acX(env:Env)(H:Hp)(t:Nat)(r:List YH)(F:List Value→Prop):xu env H (.tmp t::r) F=aF (Env.find env t) fun v=>xu env H r fun vs=>F (v::vs):=(rfl)
@[go_sem ↓] theorem acY(env:Env)(H:Hp)(t:Nat)(r:List YH)(F:List Value→Prop):
  xu env H (.one t::r) F=aF (Env.find env t) fun p=>zO p fun b o=>aF (H.rd b) fun l=>aF l[o]? fun v=>xu env H r fun vs=>F (v::vs):=(rfl)
@[go_sem ↓] theorem acZ(env:Env)(H:Hp)(t n:Nat)(r:List YH)(F:List Value→Prop):
  xu env H (.agg t n::r) F=aF (Env.find env t) fun p=>zO p fun b o=>aF (H.rd b) fun l=>eB (o+n≤l.length) (xu env H r fun vs=>F (.agg ((l.drop o).take n).toArray::vs)):=(rfl)
def NQ:List Value→Value
 | [v]=>v
 |vs=>.tuple vs.toArray
@[go_sem] theorem aeF(v:Value):NQ [v]=v:=(rfl)
@[go_sem] theorem aeG:NQ []= .tuple [].toArray:=(rfl)
@[go_sem] theorem aeH(v u:Value)(r:List Value):NQ (v::u::r)= .tuple (v::u::r).toArray:=(rfl)
def nj:Nat→List Value→Env
 |_,[]=>[]
 |i,v::r=>(i,v)::nj (i+1) r
@[go_sem] theorem WE(i:Nat):nj i []=[]:=(rfl)
@[go_sem] theorem VO(i:Nat)(v:Value)(r:List Value):nj i (v::r)=(i,v)::nj (i+1) r:=(rfl)
def Fn.vc(P:Program)(F:Fn)(args:List Value)(H:Hp)(K:Value→Hp→Prop):Prop:=
 args.length=F.np∧Go.Vc.vc P F.body (nj 0 args) H (fun env H=>xu env H F.res fun vs=>K (NQ vs) H) (fun _ _ _=>False) (fun env H=>xu env H F.res fun vs=>K (NQ vs) H)
def qu(P:Program):List ResultVar→Option (List YH)
 | []=>some []
 | .tmp t::r=>(qu P r).map (.tmp t:: ·)
 | .cell t T::r=>if(P.info? T).isSome∧(P.underlying T).isSome then(qu P r).map ((if fC P T then .agg t (P.cellsOf T)else .one t):: ·)else none
def gA(P:Program)(f:FuncId)(an:List Uy):Option Fn:=
 match P.funcs[f]? with
 |none=>none
 |some fn=>
  match fn.body with
  |none=>none
  |some c=>
   match wB P fn.ntmps c an with
   |some (s,[])=>if fn.params.size≤fn.ntmps then(qu P fn.results.toList).map fun rs=>⟨fn.params.size,rs,s⟩else none
   |_=>none
def D1(tmps:Array Value):ResultVar→Sem Value
 | .tmp t=>pure (tmps.getD t undef)
 | .cell p t=>do loadVar t (←asAddr (tmps.getD p undef))
theorem Cy{P:Program}{w:World}{env:Env}{a:Act}{n:Nat}(hh:Holds env a n):∀ (rs:List ResultVar) (l:List YH) (F:List Value→Prop),qu P rs=some l→xu env w.heap l F→
  ∃vs,F vs∧(rs.mapM (D1 a.tmps)).run P w= .ok vs w:=by
 intro rs
 induction rs with
 |nil=>intro l F hl h;simp only[qu,anK]at hl;subst hl;exact⟨[],h,rfl⟩
 |cons r rs ih=>
  intro l F hl h
  cases r with
  |tmp t=>
   unfold qu at hl
   cases hr:qu P rs with
   |none=>rw[hr]at hl;cases hl
   |some l'=>
    rw[hr]at hl
    simp only[Option.map_some,anK]at hl
    subst hl
    obtain⟨v,hv,h⟩:=aC h
    obtain⟨vs,hF,iy⟩:=ih l' _ hr h
    have e:a.tmps.getD t undef=v:=by simp[hh.Dn t v hv]
    exact⟨v::vs,hF,by rw[List.mapM_cons];simp only[D1,Sem.run_bind,Sem.run_pure,Result.andThen_ok,e,iy]⟩
  |cell t T=>
   unfold qu at hl
   split at hl
   ·rename_i hc
    cases hr:qu P rs with
    |none=>rw[hr]at hl;cases hl
    |some l'=>
     rw[hr]at hl
     simp only[Option.map_some,anK]at hl
     subst hl
     cases hb:fC P T
     ·rw[hb]at h
      obtain⟨p,hp,h⟩:=aC h
      obtain⟨b,o,rfl,h⟩:=fM h
      obtain⟨lb,Ir,h⟩:=aC h
      obtain⟨v,hv,h⟩:=aC h
      obtain⟨vs,hF,iy⟩:=ih l' _ hr h
      have e:a.tmps.getD t undef= .pointer (some ⟨b,o,none⟩):=by simp[hh.Dn t _ hp]
      exact⟨v::vs,hF,by rw[List.mapM_cons];simp only[D1,Sem.run_bind,Sem.run_pure,Result.andThen_ok,e,asAddr,(mh hc.1 hc.2 Ir).2 hb v hv,iy]⟩
     ·rw[hb]at h
      obtain⟨p,hp,h⟩:=aC h
      obtain⟨b,o,rfl,h⟩:=fM h
      obtain⟨lb,Ir,h⟩:=aC h
      obtain⟨hn,h⟩:=h.out
      obtain⟨vs,hF,iy⟩:=ih l' _ hr h
      have e:a.tmps.getD t undef= .pointer (some ⟨b,o,none⟩):=by simp[hh.Dn t _ hp]
      exact⟨_,hF,by rw[List.mapM_cons];simp only[D1,Sem.run_bind,Sem.run_pure,Result.andThen_ok,e,asAddr,(mh hc.1 hc.2 Ir).1 hb hn,iy]⟩
   ·cases hl
theorem JJ:∀ (args:List Value) (i k:Nat) (v:Value),Env.find (nj i args) k=some v→i≤k∧args[k - i]? =some v:=by
 intro args
 induction args with
 |nil=>intro i k v h;cases h
 |cons x r ih=>
  intro i k v h
  simp only[nj,Env.find]at h
  by_cases e:i=k
  ·subst e
   simp at h
   subst h
   exact⟨anO _,by simp⟩
  ·have:(i==k)=false:=by simpa using e
   rw[this]at h
   obtain⟨h1,h2⟩:=ih (i+1) k v h
   refine⟨by omega,?_⟩
   rw[show k - i=(k - (i+1))+1 by omega,aox]
   exact h2
theorem Sc{P:Program}(hm:P.follows .mixedOrders=true){f:FuncId}{an:List Uy}{F:Fn}(hd:gA P f an=some F){args:List Value}{H:Hp}{K:Value→Hp→Prop}
  (h:F.vc P args H K):ai P f args H K:=by
 unfold gA at hd
 split at hd
 ·cases hd
 ·rename_i fn hf
  split at hd
  ·cases hd
  ·rename_i c hb
   split at hd
   ·rename_i s hs
    split at hd
    ·rename_i vf
     cases hr:qu P fn.results.toList with
     |none=>rw[hr]at hd;cases hd
     |some rs=>
      rw[hr]at hd
      simp only[Option.map_some,anK]at hd
      subst hd
      obtain⟨bv,h⟩:=h
      simp only at bv h
      intro w hw
      subst hw
      refine calls_of_wp hf hb ?_
      have hh:Holds (nj 0 args) {tmps:=args.toArray++Array.replicate (fn.ntmps - args.toArray.size) undef,defers:=[]} fn.ntmps:=by
       refine⟨by simp;omega,rfl,fun k v hk=>?_⟩
       obtain⟨_,h2⟩:=JJ args 0 k v hk
       have aR:k<args.length:=by
        rcases aoN k args.length with h'|h'
        ·exact h'
        ·simp[anP h']at h2
       rw[ao5 (by simpa using aR)]
       simpa using h2
      have Gv:∀bf a' w',bZ w w'→Holds bf a' fn.ntmps→xu bf w'.heap rs (fun vs=>K (NQ vs) w'.heap)→
        a'.defers=[]∧∃v,(results fn a'.tmps).run P w'= .ok v w'∧(∃v_1,Ending.returned v=Ending.returned v_1∧bZ w w'∧K v_1 w'.heap):=by
       intro bf a' w' NR rF hk
       obtain⟨vs,hF,iy⟩:=Cy (P:=P) rF fn.results.toList rs _ hr hk
       refine⟨rF.defers,NQ vs,?_,_,rfl,NR,hF⟩
       change (do let vs ←fn.results.mapM (D1 a'.tmps);pure (if h:vs.size=1 then vs[0]else .tuple vs):Sem Value).run P w'=_
       rw[Array.mapM_eq_mapM_toList]
       simp only[Sem.run_bind,Sem.run_map,iy,Result.andThen_ok,Sem.run_pure]
       congr 1
       cases vs with
       |nil=>rfl
       |cons x r=>cases r with
        |nil=>rfl
        |cons y r=>simp[NQ]
      refine LX hm c an s [] hs _ _ w _ _ _ _ hh h ?_ ?_ ?_
      ·exact fun bf a' w' NR rF hk=>Gv bf a' w' NR rF hk
      ·exact fun _ _ _ _ _ _ hk=>hk.elim
      ·exact fun bf a' w' NR rF hk=>Gv bf a' w' NR rF hk
    ·cases hd
   ·cases hd
end Go.Vc

namespace Go.Vc
theorem wrap64{n:Int}(h0: -9223372036854775808≤n)(h1:n≤9223372036854775807):IntKind.i64.wrap n=n:=by
 have e:(2^IntKind.i64.bits:Int)=18446744073709551616:=rfl
 have e':(2^ (IntKind.i64.bits - 1):Int)=9223372036854775808:=rfl
 unfold IntKind.wrap
 simp only[e,e',IntKind.signed,apY,aoq]
 split<;>omega
theorem Gi{n:Int}(h0:0≤n)(h1:n≤18446744073709551615):IntKind.u64.wrap n=n:=by
 have e:(2^IntKind.u64.bits:Int)=18446744073709551616:=rfl
 unfold IntKind.wrap
 simp only[e,IntKind.signed,Bool.false_and]
 rw[if_neg (by simp)];omega
theorem UR{n:Int}(h0:0≤n)(h1:n≤4294967295):IntKind.u32.wrap n=n:=by
 have e:(2^IntKind.u32.bits:Int)=4294967296:=rfl
 unfold IntKind.wrap
 simp only[e,IntKind.signed,Bool.false_and]
 rw[if_neg (by simp)];omega
def Sl(H:Hp)(size:Nat)(v:Value)(n:Nat)(xs:List Value)(fp:Option Nat):Prop:=
 xs.length=n*size∧
 match fp with
 |none=>n=0∧v= .slice none 0 0
 |some b=>∃l c,v= .slice (some ⟨b,0,none⟩) n c∧H.own b=some l∧n≤c∧c*size≤l.length∧l.take (n*size)=xs
theorem Sl.nil(H:Hp)(size:Nat):Sl H size (.slice none 0 0) 0 [] none:=⟨by simp,rfl,rfl⟩
theorem Sl.ext{H H':Hp}{size n:Nat}{v:Value}{xs:List Value}{fp:Option Nat}{S:Nat→Prop}(h:Sl H size v n xs fp)(e:ah S H H')(hs:∀b,fp=some b→¬S b):Sl H' size v n xs fp:=by
 obtain⟨hl,h⟩:=h
 refine⟨hl,?_⟩
 cases fp with
 |none=>exact h
 |some b=>
  obtain⟨l,c,h1,h2,h3⟩:=h
  exact⟨l,c,h1,e.own h2 (hs b rfl),h3⟩
theorem Sl.lt{H:Hp}{size n:Nat}{v:Value}{xs:List Value}{b:Nat}(h:Sl H size v n xs (some b)):b<H.size:=by
 obtain⟨_,l,c,_,h2,_⟩:=h
 exact aG h2
theorem Sl.lit(H:Hp)(T:TypeId)(size n:Nat)(xs:List Value)(hx:xs.length=n*size):Sl (H.new T xs) size (.slice (some ⟨H.size,0,none⟩) n n) n xs (some H.size):=
 ⟨hx,xs,n,rfl,aE H T xs,anO _,by omega,by rw[←hx];simp⟩
theorem Sl.dw{H:Hp}{T:TypeId}{size n b:Nat}{xs:List Value}(hx:xs.length=n*size)(hb:b=H.size):Sl (H.new T xs) size (.slice (some ⟨b,0,none⟩) n n) n xs (some b):=
 hb▸Sl.lit H T size n xs hx
def da(H:Hp)(size:Nat)(v:Value)(n:Nat)(xs:List Value):Prop:=
 xs.length=n*size∧((n=0∧∃a c,v= .slice a 0 c)∨∃b o c l,v= .slice (some ⟨b,o,none⟩) n c∧H.rd b=some l∧o+n*size≤l.length∧(l.drop o).take (n*size)=xs)
theorem Sl.rd{H:Hp}{size n:Nat}{v:Value}{xs:List Value}{fp:Option Nat}(h:Sl H size v n xs fp):da H size v n xs:=by
 obtain⟨hl,h⟩:=h
 refine⟨hl,?_⟩
 cases fp with
 |none=>exact .inl ⟨h.1,none,0,h.2⟩
 |some b=>
  obtain⟨l,c,h1,h2,h3,h4,h5⟩:=h
  refine .inr ⟨b,0,c,l,h1,ae h2,?_,by simpa using h5⟩
  have:=aoW size h3
  omega
theorem da.rowOf{H:Hp}{size n:Nat}{v:Value}{xs:List Value}{F:Nat→List Value→Prop}(h:da H size v n xs)(hf:F n xs):rowOf H size v F:=by
 obtain⟨hl,⟨rfl,a,c,rfl⟩| ⟨b,o,c,l,rfl,h2,h3,h4⟩⟩:=h
 ·have:xs=[]:=aoe.1 (by omega)
  subst this
  exact hf
 ·by_cases hn:n=0
  ·subst hn
   have:xs=[]:=aoe.1 (by omega)
   subst this
   exact hf
  ·have e0:(n==0)=false:=by simpa using hn
   show HQ (n==0) _ _
   rw[e0]
   show aF (H.rd b) _
   rw[h2]
   exact⟨h3,by rw[h4];exact hf⟩
theorem da.ext{H H':Hp}{size n:Nat}{v:Value}{xs:List Value}{S:Nat→Prop}(h:da H size v n xs)(e:ah S H H')(hs:∀b,b<H.size→¬S b):da H' size v n xs:=by
 obtain⟨hl,h| ⟨b,o,c,l,rfl,h2,h3⟩⟩:=h
 ·exact⟨hl,.inl h⟩
 ·exact⟨hl,.inr ⟨b,o,c,l,rfl,e.rd h2 (hs b (PP h2)),h3⟩⟩
theorem da.fresh{H H':Hp}{size n:Nat}{v:Value}{xs:List Value}(h:da H size v n xs)(e:aq H H'):da H' size v n xs:=h.ext e fun _ _ h=>h
theorem Nb{l xs new:List Value}{p:Nat}(hx:l.take p=xs)(hp:xs.length=p)(hn:p+new.length≤l.length):(bk l p new).take (p+new.length)=xs++new:=by
 apply aoj
 intro i
 by_cases hi:i<p+new.length
 ·rw[an9 hi,getElem?_splice new l p i hn]
  by_cases h1:p≤i
  ·rw[if_pos ⟨h1,hi⟩,an5 (by omega),hp]
  ·rw[if_neg (fun h=>h1 h.1),anS (by omega),←hx,an9 (by omega)]
 ·rw[anP (by simp;omega),anP (by simp;omega)]
theorem Sl.append{H:Hp}{T size bytes n m:Nat}{z:List Value}{s x:Value}{xs ys:List Value}{fp:Option Nat}{K:Value→Hp→Prop}(h:Sl H size s n xs fp)(hx:da H size x m ys)
  (hz:z.length=size)(h1:gU ys)(hb:(n+m)*bytes≤2^47)
  (hk:∀v' H' dv,Sl H' size v' (n+m) (xs++ys) dv→ah (fun b=>fp=some b) H H'→(dv=fp∨∃b,dv=some b∧H.size≤b∧b<H'.size)→K v' H'):
  im T size bytes z s x H K:=by
 obtain⟨hl,h⟩:=h
 have key:∀base c,s= .slice base n c→(∀b,base=some b→fp≠none)→im T size bytes z s x H K:=by
  intro base c hs aiW
  subst hs
  refine da.rowOf hx (F:=fun m new=>(n+m≤c→m=0→K (.slice base n c) H)∧
   (n+m≤c→m≠0→xT base fun b o=>aF (KZ (H.own b) (H.Du b)) fun l=>eB (o+(n+m)*size≤l.length∧gU new) (K (.slice base (n+m) c) (H.wr b (bk l (o+n*size) new))))∧
   (c<n+m→Builtin.nextslicecap (n+m) c*bytes≤2^48∧
    rowOf H size (.slice base n c) fun _ Tm=>∀c',n+m≤c'→K (.slice (some ⟨H.size,0,none⟩) (n+m) c') (H.new T (Tm++new++cN z (c' - (n+m)))))) ?_
  refine⟨fun vf hm=>?_,fun vf hm=>?_,fun aR=>⟨?_,?_⟩⟩
  ·subst hm
   have hy:ys=[]:=aoe.1 (by have:=hx.1;omega)
   subst hy
   exact hk _ _ fp (by rw[aow];exact⟨by simpa using hl,h⟩) (ah.refl _ _) (.inl rfl)
  ·cases fp with
   |none=>
    obtain⟨rfl,hv⟩:=h
    injection hv with e1 e2 e3
    omega
   |some b=>
    obtain⟨l,c',hv,h2,h3,h4,h5⟩:=h
    injection hv with e1 e2 e3
    subst e1;subst e3
    show aF (KZ (H.own b) (H.Du b)) _
    rw[h2]
    have h6:=aoW size vf
    refine⟨⟨by omega,h1⟩,?_⟩
    rw[anB]
    refine hk _ _ (some b) ⟨by simp[hl,hx.1,aoR],_,c,rfl,aj h2,vf,by rw[nl];exact h4,?_⟩ ((ah.refl (fun x=>some b=some x) H).wr (fun _=>rfl) _) (.inl rfl)
    have:=Nb (new:=ys) h5 hl (by rw[hx.1];rw[aoR]at h6;omega)
    rw[hx.1]at this
    rw[aoR];exact this
  ·have h2:Builtin.nextslicecap (n+m) c≤2*(n+m):=nextslicecap_le aR
   have h3:=aoW bytes h2
   rw[Nat.mul_assoc]at h3
   omega
  ·refine da.rowOf (n:=n) (xs:=xs) (Sl.rd (fp:=fp) ⟨hl,h⟩) ?_
   intro c' LD
   refine hk _ _ (some H.size) ⟨by simp[hl,hx.1,aoR],_,c',rfl,aE _ _ _,LD,?_,?_⟩ ((ah.refl _ _).new _ _) (.inr ⟨_,rfl,anO _,by rw[ar];omega⟩)
   ·simp only[anL,hl,hx.1,E9,hz]
    rw[←aoR,←aoR]
    exact Nat.le_of_eq (by congr 1;omega)
   ·rw[show(n+m)*size=(xs++ys).length by simp[hl,hx.1,aoR]]
    exact List.take_left
 cases fp with
 |none=>exact key none 0 (by obtain⟨rfl,hv⟩:=h;exact hv) (fun b hb=>by cases hb)
 |some b=>
  obtain⟨l,c,hv,_⟩:=h
  exact key (some ⟨b,0,none⟩) c hv (fun _ _=>by simp)
theorem yo(l:List Value)(i n:Nat)(x:Value):(l.set i x).take n=(l.take n).set i x:=by
 apply aoj
 intro k
 by_cases hk:k<n
 ·rw[an9 hk]
  by_cases h:i=k
  ·subst h
   by_cases hl:i<l.length
   ·rw[anI hl,anI (by simp;omega)]
   ·rw[anP (by simp;omega),anP (by simp;omega)]
  ·rw[anH h,anH h,an9 hk]
 ·rw[anP (by simp;omega),anP (by simp;omega)]
theorem Sl.ww{H:Hp}{n c s:Nat}{xs l:List Value}(h:Sl H 1 (.slice (some ⟨s,0,none⟩) n c) n xs (some s))(hl:H.own s=some l)(i:Nat)(x:Value):
  Sl (H.wr s (l.set i x)) 1 (.slice (some ⟨s,0,none⟩) n c) n (xs.set i x) (some s):=by
 obtain⟨h1,l',c',hv,h2,h3,h4,h5⟩:=h
 rw[hl]at h2
 injection h2 with h2
 subst h2
 injection hv with _ _ hc
 subst hc
 exact⟨by simpa using h1,_,c,rfl,aj hl,h3,by simpa using h4,by rw[yo,h5]⟩
theorem Sl.get{H:Hp}{n c s size:Nat}{xs l:List Value}(h:Sl H size (.slice (some ⟨s,0,none⟩) n c) n xs (some s))(hl:H.own s=some l){i:Nat}{x:Value}(hx:xs[i]? =some x):l[i]? =some x:=by
 obtain⟨h1,l',c',hv,h2,h3,h4,h5⟩:=h
 rw[hl]at h2
 injection h2 with h2
 subst h2
 rw[←h5,aob]at hx
 split at hx
 ·exact hx
 ·cases hx
def vd(es:List MapEntry)(i:Int):Option Value:=(es.find? fun e=>match e.key with| .int .i64 j=>i==j|_=>false).map (·.val)
def Dp(es:List MapEntry):Prop:=∃ks:List Int,es.map (·.key)=ks.map (Value.int .i64)∧ks.Nodup
def oJ(H:Hp)(b:Nat)(f:Int→Option Value):Prop:=∃es k,H.mp b=some (es,k)∧Dp es∧∀i,vd es i=f i
theorem oJ.new(H:Hp):oJ H.fX H.size (fun _=>none):=⟨[],0,KR H,⟨[],rfl,aoU⟩,fun _=>rfl⟩
theorem oJ.ext{H H':Hp}{b:Nat}{f:Int→Option Value}{S:Nat→Prop}(h:oJ H b f)(e:ah S H H')(hs:¬S b):oJ H' b f:=by
 obtain⟨es,k,h1,h2⟩:=h
 exact⟨es,k,e.mp h1 hs,h2⟩
theorem oJ.lt{H:Hp}{b:Nat}{f:Int→Option Value}(h:oJ H b f):b<H.size:=by
 obtain⟨es,k,h1,h2⟩:=h
 exact PM h1
theorem it(e:MapEntry)(es:List MapEntry)(j i:Int)(he:e.key= .int .i64 j):vd (e::es) i=if i=j then some e.val else vd es i:=by
 unfold vd
 rw[List.find?_cons]
 simp only[he]
 by_cases h:i=j
 ·simp[h]
 ·have:(i==j)=false:=by simpa using h
  rw[this,if_neg h]
theorem BH{e:MapEntry}{es:List MapEntry}(h:Dp (e::es)):∃j,e.key= .int .i64 j∧Dp es∧∀x∈es,x.key≠ .int .i64 j:=by
 obtain⟨ks,h1,h2⟩:=h
 cases ks with
 |nil=>simp at h1
 |cons j ks=>
  simp only[aoy,List.cons.injEq]at h1
  rw[anV]at h2
  refine⟨j,h1.1,⟨ks,h1.2,h2.2⟩,fun x hx hk=>h2.1 ?_⟩
  have hm:x.key∈es.map (·.key):=aou.2 ⟨x,hx,rfl⟩
  rw[h1.2,hk]at hm
  obtain⟨y,hy,e⟩:=aou.1 hm
  injection e with _ e
  exact e▸hy
theorem ER(i:Int):∀ (es:List MapEntry),Dp es→∀n:Nat,
  (vd es i=none∧ic .int (.int .i64 i) es n=some none)∨
  ∃j e,es[j]? =some e∧e.key= .int .i64 i∧vd es i=some e.val∧ic .int (.int .i64 i) es n=some (some (n+j,e.val)):=by
 intro es
 induction es with
 |nil=>intro _ n;exact .inl ⟨rfl,rfl⟩
 |cons e es ih=>
  intro h n
  obtain⟨j,hj,YI,aS⟩:=BH h
  have hq:tB .int (.int .i64 i) e.key=some (decide (i=j)):=by rw[hj];simp[tB,bB]
  by_cases JE:i=j
  ·subst JE
   refine .inr ⟨0,e,rfl,hj,by rw[it e es i i hj,if_pos rfl],?_⟩
   unfold ic
   rw[hq];simp
  ·have h2:ic .int (.int .i64 i) (e::es) n=ic .int (.int .i64 i) es (n+1):=by
    rw[ic,hq,anU JE]
   have h3:vd (e::es) i=vd es i:=by rw[it e es j i hj,if_neg JE]
   rw[h2,h3]
   rcases ih YI (n+1)with ⟨h4,h5⟩| ⟨k,e',h4,h5,h6,h7⟩
   ·exact .inl ⟨h4,h5⟩
   ·exact .inr ⟨k+1,e',by simpa using h4,h5,h6,by rw[h7];congr 3;omega⟩
theorem oJ.look{H:Hp}{b:Nat}{f:Int→Option Value}(h:oJ H b f)(i:Int)(F:Option Value→Prop):z8 H .int (some b) (.int .i64 i) F=F (f i):=by
 obtain⟨es,k,h1,h2,h3⟩:=h
 unfold z8
 simp only[h1,qN]
 rcases ER i es h2 0 with ⟨h4,h5⟩| ⟨j,e,h4,h5,h6,h7⟩
 ·rw[h5,←h3 i,h4];rfl
 ·rw[h7,←h3 i,h6];rfl
def KA(f:Int→Option Value)(i:Int)(v:Value):Int→Option Value:=fun j=>if j=i then some v else f j
def NX(f:Int→Option Value)(i:Int):Int→Option Value:=fun j=>if j=i then none else f j
theorem Nc(es:List MapEntry)(e:MapEntry)(i j:Int)(hj:e.key= .int .i64 j)(hn:vd es j=none):vd (es++[e]) i=if i=j then some e.val else vd es i:=by
 unfold vd at*
 rw[List.find?_append]
 by_cases h:i=j
 ·subst h
  have hx:(es.find? fun e=>match e.key with| .int .i64 j=>i==j|_=>false)=none:=by simpa using hn
  rw[hx]
  simp[hj]
 ·rw[if_neg h]
  have:([e].find? fun e=>match e.key with| .int .i64 j=>i==j|_=>false)=none:=by simp[hj,h]
  rw[this]
  simp
theorem Rs{es:List MapEntry}{i:Int}(h:vd es i=none):∀e∈es,e.key≠ .int .i64 i:=by
 intro e he hk
 unfold vd at h
 simp only[Option.map_eq_none_iff,List.find?_eq_none]at h
 have:=h e he
 simp[hk]at this
theorem Lm{es:List MapEntry}(h:Dp es)(j:Nat)(e:MapEntry)(hj:es[j]? =some e)(v:Value)(i:Int)(hk:e.key= .int .i64 i):
  Dp (es.modify j fun x=>{x with key:=.int .i64 i,val:=v}):=by
 obtain⟨ks,h1,h2⟩:=h
 refine⟨ks,?_,h2⟩
 rw[←h1]
 apply aoj
 intro n
 rw[anT,anT,List.getElem?_modify]
 by_cases hn:j=n
 ·subst hn;simp[hj,hk]
 ·simp[hn]
theorem Nd:∀ (es:List MapEntry),Dp es→∀ (j:Nat) (e:MapEntry) (v:Value) (i:Int),es[j]? =some e→e.key= .int .i64 i→∀n,
  vd (es.modify j fun x=>{x with key:=.int .i64 i,val:=v}) n=if n=i then some v else vd es n:=by
 intro es
 induction es with
 |nil=>intro _ j e v i hj;simp at hj
 |cons x es ih=>
  intro h j e v i hj hk n
  obtain⟨q,hq,YI,aS⟩:=BH h
  cases j with
  |zero=>
   simp only[an7,anK]at hj
   subst hj
   have:q=i:=by rw[hq]at hk;injection hk
   subst this
   rw[List.modify_zero_cons,it _ es q n rfl,it x es q n hq]
   split<;>rfl
  |succ j=>
   rw[List.modify_succ_cons,it x _ q n hq,it x es q n hq,ih YI j e v i (by simpa using hj) hk n]
   by_cases h1:n=q
   ·subst h1
    have hm:e∈es:=anG (by simpa using hj)
    have:n≠i:=fun e'=>aS e hm (by rw[hk,e'])
    simp[this]
   ·simp[h1]
theorem O9:∀ (es:List MapEntry),Dp es→∀ (j:Nat) (e:MapEntry) (i:Int),es[j]? =some e→e.key= .int .i64 i→Dp (es.eraseIdx j)∧∀n,vd (es.eraseIdx j) n=if n=i then none else vd es n:=by
 intro es
 induction es with
 |nil=>intro _ j e i hj;simp at hj
 |cons x es ih=>
  intro h j e i hj hk
  have h':=h
  obtain⟨q,hq,YI,aS⟩:=BH h
  cases j with
  |zero=>
   simp only[an7,anK]at hj
   subst hj
   have:q=i:=by rw[hq]at hk;injection hk
   subst this
   refine⟨YI,fun n=>?_⟩
   rw[List.eraseIdx_zero,List.tail_cons,it x es q n hq]
   by_cases hn:n=q
   ·subst hn
    rw[if_pos rfl]
    unfold vd
    simp only[Option.map_eq_none_iff,List.find?_eq_none]
    intro e' tS
    obtain⟨ks,h1,_⟩:=YI
    have hm:e'.key∈es.map (·.key):=aou.2 ⟨e',tS,rfl⟩
    rw[h1]at hm
    obtain⟨y,_,ey⟩:=aou.1 hm
    have:=aS e' tS
    rw[←ey]at this ⊢
    simp only[beq_iff_eq]
    intro e2
    exact this (by rw[e2])
   ·simp[hn]
  |succ j=>
   obtain⟨h1,h2⟩:=ih YI j e i (by simpa using hj) hk
   have hm:e∈es:=anG (by simpa using hj)
   have hqi:q≠i:=fun e'=>aS e hm (by rw[hk,e'])
   refine⟨?_,fun n=>?_⟩
   ·obtain⟨ks,e1,e2⟩:=h1
    refine⟨q::ks,by rw[List.eraseIdx_cons_succ,aoy,aoy,hq,e1],?_⟩
    rw[anV]
    refine⟨fun cj=>?_,e2⟩
    have:Value.int .i64 q∈(es.eraseIdx j).map (·.key):=by rw[e1];exact aou.2 ⟨q,cj,rfl⟩
    obtain⟨y,hy,ey⟩:=aou.1 this
    exact aS y (List.mem_of_mem_eraseIdx hy) ey
   ·rw[List.eraseIdx_cons_succ,it x _ q n hq,it x es q n hq,h2 n]
    by_cases h3:n=q
    ·subst h3;simp[hqi]
    ·simp[h3]
theorem Ln(n:Nat)(i:Int):Instr.sameBits (n+1) (.int .i64 i) (.int .i64 i)=true:=by simp[Instr.sameBits]
theorem oJ.Zc{H:Hp}{b:Nat}{f:Int→Option Value}(h:oJ H b f){i:Int}{v:Value}{F:Hp→Prop}(hk:∀H',oJ H' b (KA f i v)→ah (fun x=>x=b) H H'→F H'):
  Ta H .int b (.int .i64 i) v F:=by
 obtain⟨es,k,h1,h2,h3⟩:=h
 unfold Ta
 simp only[h1,qN]
 have wu:∀WA k',ah (fun x=>x=b) H (H.EW b WA k'):=fun WA k'=>(ah.refl (fun x=>x=b) H).EW (fun _=>rfl) _ _
 rcases ER i es h2 0 with ⟨h4,h5⟩| ⟨j,e,h4,h5,h6,h7⟩
 ·rw[h5]
  refine⟨rfl,hk _ ⟨_,_,nV h1,?_,fun n=>?_⟩ (wu _ _)⟩
  ·obtain⟨ks,e1,e2⟩:=h2
   refine⟨ks++[i],by simp[MD,e1],?_⟩
   rw[aon]
   refine⟨e2,by simp,fun a ha c hc hac=>?_⟩
   simp only[anM]at hc
   subst hc;subst hac
   have:Value.int .i64 a∈es.map (·.key):=by rw[e1];exact aou.2 ⟨a,ha,rfl⟩
   obtain⟨y,hy,ey⟩:=aou.1 this
   exact Rs h4 y hy ey
  ·rw[MD,Nc es _ n i rfl h4]
   unfold KA
   split<;>first|rfl|exact h3 n
 ·rw[h7]
  refine⟨?_,hk _ ⟨_,_,nV h1,Lm h2 _ e (by simpa using h4) _ _ h5,fun n=>?_⟩ (wu _ _)⟩
  ·simp only[Gp,anB,h4,Option.map_some,Option.getD_some,h5]
   exact Ln 9999 i
  ·rw[MD,anB,Nd es h2 j e v i h4 h5 n]
   unfold KA
   split<;>first|rfl|exact h3 n
theorem oJ.del{H:Hp}{b:Nat}{f:Int→Option Value}(h:oJ H b f){i:Int}{F:Hp→Prop}(hk:∀H',oJ H' b (NX f i)→ah (fun x=>x=b) H H'→F H'):
  Yq H .int b (.int .i64 i) F:=by
 obtain⟨es,k,h1,h2,h3⟩:=h
 unfold Yq
 simp only[h1,qN]
 have wu:∀WA k',ah (fun x=>x=b) H (H.EW b WA k'):=fun WA k'=>(ah.refl (fun x=>x=b) H).EW (fun _=>rfl) _ _
 rcases ER i es h2 0 with ⟨h4,h5⟩| ⟨j,e,h4,h5,h6,h7⟩
 ·rw[h5]
  refine hk _ ⟨_,_,nV h1,h2,fun n=>?_⟩ (wu _ _)
  rw[HS,h3 n]
  unfold NX
  by_cases hn:n=i
  ·subst hn;rw[if_pos rfl,←h3 n];exact h4
  ·rw[if_neg hn]
 ·rw[h7]
  obtain⟨e1,e2⟩:=O9 es h2 j e i h4 h5
  refine hk _ ⟨_,_,nV h1,by rw[HS,anB];exact e1,fun n=>?_⟩ (wu _ _)
  rw[HS,anB,e2 n]
  unfold NX
  split<;>first|rfl|exact h3 n
end Go.Vc

namespace Go.Vc
section
variable {P : Program} {ev : Ev} {H : Hp} {K K' : Value → Hp → Prop}
theorem Pa{s:Shape}{r:Option Nat}{k:Value}{F G:Option Value→Prop}(h:z8 H s r k F)(hk:∀x,F x→G x):z8 H s r k G:=by
 unfold z8 at*
 cases r with
 |none=>exact hk _ h
 |some b=>exact ak h fun m h=>ak h fun x=>hk _
theorem Lo{T size bytes:Nat}{z:List Value}{s x:Value}(h:im T size bytes z s x H K)(hk:∀v H',K v H'→K' v H'):im T size bytes z s x H K':=by
 refine od h fun base n c h=>BG h fun m new h=>?_
 obtain⟨h1,h2,h3⟩:=h
 exact⟨fun a b=>hk _ _ (h1 a b),fun a b=>BF (h2 a b) fun b o h=>ak h fun l h=>bP h (hk _ _),fun a=>⟨(h3 a).1,BG (h3 a).2 fun n l h c' hc=>hk _ _ (h c' hc)⟩⟩
theorem Il(i:df)(h:i.vc P ev H K)(hk:∀v H',K v H'→K' v H'):i.vc P ev H K':=by
 cases hc:i.cls with
 |pure=>exact PU i hc h hk
 |quiet=>
  cases i<;>simp[df.cls]at hc<;>simp only[df.vc]at h ⊢
  ·exact ak h fun v h=>tP h fun b o h=>ak h fun l h=>ak h fun v=>hk _ _
  ·exact ak h fun v h=>tP h fun b o h=>ak h fun l h=>bP h (hk _ _)
  ·exact ak h fun v h=>ak h fun v h=>yy h fun r h=>bP h fun h=>Pa h fun x=>hk _ _
  ·refine ak h fun v h=>yy h fun r h=>?_
   unfold MT at*
   cases r with
   |none=>exact hk _ _ h
   |some b=>exact ak h fun m=>hk _ _
  ·exact ak h fun v h=>Ff h fun l=>hk _ _
 |I2=>
  cases i<;>simp[df.cls]at hc<;>simp only[df.vc]at h ⊢
  ·exact ak h fun v=>hk _ _
  ·exact hk _ _ h
  ·exact Ii h fun l=>hk _ _
  ·exact ak h fun v h=>tP h fun b o h=>ak h fun v h=>ak h fun l h=>bP h fun h=>bP h fun h=>bP h (hk _ _)
  ·exact hk _ _ h
  ·exact ak h fun v h=>ak h fun v h=>ni h fun n h=>ni h fun c h=>bP h (hk _ _)
  ·exact ak h fun v h=>ak h fun v h=>ak h fun v h=>yy h fun r h=>ak h fun b h=>bP h fun h=>ak h fun es h=>ak h fun x h=>bP h (hk _ _)
  ·exact n9 h fun l h=>ai.mono h hk
  ·refine ak h fun v h=>n9 h fun l h=>?_
   unfold Ys at*
   split at h
   ·exact⟨h.1,h.2.mono hk⟩
   ·exact h.elim
  ·refine ak h fun v h=>n9 h fun l h=>?_
   obtain⟨T,v,f,rv,e,hm,hc⟩:=h
   exact⟨T,v,f,rv,e,hm,hc.mono hk⟩
  ·exact ak h fun v h=>ak h fun v h=>Lo h hk
  ·exact ak h fun v h=>ak h fun v h=>yy h fun r h=>ak h fun b h=>bP h fun h=>ak h fun es h=>ak h fun x=>hk _ _
  ·exact ak h fun v h=>od h fun a n c h=>by
    rcases h with ⟨h1,h2⟩| ⟨h1,b,o,l,h2,h3,h4,h5,h6⟩
    ·exact .inl ⟨h1,hk _ _ h2⟩
    ·exact .inr ⟨h1,b,o,l,h2,h3,h4,h5,hk _ _ h6⟩
  ·refine ak h fun v h=>?_
   unfold mf at*
   split at h
   ·exact fun c hc=>hk _ _ (h c hc)
   ·exact h.elim
  ·exact n9 h fun l h=>by obtain⟨v,h1,h2⟩:=h;exact⟨v,h1,hk _ _ h2⟩
theorem Nf(s:gz)(h:s.vc P ev H K)(hk:∀v H',K v H'→K' v H'):s.vc P ev H K':=by
 unfold gz.vc at*
 cases hq:s.quiet
 ·rw[hq]at h;exact Il s.op h hk
 ·rw[hq]at h;obtain⟨v,h1,h2⟩:=h;exact⟨v,h1,hk _ _ h2⟩
theorem PW{o:Option Value}{F F':Bool→Prop}{N N':Prop}(h:gV o F N)(hf:∀b,F b→F' b)(hn:N→N'):gV o F' N':=by
 rcases Gr h with ⟨b,rfl,h⟩| ⟨vs,rfl,h⟩
 ·exact hf b h
 ·exact hn h
theorem Dq{b:Bool}{A A' B B':Prop}(h:HQ b A B)(ha:A→A')(hb:B→B'):HQ b A' B':=by
 cases b
 ·exact hb h
 ·exact ha h
theorem Pb{F F':Env→Hp→Prop}(hk:∀e H,F e H→F' e H):∀ (l:List gz) (env:Env) (H:Hp),kO P F l env H→kO P F' l env H:=by
 intro l
 induction l with
 |nil=>intro env H h;exact hk _ _ h
 |cons s l ih=>
  intro env H h
  unfold kO at h ⊢
  cases hg:s.guard with
  |none=>rw[hg]at h;exact Nf s h fun v H'=>ih _ _
  |some g=>
   rw[hg]at h
   exact PW h (fun b h=>Dq h (fun h=>Nf s h fun v H'=>ih _ _) (ih _ _)) (ih _ _)
theorem ES{s:gz}{env:Env}{F F' N N':Env→Prop}(h:Do s env F N)(hf:∀e,F e→F' e)(hn:∀e,N e→N' e):Do s env F' N':=by
 unfold Do at*
 cases hg:s.guard with
 |none=>rw[hg]at h;exact hf _ h
 |some g=>rw[hg]at h;exact PW h (fun b h=>Dq h (hf _) (hn _)) (hn _)
theorem TZ{Inv:Hp→Prop}{F F':Env→Hp→Prop}(hk:∀e H,F e H→F' e H):∀ (t:TX) (env:Env) (H:Hp),EQ P Inv F t env H→EQ P Inv F' t env H:=by
 intro t
 induction t with
 |done=>intro env H h;exact hk _ _ h
 |stop=>intro env H h;trivial
 |aY s t ih=>intro env H h;exact ES h (fun e h=>Il s.op h fun v H'=>ih _ _) (fun e=>ih _ _)
 |Fs s t ih=>intro env H h;exact ES h (fun e h=>by obtain⟨v,h1,h2⟩:=h;exact⟨v,h1,ih _ _ h2⟩) (fun e=>ih _ _)
 |aJ s t r ih ihr=>intro env H h;exact⟨ES h.1 (fun e h=>Il s.op h fun v H' h=>bP h (ih _ _)) (fun e=>ih _ _),ihr _ _ h.2⟩
theorem Fa:∀ (s:S) (env:Env) (H:Hp) (Kn RQ:Env→Hp→Prop) (Kx RR:Nat→Env→Hp→Prop) (Kr RS:Env→Hp→Prop),(∀e H,Kn e H→RQ e H)→(∀i e H,Kx i e H→RR i e H)→(∀e H,Kr e H→RS e H)→
  vc P s env H Kn Kx Kr→vc P s env H RQ RR RS:=by
 intro s
 induction s with
 |skip=>intro env H Kn RQ Kx RR Kr RS hn hx hr h;exact hn _ _ h
 |ag ops aP=>intro env H Kn RQ Kx RR Kr RS hn hx hr h;exact Pb (fun e H h=>hn _ _ h) ops env H h
 |qX t aP=>intro env H Kn RQ Kx RR Kr RS hn hx hr h;obtain⟨Inv,hI,h⟩:=h;exact⟨Inv,hI,TZ (fun e H h=>hn _ _ h) t env H h⟩
 |seq a b iha ihb=>intro env H Kn RQ Kx RR Kr RS hn hx hr h;exact iha env H _ _ _ _ _ _ (fun e H h=>ihb e H _ _ _ _ _ _ hn hx hr h) hx hr h
 |cond c x y ihx ihy=>
  intro env H Kn RQ Kx RR Kr RS hn hx hr h
  simp only[vc]at*
  unfold Ij at*
  split at h
  ·exact Ih h fun b h=>Dq h (ihx _ _ _ _ _ _ _ _ hn hx hr) (ihy _ _ _ _ _ _ _ _ hn hx hr)
  ·exact h.elim
 |cJ id b ih=>intro env H Kn RQ Kx RR Kr RS hn hx hr h;exact ih env H _ _ _ _ _ _ hn (fun i e H h=>Dq h (hn _ _) (hx _ _ _)) hr h
 |loop L b ih=>
  intro env H Kn RQ Kx RR Kr RS hn hx hr h
  obtain⟨I,h0,round⟩:=h
  exact⟨I,h0,fun m env H hI=>ih env H _ _ _ _ _ _ (fun e H h=>h) hx hr (round m env H hI)⟩
 |exit id=>intro env H Kn RQ Kx RR Kr RS hn hx hr h;exact hx _ _ _ h
 |ret=>intro env H Kn RQ Kx RR Kr RS hn hx hr h;exact hr _ _ h
 |bad=>intro env H Kn RQ Kx RR Kr RS hn hx hr h;exact h.elim
def WM(a b:S):S:=.seq a b
theorem SV{a b:S}{env:Env}{H:Hp}{Kn:Env→Hp→Prop}{Kx:Nat→Env→Hp→Prop}{Kr:Env→Hp→Prop}(M:Env→Hp→Prop)(h1:vc P a env H M Kx Kr)(h2:∀e H',M e H'→vc P b e H' Kn Kx Kr):vc P (WM a b) env H Kn Kx Kr:=
 Fa a env H _ _ _ _ _ _ h2 (fun _ _ _ h=>h) (fun _ _ h=>h) h1
end
end Go.Vc

namespace Go.Vc
def Lp(P:Program)(T:TypeId)(name:String):Option (List FieldStep×Option (FuncId×Bool)):=
 ((P.info? T).bind fun i=>i.methods.find? (·.name==name)).map fun m=>(m.path.toList,m.func)
theorem yd{P:Program}{T:TypeId}{name:String}{p:List FieldStep}{f:Option (FuncId×Bool)}(h:Lp P T name=some (p,f)):
  ∃i m,P.info? T=some i∧i.methods.find? (·.name==name)=some m∧m.path.toList=p∧m.func=f:=by
 unfold Lp at h
 cases hi:P.info? T with
 |none=>rw[hi]at h;cases h
 |some i=>
  rw[hi]at h
  simp only[Option.bind_some]at h
  cases hm:i.methods.find? (·.name==name)with
  |none=>rw[hm]at h;cases h
  |some m=>
   rw[hm]at h
   simp only[Option.map_some,anK,Prod.mk.injEq]at h
   exact⟨i,m,rfl,hm,h.1,h.2⟩
def WF(P:Program)(T:TypeId)(name:String):Option FuncId:=
 match Lp P T name,P.underlying T with
 |some ([],some (f,true)),some (.pointer _)=>if eW P f then some f else none
 |_,_=>none
theorem bE{P:Program}{H:Hp}{T:TypeId}{v:Value}{name:String}{f:FuncId}(h:WF P T name=some f):TJ P H T v name f v:=by
 unfold WF at h
 split at h
 ·rename_i f' e h1 hu
  split at h
  ·rename_i hc
   injection h with h
   subst h
   refine⟨hc,fun w hw=>?_⟩
   obtain⟨i,m,g1,g2,g3,g4⟩:=yd h1
   show(method ((P.types.size+99)+1) T v name).run P w=_
   unfold method
   simp[et g1,g2,g3,g4,follow,receiverAt,run_underlying hu,Place.get]
  ·cases h
 ·cases h
def PX(P:Program)(T:TypeId)(name:String):Option (Nat×FuncId):=
 match Lp P T name with
 |some ([s],some (f,true))=>
  match s.deref,P.underlying s.struct with
  |true,some (.struct fs)=>
   match fs[s.index]? with
   |some fd=>match P.underlying fd.type with
    |some (.pointer _)=>if(P.info? fd.type).isSome∧P.cellsOf fd.type≠0∧eW P f=true then some (fd.offset,f)else none
    |_=>none
   |none=>none
  |_,_=>none
 |_=>none
theorem Gb{P:Program}{fd:Field}(hi:(P.info? fd.type).isSome=true)(h0:P.cellsOf fd.type≠0)(a:Addr)(w:World):(fieldPlace a fd).run P w= .ok (a.add fd.offset) w:=by
 simp[fieldPlace,bN hi,h0]
theorem hX{P:Program}{H:Hp}{T:TypeId}{b o off:Nat}{l:List Value}{rv:Value}{name:String}{f:FuncId}(h:PX P T name=some (off,f))(hr:H.rd b=some l)(hv:l[o+off]? =some rv):
  TJ P H T (.pointer (some ⟨b,o,none⟩)) name f rv:=by
 unfold PX at h
 split at h
 ·rename_i s f' h1
  split at h
  ·rename_i fs hd hs
   split at h
   ·rename_i fd hf
    split at h
    ·rename_i e hu
     split at h
     ·rename_i hc
      simp only[anK,Prod.mk.injEq]at h
      obtain⟨rfl,rfl⟩:=h
      refine⟨hc.2.2,fun w hw=>?_⟩
      subst hw
      obtain⟨i,m,g1,g2,g3,g4⟩:=yd h1
      have hus:(P.underlying fd.type).isSome=true:=by rw[hu];rfl
      have hag:fC P fd.type=false:=by unfold fC;rw[hu]
      have ac0:=(mh (P:=P) (w:=w) (t:=fd.type) hc.1 hus hr).2 hag rv hv
      show(method ((P.types.size+99)+1) T _ name).run P w=_
      unfold method
      simp[et g1,g2,g3,g4,follow,run_underlying hs,hf,hd,Place.get,asAddr,Gb hc.1 hc.2.1,receiverAt,run_underlying hu,Bf,ac0]
     ·cases h
    ·cases h
   ·cases h
  ·cases h
 ·cases h
theorem abd{P:Program}{T:TypeId}{a:Addr}{name:String}{x:Nat×FuncId}{cap:Array Value}(h:PX P T name=some x):QA P (.func (.method name) #[.iface T (.pointer (some a))] cap):=by
 unfold PX at h
 split at h
 ·rename_i s f' h1
  split at h
  ·rename_i fs hd hs
   split at h
   ·rename_i fd hf
    refine .inr ⟨name,T,_,cap,rfl,fun w=>?_⟩
    obtain⟨i,m,g1,g2,g3,g4⟩:=yd h1
    show(nilAhead ((P.types.size+99)+1) T _ name).run P w=_
    unfold nilAhead
    simp[et g1,g2,g3,g4,followBlind,run_underlying hs,hf,hd]
   ·cases h
  ·cases h
 ·cases h
theorem jm.mono{P:Program}{recv:Value}{name:String}{args:List Value}{H:Hp}{K K':Value→Hp→Prop}(h:jm P recv name args H K)(hk:∀v H',K v H'→K' v H'):jm P recv name args H K':=by
 obtain⟨T,v,f,rv,h1,h2,h3⟩:=h
 exact⟨T,v,f,rv,h1,h2,h3.mono hk⟩
end Go.Vc
