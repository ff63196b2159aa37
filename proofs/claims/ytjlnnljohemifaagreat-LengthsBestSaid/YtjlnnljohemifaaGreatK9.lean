/- Texts put behind each other. -/
import Derived.Test.YtjlnnljohemifaaGreatK98
import Derived.Test.YtjlnnljohemifaaGreatK8
set_option linter.unusedVariables false
set_option linter.unusedSimpArgs false
namespace Go.Vc
abbrev tt(n:Nat):Operand:=.tmp n
abbrev ki(n:Int):Operand:=.const (.int .i64 n)
abbrev kb(b:Bool):Operand:=.const (.bool b)
abbrev s1(d:Nat)(op:de):gk:=⟨false,none,some d,op⟩
abbrev s0(op:de):gk:=⟨false,none,none,op⟩
abbrev sg(g:Nat)(w:Bool)(d:Nat)(op:de):gk:=⟨false,some (g,w),some d,op⟩
abbrev sq(d:Nat)(op:de):gk:=⟨true,none,some d,op⟩
abbrev sqg(g:Nat)(w:Bool)(d:Nat)(op:de):gk:=⟨true,some (g,w),some d,op⟩
inductive S where
 |skip
 |ag(ops:List gk)(aN:List Nat)
 |qU(t:Tt)(aN:List Nat)
 |seq(a b:S)
 |cond(c:Operand)(x y:S)
 |cH(id:Nat)(b:S)
 |loop(ah3:List Nat)(b:S)
 |exit(id:Nat)
 |ret
 |bad
 deriving Inhabited
def bA(F:Env→Hp→(Env→Hp→Prop)→Prop)(env:Env)(H:Hp)(_t:Tag F:=⟨⟩):Prop:=
 ∃I:Nat→Env→Hp→Prop,(∃m,I m env H)∧∀m env H,I m env H→F env H fun bh H'=>∃m',m'<m∧I m' bh H'
theorem bA.intro{F:Env→Hp→(Env→Hp→Prop)→Prop}{env:Env}{H:Hp}(I:Nat→Env→Hp→Prop)(m:Nat)(h0:I m env H)
  (round:∀m env H,I m env H→F env H fun bh H'=>∃m',m'<m∧I m' bh H'):bA F env H:=⟨I,⟨m,h0⟩,round⟩
def vc(P:Program):S→Env→Hp→(Env→Hp→Prop)→(Nat→Env→Hp→Prop)→(Env→Hp→Prop)→Prop
 | .skip,env,H,Kn,_,_=>Kn env H
 | .ag ops aN,env,H,Kn,_,_=>kN P (fun bh H'=>now (Env.aN bh aN) fun e=>Kn e H') ops env H
 | .qU t aN,env,H,Kn,_,_=>qZ H fun Inv=>ED P Inv (fun bh H'=>now (Env.aN bh aN) fun e=>Kn e H') t env H
 | .seq a b,env,H,Kn,Kx,Kr=>vc P a env H (fun bh H'=>vc P b bh H' Kn Kx Kr) Kx Kr
 | .cond c x y,env,H,Kn,Kx,Kr=>HM (Env.ev env c) fun t=>Hv t (vc P x env H Kn Kx Kr) (vc P y env H Kn Kx Kr)
 | .cH id b,env,H,Kn,Kx,Kr=>vc P b env H Kn (fun i bh H'=>Hv (i==id) (Kn bh H') (Kx i bh H')) Kr
 | .loop L b,env,H,_,Kx,Kr=>bA (fun bh H' again=>vc P b bh H' (fun e h=>again (Env.aN e L) h) Kx Kr) (Env.aN env L) H
 | .exit id,env,H,_,Kx,_=>Kx id env H
 | .ret,env,H,_,_,Kr=>Kr env H
 | .bad,_,_,_,_,_=>False
section
variable (P : Program) (env : Env) (H : Hp) (Kn : Env → Hp → Prop) (Kx : Nat → Env → Hp → Prop) (Kr : Env → Hp → Prop)
@[go_sem ↓] theorem UA:vc P .skip env H Kn Kx Kr=Kn env H:=(rfl)
@[go_sem ↓] theorem agk(ops:List gk)(aN:List Nat):vc P (.ag ops aN) env H Kn Kx Kr=kN P (fun bh H'=>now (Env.aN bh aN) fun e=>Kn e H') ops env H:=(rfl)
@[go_sem ↓] theorem adV(t:Tt)(aN:List Nat):vc P (.qU t aN) env H Kn Kx Kr=qZ H fun Inv=>ED P Inv (fun bh H'=>now (Env.aN bh aN) fun e=>Kn e H') t env H:=(rfl)
@[go_sem ↓] theorem Xk(a b:S):vc P (.seq a b) env H Kn Kx Kr=vc P a env H (fun bh H'=>vc P b bh H' Kn Kx Kr) Kx Kr:=(rfl)
@[go_sem ↓] theorem U5(c:Operand)(x y:S):vc P (.cond c x y) env H Kn Kx Kr=HM (Env.ev env c) fun t=>Hv t (vc P x env H Kn Kx Kr) (vc P y env H Kn Kx Kr):=(rfl)
@[go_sem ↓] theorem Xl(id:Nat)(b:S):vc P (.cH id b) env H Kn Kx Kr=vc P b env H Kn (fun i bh H'=>Hv (i==id) (Kn bh H') (Kx i bh H')) Kr:=(rfl)
@[go_sem ↓] theorem adW(L:List Nat)(b:S):vc P (.loop L b) env H Kn Kx Kr=bA (fun bh H' again=>vc P b bh H' (fun e h=>again (Env.aN e L) h) Kx Kr) (Env.aN env L) H:=(rfl)
@[go_sem ↓] theorem adX(id:Nat):vc P (.exit id) env H Kn Kx Kr=Kx id env H:=(rfl)
@[go_sem ↓] theorem agl:vc P .bad env H Kn Kx Kr=False:=(rfl)
@[go_sem ↓] theorem agm:vc P .ret env H Kn Kx Kr=Kr env H:=(rfl)
end
attribute [go_sem] cond_true cond_false
abbrev TW:=List Nat×List Nat×List Nat
def KS:Nat→List Nat→Option (Ot×List Nat)
 |0,_=>none
 |_+1,0::r=>some (.done,r)
 |f+1,1::i::r=>match KS f r with
  |some (t,r)=>some (.step i t,r)
  |none=>none
 |f+1,2::i::r=>match KS f r with
  |some (t,r)=>match KS f r with
   |some (u,r)=>some (.aP i t u,r)
   |none=>none
  |none=>none
 |_+1,3::r=>some (.stop,r)
 |_+1,_=>none
def wg(P:Program)(n:Nat):Code→List TW→Option (S×List TW)
 | .skip,an=>some (.skip,an)
 | .region _ ops draw,an=>
  match an with
  | []=>none
  | (aN,q,x::tr)::an=>
   match ke P n ops q 0 ops.toList with
   |none=>none
   |some ss=>
    match KS (tr.length+2) (x::tr)with
    |some (t,[])=>
     if draw=true∧Co ops (Region.before ops)=true∧Tz ops (Region.before ops) (MF ss) t (Array.replicate ops.size false) []=true∧Region.noSelect ops=true then(attach ss t).map fun ts=>(.qU ts aN,an)else none
    |_=>none
  | (aN,q,[])::an=>
   match ke P n ops q 0 ops.toList with
   |none=>none
   |some ss=>
    if draw=false∨(Co ops (Region.before ops)=true∧Cp ops (Region.before ops) (Tr ss)=true∧Region.noSelect ops=true)then some (.ag ss aN,an)else none
 | .seq a b,an=>
  match wg P n a an with
  |none=>none
  |some (x,an)=>match wg P n b an with
   |none=>none
   |some (y,an)=>some (.seq x y,an)
 | .cond c a b,an=>
  match wg P n a an with
  |none=>none
  |some (x,an)=>match wg P n b an with
   |none=>none
   |some (y,an)=>some (.cond c x y,an)
 | .block id a,an=>match wg P n a an with
  |none=>none
  |some (x,an)=>some (.cH id x,an)
 | .loop a,an=>
  match an with
  | []=>none
  | (L,_,_)::an=>match wg P n a an with
   |none=>none
   |some (x,an)=>some (.loop L x,an)
 | .exit id,an=>some (.exit id,an)
 | .ret,an=>some (.ret,an)
 | .refuse _,an=>some (.bad,an)
 |_,_=>none
theorem wp_loop_ghost{P:Program}{Q:Exit→Act→World→Prop}{a:Act}{w:World}{c:Code}(I:Nat→Act→World→Prop){m:Nat}(h₀:I m a w)
  (round:∀m a w,I m a w→c.wp P (Exit.then (fun a' w'=>∃m',m'<m∧I m' a' w') Q) a w):(Code.loop c).wp P Q a w:=by
 intro b k cs
 have key:∀n a w,I n a w→∃e a' w',Q e a' w'∧Arrives P (lone (b.at a (.code c:: .inLoop c::k)) cs w) b k cs e a' w':=by
  intro n
  induction n using Nat.strongRecOn with
  |_ n ih=>
   intro a w hI
   obtain⟨e,a₁,w₁,hq,MH⟩:=round n a w hI b (.inLoop c::k) cs
   cases e with
   |normal=>
    obtain⟨m',aR,hI₁⟩:=hq
    obtain⟨e₂,a₂,w₂,hq₂,acc⟩:=ih m' aR a₁ w₁ hI₁
    exact⟨e₂,a₂,w₂,hq₂,.of_steps (Steps.trans MH (.one step_inLoop)) acc⟩
   |exit id=>exact⟨_,a₁,w₁,hq,.pass (x:=.inLoop c) rfl (fun _ _=>.inl (by simp)) MH⟩
   |goto l=>exact⟨_,a₁,w₁,hq,.pass (x:=.inLoop c) rfl (fun _ _=>.inl (by simp)) MH⟩
   |ret=>exact⟨_,a₁,w₁,hq,.pass (x:=.inLoop c) rfl (fun _ _=>.inl (by simp)) MH⟩
   |panic ch=>exact⟨_,a₁,w₁,hq,.pass (x:=.inLoop c) rfl (fun _ _=>.inl (by simp)) MH⟩
   |outgrown=>exact⟨_,a₁,w₁,hq,.pass (x:=.inLoop c) rfl (fun _ _=>.inl (by simp)) MH⟩
 obtain⟨e,a',w',hq,MH⟩:=key _ a w h₀
 exact⟨e,a',w',hq,.of_steps (.one step_loop) MH⟩
theorem Lx{P:Program}{n:Nat}(hm:P.follows .mixedOrders=true):∀ (c:Code) (an:List TW) (s:S) (Tu:List TW),wg P n c an=some (s,Tu)→
  ∀ (env:Env) (a:Act) (w:World) (Kn:Env→Hp→Prop) (Kx:Nat→Env→Hp→Prop) (Kr:Env→Hp→Prop) (Q:Exit→Act→World→Prop),Holds env a n→vc P s env w.heap Kn Kx Kr→
   (∀bh a' w',bZ w w'→Holds bh a' n→Kn bh w'.heap→Q .normal a' w')→
   (∀i bh a' w',bZ w w'→Holds bh a' n→Kx i bh w'.heap→Q (.exit i) a' w')→
   (∀bh a' w',bZ w w'→Holds bh a' n→Kr bh w'.heap→Q .ret a' w')→c.wp P Q a w:=by
 intro c
 induction c with
 |skip=>
  intro an s Tu hd env a w Kn Kx Kr Q hh h hn hx hr
  simp only[wg,ame,Prod.mk.injEq]at hd
  obtain⟨rfl,rfl⟩:=hd
  exact wp_skip (hn env a w (bZ.refl w) hh h)
 |region id ops draw=>
  intro an s Tu hd env a w Kn Kx Kr Q hh h hn hx hr
  unfold wg at hd
  split at hd
  ·cases hd
  ·rename_i aN q x tr an0
   split at hd
   ·cases hd
   ·rename_i ss hss
    split at hd
    ·rename_i t ht
     split at hd
     ·rename_i hc
      obtain⟨rfl,h1,h2,h3⟩:=hc
      cases Vz:attach ss t with
      |none=>rw[Vz]at hd;cases hd
      |some ts=>
       rw[Vz]at hd
       simp only[Option.map_some,ame,Prod.mk.injEq]at hd
       obtain⟨rfl,rfl⟩:=hd
       have hl:∀k,ops.toList[k]? =ops[0+k]? :=fun k=>by simp
       have hQ:∀a' w',bZ w w'→(∃bh,Holds bh a' n∧Kn (Env.aN bh aN) w'.heap)→Q .normal a' w':=fun a' w' hs ⟨bh,rA,hk⟩=>hn _ a' w' hs (rA.aN aN) hk
       have ce:=Oy (P:=P) (ops:=ops) (n:=n) ops.toList 0 ss hl hss
       obtain⟨Inv,hI,h⟩:=h
       have h4:=MG (P:=P) (ops:=ops) (n:=n) (q:=q) (Inv:=Inv) (ss:=ss) (fun k s hk=>by have:=ce k s hk;simpa using this) t ts Vz env a w.heap hh h
       exact GH (K:=fun a' H'=>∃bh,Holds bh a' n∧Kn (Env.aN bh aN) H') hm h1 h2 h3 hI hQ (by simpa[N0]using h4)
     ·cases hd
    ·cases hd
  ·rename_i aN q an0
   split at hd
   ·cases hd
   ·rename_i ss hss
    split at hd
    ·rename_i acd
     simp only[ame,Prod.mk.injEq]at hd
     obtain⟨rfl,rfl⟩:=hd
     have hl:∀k,ops.toList[k]? =ops[0+k]? :=fun k=>by simp
     have hQ:∀a' w',bZ w w'→(∃bh,Holds bh a' n∧Kn (Env.aN bh aN) w'.heap)→Q .normal a' w':=fun a' w' hs ⟨bh,rA,hk⟩=>hn _ a' w' hs (rA.aN aN) hk
     cases draw with
     |false=>
      have h1:=Ow (P:=P) (ops:=ops) (n:=n) ops.toList 0 ss hl hss env a w.heap hh h
      refine GD (K:=fun a' H'=>∃bh,Holds bh a' n∧Kn (Env.aN bh aN) H') hQ ?_
      rw[List.range_eq_range']
      simpa[N0]using h1
     |true=>
      obtain⟨h1,h2,h3⟩:=acd.resolve_left (by simp)
      have h4:=Ox (P:=P) (ops:=ops) (n:=n) (cls:=Tr ss) ops.toList 0 ss hl hss (fun k s hk=>by simp[Tr,hk]) env a w.heap hh h
      refine GC (K:=fun a' H'=>∃bh,Holds bh a' n∧Kn (Env.aN bh aN) H') hm h1 h2 h3 hQ ?_
      rw[List.range_eq_range']
      simpa[N0]using h4
    ·cases hd
 |seq x y ihx ihy=>
  intro an s Tu hd env a w Kn Kx Kr Q hh h hn hx hr
  unfold wg at hd
  split at hd
  ·cases hd
  ·rename_i sx X4 X5
   split at hd
   ·cases hd
   ·rename_i sy an2 hdy
    simp only[ame,Prod.mk.injEq]at hd
    obtain⟨rfl,rfl⟩:=hd
    refine wp_seq (ihx an sx X4 X5 env a w _ Kx Kr _ hh h ?_ ?_ ?_)
    ·intro bh a' w' hs rA hk
     exact ihy X4 sy _ hdy bh a' w' Kn Kx Kr Q rA hk (fun e b v Fo=>hn e b v (hs.trans Fo)) (fun i e b v Fo=>hx i e b v (hs.trans Fo)) (fun e b v Fo=>hr e b v (hs.trans Fo))
    ·intro i bh a' w' hs rA hk;exact hx i bh a' w' hs rA hk
    ·intro bh a' w' hs rA hk;exact hr bh a' w' hs rA hk
 |cond c x y ihx ihy=>
  intro an s Tu hd env a w Kn Kx Kr Q hh h hn hx hr
  unfold wg at hd
  split at hd
  ·cases hd
  ·rename_i sx X4 X5
   split at hd
   ·cases hd
   ·rename_i sy an2 hdy
    simp only[ame,Prod.mk.injEq]at hd
    obtain⟨rfl,rfl⟩:=hd
    rw[U5]at h
    unfold HM at h
    split at h
    ·rename_i v hv
     obtain⟨b,hb,h2⟩:=Bo h
     subst hb
     have hc:=hh.xO _ _ hv
     refine wp_cond_split hc (fun hb=>?_) (fun hb=>?_)
     ·subst hb;exact ihx an sx X4 X5 env a w Kn Kx Kr Q hh h2 hn hx hr
     ·subst hb;exact ihy X4 sy _ hdy env a w Kn Kx Kr Q hh h2 hn hx hr
    ·exact h.elim
 |block id x ih=>
  intro an s Tu hd env a w Kn Kx Kr Q hh h hn hx hr
  unfold wg at hd
  split at hd
  ·cases hd
  ·rename_i sx X4 X5
   simp only[ame,Prod.mk.injEq]at hd
   obtain⟨rfl,rfl⟩:=hd
   refine wp_block (ih an sx _ X5 env a w Kn _ Kr _ hh h (fun e b v hs rA hk=>hn e b v hs rA hk) ?_ (fun e b v hs rA hk=>hr e b v hs rA hk))
   intro i bh a' w' hs rA hk
   show if i=id then Q .normal a' w' else Q (.exit i) a' w'
   by_cases e:i=id
   ·subst e
    simp only[beq_self_eq_true,Hv]at hk
    rw[if_pos rfl]
    exact hn bh a' w' hs rA hk
   ·have:(i==id)=false:=by simpa using e
    simp only[this,Hv]at hk
    rw[if_neg e]
    exact hx i bh a' w' hs rA hk
 |loop x ih=>
  intro an s Tu hd env a w Kn Kx Kr Q hh h hn hx hr
  unfold wg at hd
  split at hd
  ·cases hd
  ·rename_i L q tr an0
   split at hd
   ·cases hd
   ·rename_i sx X4 X5
    simp only[ame,Prod.mk.injEq]at hd
    obtain⟨rfl,rfl⟩:=hd
    obtain⟨I,⟨m,h0⟩,round⟩:=h
    refine wp_loop_ghost (fun m a' w'=>bZ w w'∧∃bh,Holds bh a' n∧I m bh w'.heap) ⟨bZ.refl w,_,hh.aN L,h0⟩ ?_
    rintro m a' w' ⟨hs,bh,rA,hI⟩
    refine ih an0 sx _ X5 bh a' w' _ Kx Kr _ rA (round m bh w'.heap hI) ?_ ?_ ?_
    ·rintro e b v Fo hb ⟨m',aR,T6⟩
     exact⟨m',aR,hs.trans Fo,_,hb.aN L,T6⟩
    ·intro i e b v Fo hb hk;exact hx i e b v (hs.trans Fo) hb hk
    ·intro e b v Fo hb hk;exact hr e b v (hs.trans Fo) hb hk
 |exit id=>
  intro an s Tu hd env a w Kn Kx Kr Q hh h hn hx hr
  simp only[wg,ame,Prod.mk.injEq]at hd
  obtain⟨rfl,rfl⟩:=hd
  exact wp_exit (hx id env a w (bZ.refl w) hh h)
 |ret=>
  intro an s Tu hd env a w Kn Kx Kr Q hh h hn hx hr
  simp only[wg,ame,Prod.mk.injEq]at hd
  obtain⟨rfl,rfl⟩:=hd
  exact wp_ret (hr env a w (bZ.refl w) hh h)
 |refuse r=>
  intro an s Tu hd env a w Kn Kx Kr Q hh h hn hx hr
  simp only[wg,ame,Prod.mk.injEq]at hd
  obtain⟨rfl,rfl⟩:=hd
  exact h.elim
 |_=>intro an s Tu hd;simp[wg]at hd
inductive X6 where
 |tmp(t:Nat)
 |one(t:Nat)
 |agg(t n:Nat)
 deriving Inhabited
structure Fn where
 np:Nat
 res:List X6
 body:S
 deriving Inhabited
def xe(env:Env)(H:Hp):List X6→(List Value→Prop)→Prop
 | [],F=>F []
 | .tmp t::r,F=>aE (Env.find env t) fun v=>xe env H r fun vs=>F (v::vs)
 | .one t::r,F=>aE (Env.find env t) fun p=>zB p fun b o=>aE (H.rd b) fun l=>aE l[o]? fun v=>xe env H r fun vs=>F (v::vs)
 | .agg t n::r,F=>aE (Env.find env t) fun p=>zB p fun b o=>aE (H.rd b) fun l=>eB (o+n≤l.length) (xe env H r fun vs=>F (.agg ((l.drop o).take n).toArray::vs))
@[go_sem ↓] theorem acg(env:Env)(H:Hp)(F:List Value→Prop):xe env H [] F=F []:=(rfl)
@[go_sem ↓] theorem ach(env:Env)(H:Hp)(t:Nat)(r:List X6)(F:List Value→Prop):xe env H (.tmp t::r) F=aE (Env.find env t) fun v=>xe env H r fun vs=>F (v::vs):=(rfl)
@[go_sem ↓] theorem aci(env:Env)(H:Hp)(t:Nat)(r:List X6)(F:List Value→Prop):
  xe env H (.one t::r) F=aE (Env.find env t) fun p=>zB p fun b o=>aE (H.rd b) fun l=>aE l[o]? fun v=>xe env H r fun vs=>F (v::vs):=(rfl)
@[go_sem ↓] theorem acj(env:Env)(H:Hp)(t n:Nat)(r:List X6)(F:List Value→Prop):
  xe env H (.agg t n::r) F=aE (Env.find env t) fun p=>zB p fun b o=>aE (H.rd b) fun l=>eB (o+n≤l.length) (xe env H r fun vs=>F (.agg ((l.drop o).take n).toArray::vs)):=(rfl)
def Ni:List Value→Value
 | [v]=>v
 |vs=>.tuple vs.toArray
@[go_sem] theorem adZ(v:Value):Ni [v]=v:=(rfl)
@[go_sem] theorem ad0:Ni []= .tuple [].toArray:=(rfl)
@[go_sem] theorem ad1(v u:Value)(r:List Value):Ni (v::u::r)= .tuple (v::u::r).toArray:=(rfl)
def nl:Nat→List Value→Env
 |_,[]=>[]
 |i,v::r=>(i,v)::nl (i+1) r
@[go_sem] theorem VW(i:Nat):nl i []=[]:=(rfl)
@[go_sem] theorem U6(i:Nat)(v:Value)(r:List Value):nl i (v::r)=(i,v)::nl (i+1) r:=(rfl)
def Fn.vc(P:Program)(F:Fn)(args:List Value)(H:Hp)(K:Value→Hp→Prop):Prop:=
 args.length=F.np∧Go.Vc.vc P F.body (nl 0 args) H (fun env H=>xe env H F.res fun vs=>K (Ni vs) H) (fun _ _ _=>False) (fun env H=>xe env H F.res fun vs=>K (Ni vs) H)
def qv(P:Program):List ResultVar→Option (List X6)
 | []=>some []
 | .tmp t::r=>(qv P r).map (.tmp t:: ·)
 | .cell t T::r=>if(P.info? T).isSome∧(P.underlying T).isSome then(qv P r).map ((if fD P T then .agg t (P.cellsOf T)else .one t):: ·)else none
def gG(P:Program)(f:FuncId)(an:List TW):Option Fn:=
 match P.funcs[f]? with
 |none=>none
 |some fn=>
  match fn.body with
  |none=>none
  |some c=>
   match wg P fn.ntmps c an with
   |some (s,[])=>if fn.params.size≤fn.ntmps then(qv P fn.results.toList).map fun rs=>⟨fn.params.size,rs,s⟩else none
   |_=>none
def DO(tmps:Array Value):ResultVar→Sem Value
 | .tmp t=>pure (tmps.getD t undef)
 | .cell p t=>do loadVar t (←asAddr (tmps.getD p undef))
theorem Ck{P:Program}{w:World}{env:Env}{a:Act}{n:Nat}(hh:Holds env a n):∀ (rs:List ResultVar) (l:List X6) (F:List Value→Prop),qv P rs=some l→xe env w.heap l F→
  ∃vs,F vs∧(rs.mapM (DO a.tmps)).run P w= .ok vs w:=by
 intro rs
 induction rs with
 |nil=>intro l F hl h;simp only[qv,ame]at hl;subst hl;exact⟨[],h,rfl⟩
 |cons r rs ih=>
  intro l F hl h
  cases r with
  |tmp t=>
   unfold qv at hl
   cases hr:qv P rs with
   |none=>rw[hr]at hl;cases hl
   |some l'=>
    rw[hr]at hl
    simp only[Option.map_some,ame]at hl
    subst hl
    obtain⟨v,hv,h⟩:=aD h
    obtain⟨vs,hF,rK⟩:=ih l' _ hr h
    have e:a.tmps.getD t undef=v:=by simp[hh.Da t v hv]
    exact⟨v::vs,hF,by rw[List.mapM_cons];simp only[DO,Sem.run_bind,Sem.run_pure,Result.andThen_ok,e,rK]⟩
  |cell t T=>
   unfold qv at hl
   split at hl
   ·rename_i hc
    cases hr:qv P rs with
    |none=>rw[hr]at hl;cases hl
    |some l'=>
     rw[hr]at hl
     simp only[Option.map_some,ame]at hl
     subst hl
     cases hb:fD P T
     ·rw[hb]at h
      obtain⟨p,hp,h⟩:=aD h
      obtain⟨b,o,rfl,h⟩:=fN h
      obtain⟨lb,HS,h⟩:=aD h
      obtain⟨v,hv,h⟩:=aD h
      obtain⟨vs,hF,rK⟩:=ih l' _ hr h
      have e:a.tmps.getD t undef= .pointer (some ⟨b,o,none⟩):=by simp[hh.Da t _ hp]
      exact⟨v::vs,hF,by rw[List.mapM_cons];simp only[DO,Sem.run_bind,Sem.run_pure,Result.andThen_ok,e,asAddr,(mi hc.1 hc.2 HS).2 hb v hv,rK]⟩
     ·rw[hb]at h
      obtain⟨p,hp,h⟩:=aD h
      obtain⟨b,o,rfl,h⟩:=fN h
      obtain⟨lb,HS,h⟩:=aD h
      obtain⟨hn,h⟩:=h.out
      obtain⟨vs,hF,rK⟩:=ih l' _ hr h
      have e:a.tmps.getD t undef= .pointer (some ⟨b,o,none⟩):=by simp[hh.Da t _ hp]
      exact⟨_,hF,by rw[List.mapM_cons];simp only[DO,Sem.run_bind,Sem.run_pure,Result.andThen_ok,e,asAddr,(mi hc.1 hc.2 HS).1 hb hn,rK]⟩
   ·cases hl
theorem Jq:∀ (args:List Value) (i k:Nat) (v:Value),Env.find (nl i args) k=some v→i≤k∧args[k - i]? =some v:=by
 intro args
 induction args with
 |nil=>intro i k v h;cases h
 |cons x r ih=>
  intro i k v h
  simp only[nl,Env.find]at h
  by_cases e:i=k
  ·subst e
   simp at h
   subst h
   exact⟨ami _,by simp⟩
  ·have:(i==k)=false:=by simpa using e
   rw[this]at h
   obtain⟨h1,h2⟩:=ih (i+1) k v h
   refine⟨by omega,?_⟩
   rw[show k - i=(k - (i+1))+1 by omega,amY]
   exact h2
theorem RE{P:Program}(hm:P.follows .mixedOrders=true){f:FuncId}{an:List TW}{F:Fn}(hd:gG P f an=some F){args:List Value}{H:Hp}{K:Value→Hp→Prop}
  (h:F.vc P args H K):ah P f args H K:=by
 unfold gG at hd
 split at hd
 ·cases hd
 ·rename_i fn hf
  split at hd
  ·cases hd
  ·rename_i c hb
   split at hd
   ·rename_i s hs
    split at hd
    ·rename_i zU
     cases hr:qv P fn.results.toList with
     |none=>rw[hr]at hd;cases hd
     |some rs=>
      rw[hr]at hd
      simp only[Option.map_some,ame]at hd
      subst hd
      obtain⟨bm,h⟩:=h
      simp only at bm h
      intro w hw
      subst hw
      refine calls_of_wp hf hb ?_
      have hh:Holds (nl 0 args) {tmps:=args.toArray++Array.replicate (fn.ntmps - args.toArray.size) undef,defers:=[]} fn.ntmps:=by
       refine⟨by simp;omega,rfl,fun k v hk=>?_⟩
       obtain⟨_,h2⟩:=Jq args 0 k v hk
       have aR:k<args.length:=by
        rcases anh k args.length with h'|h'
        ·exact h'
        ·simp[amk h']at h2
       rw[ans (by simpa using aR)]
       simpa using h2
      have Gh:∀bh a' w',bZ w w'→Holds bh a' fn.ntmps→xe bh w'.heap rs (fun vs=>K (Ni vs) w'.heap)→
        a'.defers=[]∧∃v,(results fn a'.tmps).run P w'= .ok v w'∧(∃ZW,Ending.returned v=Ending.returned ZW∧bZ w w'∧K ZW w'.heap):=by
       intro bh a' w' MO rA hk
       obtain⟨vs,hF,rK⟩:=Ck (P:=P) rA fn.results.toList rs _ hr hk
       refine⟨rA.defers,Ni vs,?_,_,rfl,MO,hF⟩
       change (do let vs ←fn.results.mapM (DO a'.tmps);pure (if h:vs.size=1 then vs[0]else .tuple vs):Sem Value).run P w'=_
       rw[Array.mapM_eq_mapM_toList]
       simp only[Sem.run_bind,Sem.run_map,rK,Result.andThen_ok,Sem.run_pure]
       congr 1
       cases vs with
       |nil=>rfl
       |cons x r=>cases r with
        |nil=>rfl
        |cons y r=>simp[Ni]
      refine Lx hm c an s [] hs _ _ w _ _ _ _ hh h ?_ ?_ ?_
      ·exact fun bh a' w' MO rA hk=>Gh bh a' w' MO rA hk
      ·exact fun _ _ _ _ _ _ hk=>hk.elim
      ·exact fun bh a' w' MO rA hk=>Gh bh a' w' MO rA hk
    ·cases hd
   ·cases hd
end Go.Vc

namespace Go.Vc
theorem wrap64{n:Int}(h0: -9223372036854775808≤n)(h1:n≤9223372036854775807):IntKind.i64.wrap n=n:=by
 have e:(2^IntKind.i64.bits:Int)=18446744073709551616:=rfl
 have e':(2^ (IntKind.i64.bits - 1):Int)=9223372036854775808:=rfl
 unfold IntKind.wrap
 simp only[e,e',IntKind.signed,aom,amQ]
 split<;>omega
theorem F2{n:Int}(h0:0≤n)(h1:n≤18446744073709551615):IntKind.u64.wrap n=n:=by
 have e:(2^IntKind.u64.bits:Int)=18446744073709551616:=rfl
 unfold IntKind.wrap
 simp only[e,IntKind.signed,Bool.false_and]
 rw[if_neg (by simp)];omega
theorem Ug{n:Int}(h0:0≤n)(h1:n≤4294967295):IntKind.u32.wrap n=n:=by
 have e:(2^IntKind.u32.bits:Int)=4294967296:=rfl
 unfold IntKind.wrap
 simp only[e,IntKind.signed,Bool.false_and]
 rw[if_neg (by simp)];omega
def Sl(H:Hp)(size:Nat)(v:Value)(n:Nat)(xs:List Value)(fp:Option Nat):Prop:=
 xs.length=n*size∧
 match fp with
 |none=>n=0∧v= .slice none 0 0
 |some b=>∃l c,v= .slice (some ⟨b,0,none⟩) n c∧H.own b=some l∧n≤c∧c*size≤l.length∧l.take (n*size)=xs
theorem Sl.nil(H:Hp)(size:Nat):Sl H size (.slice none 0 0) 0 [] none:=⟨by simp,rfl,rfl⟩
theorem Sl.ext{H H':Hp}{size n:Nat}{v:Value}{xs:List Value}{fp:Option Nat}{S:Nat→Prop}(h:Sl H size v n xs fp)(e:ai S H H')(hs:∀b,fp=some b→¬S b):Sl H' size v n xs fp:=by
 obtain⟨hl,h⟩:=h
 refine⟨hl,?_⟩
 cases fp with
 |none=>exact h
 |some b=>
  obtain⟨l,c,h1,h2,h3⟩:=h
  exact⟨l,c,h1,e.own h2 (hs b rfl),h3⟩
theorem Sl.lt{H:Hp}{size n:Nat}{v:Value}{xs:List Value}{b:Nat}(h:Sl H size v n xs (some b)):b<H.size:=by
 obtain⟨_,l,c,_,h2,_⟩:=h
 exact aO h2
theorem Sl.lit(H:Hp)(T:TypeId)(size n:Nat)(xs:List Value)(hx:xs.length=n*size):Sl (H.new T xs) size (.slice (some ⟨H.size,0,none⟩) n n) n xs (some H.size):=
 ⟨hx,xs,n,rfl,aG H T xs,ami _,by omega,by rw[←hx];simp⟩
theorem Sl.dE{H:Hp}{T:TypeId}{size n b:Nat}{xs:List Value}(hx:xs.length=n*size)(hb:b=H.size):Sl (H.new T xs) size (.slice (some ⟨b,0,none⟩) n n) n xs (some b):=
 hb▸Sl.lit H T size n xs hx
def ep(H:Hp)(size:Nat)(v:Value)(n:Nat)(xs:List Value):Prop:=
 xs.length=n*size∧((n=0∧∃a c,v= .slice a 0 c)∨∃b o c l,v= .slice (some ⟨b,o,none⟩) n c∧H.rd b=some l∧o+n*size≤l.length∧(l.drop o).take (n*size)=xs)
theorem Sl.rd{H:Hp}{size n:Nat}{v:Value}{xs:List Value}{fp:Option Nat}(h:Sl H size v n xs fp):ep H size v n xs:=by
 obtain⟨hl,h⟩:=h
 refine⟨hl,?_⟩
 cases fp with
 |none=>exact .inl ⟨h.1,none,0,h.2⟩
 |some b=>
  obtain⟨l,c,h1,h2,h3,h4,h5⟩:=h
  refine .inr ⟨b,0,c,l,h1,ae h2,?_,by simpa using h5⟩
  have:=ana size h3
  omega
theorem ep.rowOf{H:Hp}{size n:Nat}{v:Value}{xs:List Value}{F:Nat→List Value→Prop}(h:ep H size v n xs)(hf:F n xs):rowOf H size v F:=by
 obtain⟨hl,⟨rfl,a,c,rfl⟩| ⟨b,o,c,l,rfl,h2,h3,h4⟩⟩:=h
 ·have:xs=[]:=amD.1 (by omega)
  subst this
  exact hf
 ·by_cases hn:n=0
  ·subst hn
   have:xs=[]:=amD.1 (by omega)
   subst this
   exact hf
  ·have e0:(n==0)=false:=by simpa using hn
   show Hv (n==0) _ _
   rw[e0]
   show aE (H.rd b) _
   rw[h2]
   exact⟨h3,by rw[h4];exact hf⟩
theorem ep.ext{H H':Hp}{size n:Nat}{v:Value}{xs:List Value}{S:Nat→Prop}(h:ep H size v n xs)(e:ai S H H')(hs:∀b,b<H.size→¬S b):ep H' size v n xs:=by
 obtain⟨hl,h| ⟨b,o,c,l,rfl,h2,h3⟩⟩:=h
 ·exact⟨hl,.inl h⟩
 ·exact⟨hl,.inr ⟨b,o,c,l,rfl,e.rd h2 (hs b (Pa h2)),h3⟩⟩
theorem ep.fresh{H H':Hp}{size n:Nat}{v:Value}{xs:List Value}(h:ep H size v n xs)(e:ax H H'):ep H' size v n xs:=h.ext e fun _ _ h=>h
theorem MI{l xs new:List Value}{p:Nat}(hx:l.take p=xs)(hp:xs.length=p)(hn:p+new.length≤l.length):(bq l p new).take (p+new.length)=xs++new:=by
 apply amN
 intro i
 by_cases hi:i<p+new.length
 ·rw[amA hi,getElem?_splice new l p i hn]
  by_cases h1:p≤i
  ·rw[if_pos ⟨h1,hi⟩,amw (by omega),hp]
  ·rw[if_neg (fun h=>h1 h.1),amn (by omega),←hx,amA (by omega)]
 ·rw[amk (by simp;omega),amk (by simp;omega)]
theorem Sl.append{H:Hp}{T size bytes n m:Nat}{z:List Value}{s x:Value}{xs ys:List Value}{fp:Option Nat}{K:Value→Hp→Prop}(h:Sl H size s n xs fp)(hx:ep H size x m ys)
  (hz:z.length=size)(h1:j5 ys)(hb:(n+m)*bytes≤2^47)
  (hk:∀v' H' fL,Sl H' size v' (n+m) (xs++ys) fL→ai (fun b=>fp=some b) H H'→(fL=fp∨∃b,fL=some b∧H.size≤b∧b<H'.size)→K v' H'):
  lR T size bytes z s x H K:=by
 obtain⟨hl,h⟩:=h
 have key:∀base c,s= .slice base n c→(∀b,base=some b→fp≠none)→lR T size bytes z s x H K:=by
  intro base c hs ah4
  subst hs
  refine ep.rowOf hx (F:=fun m new=>(n+m≤c→m=0→K (.slice base n c) H)∧
   (n+m≤c→m≠0→xI base fun b o=>aE (KA (H.own b) (H.Dg b)) fun l=>eB (o+(n+m)*size≤l.length∧j5 new) (K (.slice base (n+m) c) (H.wr b (bq l (o+n*size) new))))∧
   (c<n+m→Builtin.nextslicecap (n+m) c*bytes≤2^48∧
    rowOf H size (.slice base n c) fun _ SK=>∀c',n+m≤c'→K (.slice (some ⟨H.size,0,none⟩) (n+m) c') (H.new T (SK++new++cR z (c' - (n+m)))))) ?_
  refine⟨fun zU hm=>?_,fun zU hm=>?_,fun aR=>⟨?_,?_⟩⟩
  ·subst hm
   have hy:ys=[]:=amD.1 (by have:=hx.1;omega)
   subst hy
   exact hk _ _ fp (by rw[amW];exact⟨by simpa using hl,h⟩) (ai.refl _ _) (.inl rfl)
  ·cases fp with
   |none=>
    obtain⟨rfl,hv⟩:=h
    injection hv with e1 e2 e3
    omega
   |some b=>
    obtain⟨l,c',hv,h2,h3,h4,h5⟩:=h
    injection hv with e1 e2 e3
    subst e1;subst e3
    show aE (KA (H.own b) (H.Dg b)) _
    rw[h2]
    have h6:=ana size zU
    refine⟨⟨by omega,h1⟩,?_⟩
    rw[al6]
    refine hk _ _ (some b) ⟨by simp[hl,hx.1,am6],_,c,rfl,aj h2,zU,by rw[nq];exact h4,?_⟩ ((ai.refl (fun x=>some b=some x) H).wr (fun _=>rfl) _) (.inl rfl)
    have:=MI (new:=ys) h5 hl (by rw[hx.1];rw[am6]at h6;omega)
    rw[hx.1]at this
    rw[am6];exact this
  ·have h2:Builtin.nextslicecap (n+m) c≤2*(n+m):=nextslicecap_le aR
   have h3:=ana bytes h2
   rw[Nat.mul_assoc]at h3
   omega
  ·refine ep.rowOf (n:=n) (xs:=xs) (Sl.rd (fp:=fp) ⟨hl,h⟩) ?_
   intro c' Le
   refine hk _ _ (some H.size) ⟨by simp[hl,hx.1,am6],_,c',rfl,aG _ _ _,Le,?_,?_⟩ ((ai.refl _ _).new _ _) (.inr ⟨_,rfl,ami _,by rw[au];omega⟩)
   ·simp only[amh,hl,hx.1,ET,hz]
    rw[←am6,←am6]
    exact Nat.le_of_eq (by congr 1;omega)
   ·rw[show(n+m)*size=(xs++ys).length by simp[hl,hx.1,am6]]
    exact List.take_left
 cases fp with
 |none=>exact key none 0 (by obtain⟨rfl,hv⟩:=h;exact hv) (fun b hb=>by cases hb)
 |some b=>
  obtain⟨l,c,hv,_⟩:=h
  exact key (some ⟨b,0,none⟩) c hv (fun _ _=>by simp)
theorem xY(l:List Value)(i n:Nat)(x:Value):(l.set i x).take n=(l.take n).set i x:=by
 apply amN
 intro k
 by_cases hk:k<n
 ·rw[amA hk]
  by_cases h:i=k
  ·subst h
   by_cases hl:i<l.length
   ·rw[amd hl,amd (by simp;omega)]
   ·rw[amk (by simp;omega),amk (by simp;omega)]
  ·rw[amc h,amc h,amA hk]
 ·rw[amk (by simp;omega),amk (by simp;omega)]
theorem Sl.vX{H:Hp}{n c s:Nat}{xs l:List Value}(h:Sl H 1 (.slice (some ⟨s,0,none⟩) n c) n xs (some s))(hl:H.own s=some l)(i:Nat)(x:Value):
  Sl (H.wr s (l.set i x)) 1 (.slice (some ⟨s,0,none⟩) n c) n (xs.set i x) (some s):=by
 obtain⟨h1,l',c',hv,h2,h3,h4,h5⟩:=h
 rw[hl]at h2
 injection h2 with h2
 subst h2
 injection hv with _ _ hc
 subst hc
 exact⟨by simpa using h1,_,c,rfl,aj hl,h3,by simpa using h4,by rw[xY,h5]⟩
theorem Sl.get{H:Hp}{n c s size:Nat}{xs l:List Value}(h:Sl H size (.slice (some ⟨s,0,none⟩) n c) n xs (some s))(hl:H.own s=some l){i:Nat}{x:Value}(hx:xs[i]? =some x):l[i]? =some x:=by
 obtain⟨h1,l',c',hv,h2,h3,h4,h5⟩:=h
 rw[hl]at h2
 injection h2 with h2
 subst h2
 rw[←h5,amE]at hx
 split at hx
 ·exact hx
 ·cases hx
def uT(es:List MapEntry)(i:Int):Option Value:=(es.find? fun e=>match e.key with| .int .i64 j=>i==j|_=>false).map (·.val)
def Dc(es:List MapEntry):Prop:=∃ks:List Int,es.map (·.key)=ks.map (Value.int .i64)∧ks.Nodup
def oH(H:Hp)(b:Nat)(f:Int→Option Value):Prop:=∃es k,H.mp b=some (es,k)∧Dc es∧∀i,uT es i=f i
theorem oH.new(H:Hp):oH H.fY H.size (fun _=>none):=⟨[],0,Ku H,⟨[],rfl,ani⟩,fun _=>rfl⟩
theorem oH.ext{H H':Hp}{b:Nat}{f:Int→Option Value}{S:Nat→Prop}(h:oH H b f)(e:ai S H H')(hs:¬S b):oH H' b f:=by
 obtain⟨es,k,h1,h2⟩:=h
 exact⟨es,k,e.mp h1 hs,h2⟩
theorem oH.lt{H:Hp}{b:Nat}{f:Int→Option Value}(h:oH H b f):b<H.size:=by
 obtain⟨es,k,h1,h2⟩:=h
 exact O7 h1
theorem iu(e:MapEntry)(es:List MapEntry)(j i:Int)(he:e.key= .int .i64 j):uT (e::es) i=if i=j then some e.val else uT es i:=by
 unfold uT
 rw[List.find?_cons]
 simp only[he]
 by_cases h:i=j
 ·simp[h]
 ·have:(i==j)=false:=by simpa using h
  rw[this,if_neg h]
theorem Bs{e:MapEntry}{es:List MapEntry}(h:Dc (e::es)):∃j,e.key= .int .i64 j∧Dc es∧∀x∈es,x.key≠ .int .i64 j:=by
 obtain⟨ks,h1,h2⟩:=h
 cases ks with
 |nil=>simp at h1
 |cons j ks=>
  simp only[amL,List.cons.injEq]at h1
  rw[amq]at h2
  refine⟨j,h1.1,⟨ks,h1.2,h2.2⟩,fun x hx hk=>h2.1 ?_⟩
  have hm:x.key∈es.map (·.key):=amJ.2 ⟨x,hx,rfl⟩
  rw[h1.2,hk]at hm
  obtain⟨y,hy,e⟩:=amJ.1 hm
  injection e with _ e
  exact e▸hy
theorem EE(i:Int):∀ (es:List MapEntry),Dc es→∀n:Nat,
  (uT es i=none∧ij .int (.int .i64 i) es n=some none)∨
  ∃j e,es[j]? =some e∧e.key= .int .i64 i∧uT es i=some e.val∧ij .int (.int .i64 i) es n=some (some (n+j,e.val)):=by
 intro es
 induction es with
 |nil=>intro _ n;exact .inl ⟨rfl,rfl⟩
 |cons e es ih=>
  intro h n
  obtain⟨j,hj,X7,aT⟩:=Bs h
  have hq:tq .int (.int .i64 i) e.key=some (decide (i=j)):=by rw[hj];simp[tq,bB]
  by_cases KZ:i=j
  ·subst KZ
   refine .inr ⟨0,e,rfl,hj,by rw[iu e es i i hj,if_pos rfl],?_⟩
   unfold ij
   rw[hq];simp
  ·have h2:ij .int (.int .i64 i) (e::es) n=ij .int (.int .i64 i) es (n+1):=by
    rw[ij,hq,amm KZ]
   have h3:uT (e::es) i=uT es i:=by rw[iu e es j i hj,if_neg KZ]
   rw[h2,h3]
   rcases ih X7 (n+1)with ⟨h4,h5⟩| ⟨k,e',h4,h5,h6,h7⟩
   ·exact .inl ⟨h4,h5⟩
   ·exact .inr ⟨k+1,e',by simpa using h4,h5,h6,by rw[h7];congr 3;omega⟩
theorem oH.look{H:Hp}{b:Nat}{f:Int→Option Value}(h:oH H b f)(i:Int)(F:Option Value→Prop):zM H .int (some b) (.int .i64 i) F=F (f i):=by
 obtain⟨es,k,h1,h2,h3⟩:=h
 unfold zM
 simp only[h1,qO]
 rcases EE i es h2 0 with ⟨h4,h5⟩| ⟨j,e,h4,h5,h6,h7⟩
 ·rw[h5,←h3 i,h4];rfl
 ·rw[h7,←h3 i,h6];rfl
def Ke(f:Int→Option Value)(i:Int)(v:Value):Int→Option Value:=fun j=>if j=i then some v else f j
def Nn(f:Int→Option Value)(i:Int):Int→Option Value:=fun j=>if j=i then none else f j
theorem MJ(es:List MapEntry)(e:MapEntry)(i j:Int)(hj:e.key= .int .i64 j)(hn:uT es j=none):uT (es++[e]) i=if i=j then some e.val else uT es i:=by
 unfold uT at*
 rw[List.find?_append]
 by_cases h:i=j
 ·subst h
  have hx:(es.find? fun e=>match e.key with| .int .i64 j=>i==j|_=>false)=none:=by simpa using hn
  rw[hx]
  simp[hj]
 ·rw[if_neg h]
  have:([e].find? fun e=>match e.key with| .int .i64 j=>i==j|_=>false)=none:=by simp[hj,h]
  rw[this]
  simp
theorem QX{es:List MapEntry}{i:Int}(h:uT es i=none):∀e∈es,e.key≠ .int .i64 i:=by
 intro e he hk
 unfold uT at h
 simp only[Option.map_eq_none_iff,List.find?_eq_none]at h
 have:=h e he
 simp[hk]at this
theorem KT{es:List MapEntry}(h:Dc es)(j:Nat)(e:MapEntry)(hj:es[j]? =some e)(v:Value)(i:Int)(hk:e.key= .int .i64 i):
  Dc (es.modify j fun x=>{x with key:=.int .i64 i,val:=v}):=by
 obtain⟨ks,h1,h2⟩:=h
 refine⟨ks,?_,h2⟩
 rw[←h1]
 apply amN
 intro n
 rw[amo,amo,List.getElem?_modify]
 by_cases hn:j=n
 ·subst hn;simp[hj,hk]
 ·simp[hn]
theorem MK:∀ (es:List MapEntry),Dc es→∀ (j:Nat) (e:MapEntry) (v:Value) (i:Int),es[j]? =some e→e.key= .int .i64 i→∀n,
  uT (es.modify j fun x=>{x with key:=.int .i64 i,val:=v}) n=if n=i then some v else uT es n:=by
 intro es
 induction es with
 |nil=>intro _ j e v i hj;simp at hj
 |cons x es ih=>
  intro h j e v i hj hk n
  obtain⟨q,hq,X7,aT⟩:=Bs h
  cases j with
  |zero=>
   simp only[amz,ame]at hj
   subst hj
   have:q=i:=by rw[hq]at hk;injection hk
   subst this
   rw[List.modify_zero_cons,iu _ es q n rfl,iu x es q n hq]
   split<;>rfl
  |succ j=>
   rw[List.modify_succ_cons,iu x _ q n hq,iu x es q n hq,ih X7 j e v i (by simpa using hj) hk n]
   by_cases h1:n=q
   ·subst h1
    have hm:e∈es:=amb (by simpa using hj)
    have:n≠i:=fun e'=>aT e hm (by rw[hk,e'])
    simp[this]
   ·simp[h1]
theorem Oz:∀ (es:List MapEntry),Dc es→∀ (j:Nat) (e:MapEntry) (i:Int),es[j]? =some e→e.key= .int .i64 i→Dc (es.eraseIdx j)∧∀n,uT (es.eraseIdx j) n=if n=i then none else uT es n:=by
 intro es
 induction es with
 |nil=>intro _ j e i hj;simp at hj
 |cons x es ih=>
  intro h j e i hj hk
  have h':=h
  obtain⟨q,hq,X7,aT⟩:=Bs h
  cases j with
  |zero=>
   simp only[amz,ame]at hj
   subst hj
   have:q=i:=by rw[hq]at hk;injection hk
   subst this
   refine⟨X7,fun n=>?_⟩
   rw[List.eraseIdx_zero,List.tail_cons,iu x es q n hq]
   by_cases hn:n=q
   ·subst hn
    rw[if_pos rfl]
    unfold uT
    simp only[Option.map_eq_none_iff,List.find?_eq_none]
    intro e' tL
    obtain⟨ks,h1,_⟩:=X7
    have hm:e'.key∈es.map (·.key):=amJ.2 ⟨e',tL,rfl⟩
    rw[h1]at hm
    obtain⟨y,_,ey⟩:=amJ.1 hm
    have:=aT e' tL
    rw[←ey]at this ⊢
    simp only[beq_iff_eq]
    intro e2
    exact this (by rw[e2])
   ·simp[hn]
  |succ j=>
   obtain⟨h1,h2⟩:=ih X7 j e i (by simpa using hj) hk
   have hm:e∈es:=amb (by simpa using hj)
   have hqi:q≠i:=fun e'=>aT e hm (by rw[hk,e'])
   refine⟨?_,fun n=>?_⟩
   ·obtain⟨ks,e1,e2⟩:=h1
    refine⟨q::ks,by rw[List.eraseIdx_cons_succ,amL,amL,hq,e1],?_⟩
    rw[amq]
    refine⟨fun cF=>?_,e2⟩
    have:Value.int .i64 q∈(es.eraseIdx j).map (·.key):=by rw[e1];exact amJ.2 ⟨q,cF,rfl⟩
    obtain⟨y,hy,ey⟩:=amJ.1 this
    exact aT y (List.mem_of_mem_eraseIdx hy) ey
   ·rw[List.eraseIdx_cons_succ,iu x _ q n hq,iu x es q n hq,h2 n]
    by_cases h3:n=q
    ·subst h3;simp[hqi]
    ·simp[h3]
theorem KU(n:Nat)(i:Int):Instr.sameBits (n+1) (.int .i64 i) (.int .i64 i)=true:=by simp[Instr.sameBits]
theorem oH.YA{H:Hp}{b:Nat}{f:Int→Option Value}(h:oH H b f){i:Int}{v:Value}{F:Hp→Prop}(hk:∀H',oH H' b (Ke f i v)→ai (fun x=>x=b) H H'→F H'):
  Sz H .int b (.int .i64 i) v F:=by
 obtain⟨es,k,h1,h2,h3⟩:=h
 unfold Sz
 simp only[h1,qO]
 have vW:∀VS k',ai (fun x=>x=b) H (H.EH b VS k'):=fun VS k'=>(ai.refl (fun x=>x=b) H).EH (fun _=>rfl) _ _
 rcases EE i es h2 0 with ⟨h4,h5⟩| ⟨j,e,h4,h5,h6,h7⟩
 ·rw[h5]
  refine⟨rfl,hk _ ⟨_,_,nZ h1,?_,fun n=>?_⟩ (vW _ _)⟩
  ·obtain⟨ks,e1,e2⟩:=h2
   refine⟨ks++[i],by simp[Ma,e1],?_⟩
   rw[amT]
   refine⟨e2,by simp,fun a ha c hc hac=>?_⟩
   simp only[amg]at hc
   subst hc;subst hac
   have:Value.int .i64 a∈es.map (·.key):=by rw[e1];exact amJ.2 ⟨a,ha,rfl⟩
   obtain⟨y,hy,ey⟩:=amJ.1 this
   exact QX h4 y hy ey
  ·rw[Ma,MJ es _ n i rfl h4]
   unfold Ke
   split<;>first|rfl|exact h3 n
 ·rw[h7]
  refine⟨?_,hk _ ⟨_,_,nZ h1,KT h2 _ e (by simpa using h4) _ _ h5,fun n=>?_⟩ (vW _ _)⟩
  ·simp only[Gb,al6,h4,Option.map_some,Option.getD_some,h5]
   exact KU 9999 i
  ·rw[Ma,al6,MK es h2 j e v i h4 h5 n]
   unfold Ke
   split<;>first|rfl|exact h3 n
theorem oH.del{H:Hp}{b:Nat}{f:Int→Option Value}(h:oH H b f){i:Int}{F:Hp→Prop}(hk:∀H',oH H' b (Nn f i)→ai (fun x=>x=b) H H'→F H'):
  XP H .int b (.int .i64 i) F:=by
 obtain⟨es,k,h1,h2,h3⟩:=h
 unfold XP
 simp only[h1,qO]
 have vW:∀VS k',ai (fun x=>x=b) H (H.EH b VS k'):=fun VS k'=>(ai.refl (fun x=>x=b) H).EH (fun _=>rfl) _ _
 rcases EE i es h2 0 with ⟨h4,h5⟩| ⟨j,e,h4,h5,h6,h7⟩
 ·rw[h5]
  refine hk _ ⟨_,_,nZ h1,h2,fun n=>?_⟩ (vW _ _)
  rw[Hx,h3 n]
  unfold Nn
  by_cases hn:n=i
  ·subst hn;rw[if_pos rfl,←h3 n];exact h4
  ·rw[if_neg hn]
 ·rw[h7]
  obtain⟨e1,e2⟩:=Oz es h2 j e i h4 h5
  refine hk _ ⟨_,_,nZ h1,by rw[Hx,al6];exact e1,fun n=>?_⟩ (vW _ _)
  rw[Hx,al6,e2 n]
  unfold Nn
  split<;>first|rfl|exact h3 n
end Go.Vc

namespace Go.Vc
section
variable {P : Program} {ev : Ev} {H : Hp} {K K' : Value → Hp → Prop}
theorem OA{s:Shape}{r:Option Nat}{k:Value}{F G:Option Value→Prop}(h:zM H s r k F)(hk:∀x,F x→G x):zM H s r k G:=by
 unfold zM at*
 cases r with
 |none=>exact hk _ h
 |some b=>exact am h fun m h=>am h fun x=>hk _
theorem KV{T size bytes:Nat}{z:List Value}{s x:Value}(h:lR T size bytes z s x H K)(hk:∀v H',K v H'→K' v H'):lR T size bytes z s x H K':=by
 refine oh h fun base n c h=>Br h fun m new h=>?_
 obtain⟨h1,h2,h3⟩:=h
 exact⟨fun a b=>hk _ _ (h1 a b),fun a b=>Bq (h2 a b) fun b o h=>am h fun l h=>bO h (hk _ _),fun a=>⟨(h3 a).1,Br (h3 a).2 fun n l h c' hc=>hk _ _ (h c' hc)⟩⟩
theorem HO(i:de)(h:i.vc P ev H K)(hk:∀v H',K v H'→K' v H'):i.vc P ev H K':=by
 cases hc:i.cls with
 |pure=>exact Pg i hc h hk
 |quiet=>
  cases i<;>simp[de.cls]at hc<;>simp only[de.vc]at h ⊢
  ·exact am h fun v h=>tJ h fun b o h=>am h fun l h=>am h fun v=>hk _ _
  ·exact am h fun v h=>tJ h fun b o h=>am h fun l h=>bO h (hk _ _)
  ·exact am h fun v h=>am h fun v h=>yf h fun r h=>bO h fun h=>OA h fun x=>hk _ _
  ·refine am h fun v h=>yf h fun r h=>?_
   unfold Mq at*
   cases r with
   |none=>exact hk _ _ h
   |some b=>exact am h fun m=>hk _ _
  ·exact am h fun v h=>EY h fun l=>hk _ _
 |IG=>
  cases i<;>simp[de.cls]at hc<;>simp only[de.vc]at h ⊢
  ·exact am h fun v=>hk _ _
  ·exact hk _ _ h
  ·exact HL h fun l=>hk _ _
  ·exact am h fun v h=>tJ h fun b o h=>am h fun v h=>am h fun l h=>bO h fun h=>bO h fun h=>bO h (hk _ _)
  ·exact hk _ _ h
  ·exact am h fun v h=>am h fun v h=>nk h fun n h=>nk h fun c h=>bO h (hk _ _)
  ·exact am h fun v h=>am h fun v h=>am h fun v h=>yf h fun r h=>am h fun b h=>bO h fun h=>am h fun es h=>am h fun x h=>bO h (hk _ _)
  ·exact og h fun l h=>ah.mono h hk
  ·refine am h fun v h=>og h fun l h=>?_
   unfold XR at*
   split at h
   ·exact⟨h.1,h.2.mono hk⟩
   ·exact h.elim
  ·refine am h fun v h=>og h fun l h=>?_
   obtain⟨T,v,f,rv,e,hm,hc⟩:=h
   exact⟨T,v,f,rv,e,hm,hc.mono hk⟩
  ·exact am h fun v h=>am h fun v h=>KV h hk
  ·exact am h fun v h=>am h fun v h=>yf h fun r h=>am h fun b h=>bO h fun h=>am h fun es h=>am h fun x=>hk _ _
  ·exact am h fun v h=>oh h fun a n c h=>by
    rcases h with ⟨h1,h2⟩| ⟨h1,b,o,l,h2,h3,h4,h5,h6⟩
    ·exact .inl ⟨h1,hk _ _ h2⟩
    ·exact .inr ⟨h1,b,o,l,h2,h3,h4,h5,hk _ _ h6⟩
  ·refine am h fun v h=>?_
   unfold mh at*
   split at h
   ·exact fun c hc=>hk _ _ (h c hc)
   ·exact h.elim
  ·exact og h fun l h=>by obtain⟨v,h1,h2⟩:=h;exact⟨v,h1,hk _ _ h2⟩
theorem ML(s:gk)(h:s.vc P ev H K)(hk:∀v H',K v H'→K' v H'):s.vc P ev H K':=by
 unfold gk.vc at*
 cases hq:s.quiet
 ·rw[hq]at h;exact HO s.op h hk
 ·rw[hq]at h;obtain⟨v,h1,h2⟩:=h;exact⟨v,h1,hk _ _ h2⟩
theorem Pj{o:Option Value}{F F':Bool→Prop}{N N':Prop}(h:gV o F N)(hf:∀b,F b→F' b)(hn:N→N'):gV o F' N':=by
 rcases Gd h with ⟨b,rfl,h⟩| ⟨vs,rfl,h⟩
 ·exact hf b h
 ·exact hn h
theorem Dd{b:Bool}{A A' B B':Prop}(h:Hv b A B)(ha:A→A')(hb:B→B'):Hv b A' B':=by
 cases b
 ·exact hb h
 ·exact ha h
theorem OB{F F':Env→Hp→Prop}(hk:∀e H,F e H→F' e H):∀ (l:List gk) (env:Env) (H:Hp),kN P F l env H→kN P F' l env H:=by
 intro l
 induction l with
 |nil=>intro env H h;exact hk _ _ h
 |cons s l ih=>
  intro env H h
  unfold kN at h ⊢
  cases hg:s.guard with
  |none=>rw[hg]at h;exact ML s h fun v H'=>ih _ _
  |some g=>
   rw[hg]at h
   exact Pj h (fun b h=>Dd h (fun h=>ML s h fun v H'=>ih _ _) (ih _ _)) (ih _ _)
theorem EF{s:gk}{env:Env}{F F' N N':Env→Prop}(h:Db s env F N)(hf:∀e,F e→F' e)(hn:∀e,N e→N' e):Db s env F' N':=by
 unfold Db at*
 cases hg:s.guard with
 |none=>rw[hg]at h;exact hf _ h
 |some g=>rw[hg]at h;exact Pj h (fun b h=>Dd h (hf _) (hn _)) (hn _)
theorem Tv{Inv:Hp→Prop}{F F':Env→Hp→Prop}(hk:∀e H,F e H→F' e H):∀ (t:Tt) (env:Env) (H:Hp),ED P Inv F t env H→ED P Inv F' t env H:=by
 intro t
 induction t with
 |done=>intro env H h;exact hk _ _ h
 |stop=>intro env H h;trivial
 |aW s t ih=>intro env H h;exact EF h (fun e h=>HO s.op h fun v H'=>ih _ _) (fun e=>ih _ _)
 |E8 s t ih=>intro env H h;exact EF h (fun e h=>by obtain⟨v,h1,h2⟩:=h;exact⟨v,h1,ih _ _ h2⟩) (fun e=>ih _ _)
 |aP s t r ih Z9=>intro env H h;exact⟨EF h.1 (fun e h=>HO s.op h fun v H' h=>bO h (ih _ _)) (fun e=>ih _ _),Z9 _ _ h.2⟩
theorem EU:∀ (s:S) (env:Env) (H:Hp) (Kn Ri:Env→Hp→Prop) (Kx Rj:Nat→Env→Hp→Prop) (Kr Rk:Env→Hp→Prop),(∀e H,Kn e H→Ri e H)→(∀i e H,Kx i e H→Rj i e H)→(∀e H,Kr e H→Rk e H)→
  vc P s env H Kn Kx Kr→vc P s env H Ri Rj Rk:=by
 intro s
 induction s with
 |skip=>intro env H Kn Ri Kx Rj Kr Rk hn hx hr h;exact hn _ _ h
 |ag ops aN=>intro env H Kn Ri Kx Rj Kr Rk hn hx hr h;exact OB (fun e H h=>hn _ _ h) ops env H h
 |qU t aN=>intro env H Kn Ri Kx Rj Kr Rk hn hx hr h;obtain⟨Inv,hI,h⟩:=h;exact⟨Inv,hI,Tv (fun e H h=>hn _ _ h) t env H h⟩
 |seq a b iha ihb=>intro env H Kn Ri Kx Rj Kr Rk hn hx hr h;exact iha env H _ _ _ _ _ _ (fun e H h=>ihb e H _ _ _ _ _ _ hn hx hr h) hx hr h
 |cond c x y ihx ihy=>
  intro env H Kn Ri Kx Rj Kr Rk hn hx hr h
  simp only[vc]at*
  unfold HM at*
  split at h
  ·exact HK h fun b h=>Dd h (ihx _ _ _ _ _ _ _ _ hn hx hr) (ihy _ _ _ _ _ _ _ _ hn hx hr)
  ·exact h.elim
 |cH id b ih=>intro env H Kn Ri Kx Rj Kr Rk hn hx hr h;exact ih env H _ _ _ _ _ _ hn (fun i e H h=>Dd h (hn _ _) (hx _ _ _)) hr h
 |loop L b ih=>
  intro env H Kn Ri Kx Rj Kr Rk hn hx hr h
  obtain⟨I,h0,round⟩:=h
  exact⟨I,h0,fun m env H hI=>ih env H _ _ _ _ _ _ (fun e H h=>h) hx hr (round m env H hI)⟩
 |exit id=>intro env H Kn Ri Kx Rj Kr Rk hn hx hr h;exact hx _ _ _ h
 |ret=>intro env H Kn Ri Kx Rj Kr Rk hn hx hr h;exact hr _ _ h
 |bad=>intro env H Kn Ri Kx Rj Kr Rk hn hx hr h;exact h.elim
def ZT(a b:S):S:=.seq a b
theorem WL{a b:S}{env:Env}{H:Hp}{Kn:Env→Hp→Prop}{Kx:Nat→Env→Hp→Prop}{Kr:Env→Hp→Prop}(M:Env→Hp→Prop)(h1:vc P a env H M Kx Kr)(h2:∀e H',M e H'→vc P b e H' Kn Kx Kr):vc P (ZT a b) env H Kn Kx Kr:=
 EU a env H _ _ _ _ _ _ h2 (fun _ _ _ h=>h) (fun _ _ h=>h) h1
end
end Go.Vc

namespace Go.Vc
def KW(P:Program)(T:TypeId)(name:String):Option (List FieldStep×Option (FuncId×Bool)):=
 ((P.info? T).bind fun i=>i.methods.find? (·.name==name)).map fun m=>(m.path.toList,m.func)
theorem xR{P:Program}{T:TypeId}{name:String}{p:List FieldStep}{f:Option (FuncId×Bool)}(h:KW P T name=some (p,f)):
  ∃i m,P.info? T=some i∧i.methods.find? (·.name==name)=some m∧m.path.toList=p∧m.func=f:=by
 unfold KW at h
 cases hi:P.info? T with
 |none=>rw[hi]at h;cases h
 |some i=>
  rw[hi]at h
  simp only[Option.bind_some]at h
  cases hm:i.methods.find? (·.name==name)with
  |none=>rw[hm]at h;cases h
  |some m=>
   rw[hm]at h
   simp only[Option.map_some,ame,Prod.mk.injEq]at h
   exact⟨i,m,rfl,hm,h.1,h.2⟩
def VX(P:Program)(T:TypeId)(name:String):Option FuncId:=
 match KW P T name,P.underlying T with
 |some ([],some (f,true)),some (.pointer _)=>if eV P f then some f else none
 |_,_=>none
theorem bF{P:Program}{H:Hp}{T:TypeId}{v:Value}{name:String}{f:FuncId}(h:VX P T name=some f):Tf P H T v name f v:=by
 unfold VX at h
 split at h
 ·rename_i f' e h1 hu
  split at h
  ·rename_i hc
   injection h with h
   subst h
   refine⟨hc,fun w hw=>?_⟩
   obtain⟨i,m,g1,g2,g3,g4⟩:=xR h1
   show(method ((P.types.size+99)+1) T v name).run P w=_
   unfold method
   simp[et g1,g2,g3,g4,follow,receiverAt,run_underlying hu,Place.get]
  ·cases h
 ·cases h
def Pk(P:Program)(T:TypeId)(name:String):Option (Nat×FuncId):=
 match KW P T name with
 |some ([s],some (f,true))=>
  match s.deref,P.underlying s.struct with
  |true,some (.struct fs)=>
   match fs[s.index]? with
   |some fd=>match P.underlying fd.type with
    |some (.pointer _)=>if(P.info? fd.type).isSome∧P.cellsOf fd.type≠0∧eV P f=true then some (fd.offset,f)else none
    |_=>none
   |none=>none
  |_,_=>none
 |_=>none
theorem FW{P:Program}{fd:Field}(hi:(P.info? fd.type).isSome=true)(h0:P.cellsOf fd.type≠0)(a:Addr)(w:World):(fieldPlace a fd).run P w= .ok (a.add fd.offset) w:=by
 simp[fieldPlace,bM hi,h0]
theorem ic{P:Program}{H:Hp}{T:TypeId}{b o off:Nat}{l:List Value}{rv:Value}{name:String}{f:FuncId}(h:Pk P T name=some (off,f))(hr:H.rd b=some l)(hv:l[o+off]? =some rv):
  Tf P H T (.pointer (some ⟨b,o,none⟩)) name f rv:=by
 unfold Pk at h
 split at h
 ·rename_i s f' h1
  split at h
  ·rename_i fs hd hs
   split at h
   ·rename_i fd hf
    split at h
    ·rename_i e hu
     split at h
     ·rename_i hc
      simp only[ame,Prod.mk.injEq]at h
      obtain⟨rfl,rfl⟩:=h
      refine⟨hc.2.2,fun w hw=>?_⟩
      subst hw
      obtain⟨i,m,g1,g2,g3,g4⟩:=xR h1
      have hus:(P.underlying fd.type).isSome=true:=by rw[hu];rfl
      have hag:fD P fd.type=false:=by unfold fD;rw[hu]
      have ack:=(mi (P:=P) (w:=w) (t:=fd.type) hc.1 hus hr).2 hag rv hv
      show(method ((P.types.size+99)+1) T _ name).run P w=_
      unfold method
      simp[et g1,g2,g3,g4,follow,run_underlying hs,hf,hd,Place.get,asAddr,FW hc.1 hc.2.1,receiverAt,run_underlying hu,AY,ack]
     ·cases h
    ·cases h
   ·cases h
  ·cases h
 ·cases h
theorem aaE{P:Program}{T:TypeId}{a:Addr}{name:String}{x:Nat×FuncId}{cap:Array Value}(h:Pk P T name=some x):PT P (.func (.method name) #[.iface T (.pointer (some a))] cap):=by
 unfold Pk at h
 split at h
 ·rename_i s f' h1
  split at h
  ·rename_i fs hd hs
   split at h
   ·rename_i fd hf
    refine .inr ⟨name,T,_,cap,rfl,fun w=>?_⟩
    obtain⟨i,m,g1,g2,g3,g4⟩:=xR h1
    show(nilAhead ((P.types.size+99)+1) T _ name).run P w=_
    unfold nilAhead
    simp[et g1,g2,g3,g4,followBlind,run_underlying hs,hf,hd]
   ·cases h
  ·cases h
 ·cases h
theorem jj.mono{P:Program}{recv:Value}{name:String}{args:List Value}{H:Hp}{K K':Value→Hp→Prop}(h:jj P recv name args H K)(hk:∀v H',K v H'→K' v H'):jj P recv name args H K':=by
 obtain⟨T,v,f,rv,h1,h2,h3⟩:=h
 exact⟨T,v,f,rv,h1,h2,h3.mono hk⟩
end Go.Vc
