/- Texts put behind each other. -/
import Derived.Test.YtjlnnljohemifaaGreatK98
import Derived.Test.YtjlnnljohemifaaGreatK8
set_option maxRecDepth 100000
set_option maxHeartbeats 8000000
set_option linter.unusedVariables false
set_option linter.unusedSimpArgs false
namespace Go.Vc
abbrev tt(n:Nat):Operand:=.tmp n
abbrev ki(n:Int):Operand:=.const (.int .i64 n)
abbrev kb(b:Bool):Operand:=.const (.bool b)
abbrev s1(d:Nat)(op:dh):fM:=⟨false,none,some d,op⟩
abbrev s0(op:dh):fM:=⟨false,none,none,op⟩
abbrev sg(g:Nat)(w:Bool)(d:Nat)(op:dh):fM:=⟨false,some (g,w),some d,op⟩
abbrev sq(d:Nat)(op:dh):fM:=⟨true,none,some d,op⟩
abbrev sqg(g:Nat)(w:Bool)(d:Nat)(op:dh):fM:=⟨true,some (g,w),some d,op⟩
inductive S where
 |skip
 |aT(ops:List fM)(aM:List Nat)
 |nh(t:sM)(aM:List Nat)
 |seq(a b:S)
 |cond(c:Operand)(x y:S)
 |Cl(id:Nat)(b:S)
 |loop(ajE:List Nat)(b:S)
 |exit(id:Nat)
 |ret
 |bad
 deriving Inhabited
def aX(F:Env→Hp→(Env→Hp→Prop)→Prop)(env:Env)(H:Hp)(_t:Tag F:=⟨⟩):Prop:=
 ∃I:Nat→Env→Hp→Prop,(∃m,I m env H)∧∀m env H,I m env H→F env H fun aV H'=>∃m',m'<m∧I m' aV H'
theorem aX.intro{F:Env→Hp→(Env→Hp→Prop)→Prop}{env:Env}{H:Hp}(I:Nat→Env→Hp→Prop)(m:Nat)(h0:I m env H)
  (round:∀m env H,I m env H→F env H fun aV H'=>∃m',m'<m∧I m' aV H'):aX F env H:=⟨I,⟨m,h0⟩,round⟩
def vc(P:Program):S→Env→Hp→(Env→Hp→Prop)→(Nat→Env→Hp→Prop)→(Env→Hp→Prop)→Prop
 | .skip,env,H,Kn,_,_=>Kn env H
 | .aT ops aM,env,H,Kn,_,_=>iN P (fun aV H'=>now (Env.aM aV aM) fun e=>Kn e H') ops env H
 | .nh t aM,env,H,Kn,_,_=>jB H fun Inv=>Do P Inv (fun aV H'=>now (Env.aM aV aM) fun e=>Kn e H') t env H
 | .seq a b,env,H,Kn,Kx,Kr=>vc P a env H (fun aV H'=>vc P b aV H' Kn Kx Kr) Kx Kr
 | .cond c x y,env,H,Kn,Kx,Kr=>GL (Env.ev env c) fun t=>Gt t (vc P x env H Kn Kx Kr) (vc P y env H Kn Kx Kr)
 | .Cl id b,env,H,Kn,Kx,Kr=>vc P b env H Kn (fun i aV H'=>Gt (i==id) (Kn aV H') (Kx i aV H')) Kr
 | .loop L b,env,H,_,Kx,Kr=>aX (fun aV H' again=>vc P b aV H' (fun e h=>again (Env.aM e L) h) Kx Kr) (Env.aM env L) H
 | .exit id,env,H,_,Kx,_=>Kx id env H
 | .ret,env,H,_,_,Kr=>Kr env H
 | .bad,_,_,_,_,_=>False
section
variable (P : Program) (env : Env) (H : Hp) (Kn : Env → Hp → Prop) (Kx : Nat → Env → Hp → Prop) (Kr : Env → Hp → Prop)
@[go_sem ↓] theorem Uu:vc P .skip env H Kn Kx Kr=Kn env H:=(rfl)
@[go_sem ↓] theorem ahw(ops:List fM)(aM:List Nat):vc P (.aT ops aM) env H Kn Kx Kr=iN P (fun aV H'=>now (Env.aM aV aM) fun e=>Kn e H') ops env H:=(rfl)
@[go_sem ↓] theorem aeS(t:sM)(aM:List Nat):vc P (.nh t aM) env H Kn Kx Kr=jB H fun Inv=>Do P Inv (fun aV H'=>now (Env.aM aV aM) fun e=>Kn e H') t env H:=(rfl)
@[go_sem ↓] theorem XA(a b:S):vc P (.seq a b) env H Kn Kx Kr=vc P a env H (fun aV H'=>vc P b aV H' Kn Kx Kr) Kx Kr:=(rfl)
@[go_sem ↓] theorem Va(c:Operand)(x y:S):vc P (.cond c x y) env H Kn Kx Kr=GL (Env.ev env c) fun t=>Gt t (vc P x env H Kn Kx Kr) (vc P y env H Kn Kx Kr):=(rfl)
@[go_sem ↓] theorem XB(id:Nat)(b:S):vc P (.Cl id b) env H Kn Kx Kr=vc P b env H Kn (fun i aV H'=>Gt (i==id) (Kn aV H') (Kx i aV H')) Kr:=(rfl)
@[go_sem ↓] theorem aeT(L:List Nat)(b:S):vc P (.loop L b) env H Kn Kx Kr=aX (fun aV H' again=>vc P b aV H' (fun e h=>again (Env.aM e L) h) Kx Kr) (Env.aM env L) H:=(rfl)
@[go_sem ↓] theorem aeU(id:Nat):vc P (.exit id) env H Kn Kx Kr=Kx id env H:=(rfl)
@[go_sem ↓] theorem ahx:vc P .bad env H Kn Kx Kr=False:=(rfl)
@[go_sem ↓] theorem ahy:vc P .ret env H Kn Kx Kr=Kr env H:=(rfl)
end
attribute [go_sem] cond_true cond_false
abbrev E9:=List Nat×List Nat×List Nat
def Ke:Nat→List Nat→Option (Ot×List Nat)
 |0,_=>none
 |_+1,0::r=>some (.done,r)
 |f+1,1::i::r=>match Ke f r with
  |some (t,r)=>some (.step i t,r)
  |none=>none
 |f+1,2::i::r=>match Ke f r with
  |some (t,r)=>match Ke f r with
   |some (u,r)=>some (.aE i t u,r)
   |none=>none
  |none=>none
 |_+1,3::r=>some (.stop,r)
 |_+1,_=>none
def tR(P:Program)(n:Nat):Code→List E9→Option (S×List E9)
 | .skip,an=>some (.skip,an)
 | .region _ ops draw,an=>
  match an with
  | []=>none
  | (aM,q,x::tr)::an=>
   match it P n ops q 0 ops.toList with
   |none=>none
   |some ss=>
    match Ke (tr.length+2) (x::tr)with
    |some (t,[])=>
     if draw=true∧A5 ops (Region.before ops)=true∧Tk ops (Region.before ops) (Mt ss) t (Array.replicate ops.size false) []=true∧Region.noSelect ops=true then(attach ss t).map fun ts=>(.nh ts aM,an)else none
    |_=>none
  | (aM,q,[])::an=>
   match it P n ops q 0 ops.toList with
   |none=>none
   |some ss=>
    if draw=false∨(A5 ops (Region.before ops)=true∧A6 ops (Region.before ops) (Tb ss)=true∧Region.noSelect ops=true)then some (.aT ss aM,an)else none
 | .seq a b,an=>
  match tR P n a an with
  |none=>none
  |some (x,an)=>match tR P n b an with
   |none=>none
   |some (y,an)=>some (.seq x y,an)
 | .cond c a b,an=>
  match tR P n a an with
  |none=>none
  |some (x,an)=>match tR P n b an with
   |none=>none
   |some (y,an)=>some (.cond c x y,an)
 | .block id a,an=>match tR P n a an with
  |none=>none
  |some (x,an)=>some (.Cl id x,an)
 | .loop a,an=>
  match an with
  | []=>none
  | (L,_,_)::an=>match tR P n a an with
   |none=>none
   |some (x,an)=>some (.loop L x,an)
 | .exit id,an=>some (.exit id,an)
 | .ret,an=>some (.ret,an)
 | .refuse _,an=>some (.bad,an)
 |_,_=>none
theorem wp_loop_ghost{P:Program}{Q:Exit→Act→World→Prop}{a:Act}{w:World}{c:Code}(I:Nat→Act→World→Prop){m:Nat}(h₀:I m a w)
  (round:∀m a w,I m a w→c.wp P (Exit.then (fun a' w'=>∃m',m'<m∧I m' a' w') Q) a w):(Code.loop c).wp P Q a w:=by
 intro b k cs
 have key:∀n a w,I n a w→∃e a' w',Q e a' w'∧Arrives P (lone (b.at a (.code c:: .inLoop c::k)) cs w) b k cs e a' w':=by
  intro n
  induction n using Nat.strongRecOn with
  |_ n ih=>
   intro a w hI
   obtain⟨e,a₁,w₁,hq,Mv⟩:=round n a w hI b (.inLoop c::k) cs
   cases e with
   |normal=>
    obtain⟨m',aO,hI₁⟩:=hq
    obtain⟨e₂,a₂,w₂,hq₂,ac5⟩:=ih m' aO a₁ w₁ hI₁
    exact⟨e₂,a₂,w₂,hq₂,.of_steps (Steps.trans Mv (.one step_inLoop)) ac5⟩
   |exit id=>exact⟨_,a₁,w₁,hq,.pass (x:=.inLoop c) rfl (fun _ _=>.inl (by simp)) Mv⟩
   |goto l=>exact⟨_,a₁,w₁,hq,.pass (x:=.inLoop c) rfl (fun _ _=>.inl (by simp)) Mv⟩
   |ret=>exact⟨_,a₁,w₁,hq,.pass (x:=.inLoop c) rfl (fun _ _=>.inl (by simp)) Mv⟩
   |panic ch=>exact⟨_,a₁,w₁,hq,.pass (x:=.inLoop c) rfl (fun _ _=>.inl (by simp)) Mv⟩
   |outgrown=>exact⟨_,a₁,w₁,hq,.pass (x:=.inLoop c) rfl (fun _ _=>.inl (by simp)) Mv⟩
 obtain⟨e,a',w',hq,Mv⟩:=key _ a w h₀
 exact⟨e,a',w',hq,.of_steps (.one step_loop) Mv⟩
theorem K9{P:Program}{n:Nat}(hm:P.follows .mixedOrders=true):∀ (c:Code) (an:List E9) (s:S) (Td:List E9),tR P n c an=some (s,Td)→
  ∀ (env:Env) (a:Act) (w:World) (Kn:Env→Hp→Prop) (Kx:Nat→Env→Hp→Prop) (Kr:Env→Hp→Prop) (Q:Exit→Act→World→Prop),Holds env a n→vc P s env w.heap Kn Kx Kr→
   (∀aV a' w',cf w w'→Holds aV a' n→Kn aV w'.heap→Q .normal a' w')→
   (∀i aV a' w',cf w w'→Holds aV a' n→Kx i aV w'.heap→Q (.exit i) a' w')→
   (∀aV a' w',cf w w'→Holds aV a' n→Kr aV w'.heap→Q .ret a' w')→c.wp P Q a w:=by
 intro c
 induction c with
 |skip=>
  intro an s Td hd env a w Kn Kx Kr Q hh h hn hx hr
  simp only[tR,aos,Prod.mk.injEq]at hd
  obtain⟨rfl,rfl⟩:=hd
  exact wp_skip (hn env a w (cf.refl w) hh h)
 |region id ops draw=>
  intro an s Td hd env a w Kn Kx Kr Q hh h hn hx hr
  unfold tR at hd
  split at hd
  ·cases hd
  ·rename_i aM q x tr an0
   split at hd
   ·cases hd
   ·rename_i ss hss
    split at hd
    ·rename_i t ht
     split at hd
     ·rename_i hc
      obtain⟨rfl,h1,h2,h3⟩:=hc
      cases hts:attach ss t with
      |none=>rw[hts]at hd;cases hd
      |some ts=>
       rw[hts]at hd
       simp only[Option.map_some,aos,Prod.mk.injEq]at hd
       obtain⟨rfl,rfl⟩:=hd
       have hl:∀k,ops.toList[k]? =ops[0+k]? :=fun k=>by simp
       have hQ:∀a' w',cf w w'→(∃aV,Holds aV a' n∧Kn (Env.aM aV aM) w'.heap)→Q .normal a' w':=fun a' w' hs ⟨aV,ou,hk⟩=>hn _ a' w' hs (ou.aM aM) hk
       have cd:=Ou (P:=P) (ops:=ops) (n:=n) ops.toList 0 ss hl hss
       obtain⟨Inv,hI,h⟩:=h
       have h4:=Mu (P:=P) (ops:=ops) (n:=n) (q:=q) (Inv:=Inv) (ss:=ss) (fun k s hk=>by have:=cd k s hk;simpa using this) t ts hts env a w.heap hh h
       exact FC (K:=fun a' H'=>∃aV,Holds aV a' n∧Kn (Env.aM aV aM) H') hm h1 h2 h3 hI hQ (by simpa[NV]using h4)
     ·cases hd
    ·cases hd
  ·rename_i aM q an0
   split at hd
   ·cases hd
   ·rename_i ss hss
    split at hd
    ·rename_i ac6
     simp only[aos,Prod.mk.injEq]at hd
     obtain⟨rfl,rfl⟩:=hd
     have hl:∀k,ops.toList[k]? =ops[0+k]? :=fun k=>by simp
     have hQ:∀a' w',cf w w'→(∃aV,Holds aV a' n∧Kn (Env.aM aV aM) w'.heap)→Q .normal a' w':=fun a' w' hs ⟨aV,ou,hk⟩=>hn _ a' w' hs (ou.aM aM) hk
     cases draw with
     |false=>
      have h1:=Oo (P:=P) (ops:=ops) (n:=n) ops.toList 0 ss hl hss env a w.heap hh h
      refine Fz (K:=fun a' H'=>∃aV,Holds aV a' n∧Kn (Env.aM aV aM) H') hQ ?_
      rw[List.range_eq_range']
      simpa[NV]using h1
     |true=>
      obtain⟨h1,h2,h3⟩:=ac6.resolve_left (by simp)
      have h4:=Oq (P:=P) (ops:=ops) (n:=n) (cls:=Tb ss) ops.toList 0 ss hl hss (fun k s hk=>by simp[Tb,hk]) env a w.heap hh h
      refine Fy (K:=fun a' H'=>∃aV,Holds aV a' n∧Kn (Env.aM aV aM) H') hm h1 h2 h3 hQ ?_
      rw[List.range_eq_range']
      simpa[NV]using h4
    ·cases hd
 |seq x y ihx ihy=>
  intro an s Td hd env a w Kn Kx Kr Q hh h hn hx hr
  unfold tR at hd
  split at hd
  ·cases hd
  ·rename_i sx Yx Yy
   split at hd
   ·cases hd
   ·rename_i sy an2 hdy
    simp only[aos,Prod.mk.injEq]at hd
    obtain⟨rfl,rfl⟩:=hd
    refine wp_seq (ihx an sx Yx Yy env a w _ Kx Kr _ hh h ?_ ?_ ?_)
    ·intro aV a' w' hs ou hk
     exact ihy Yx sy _ hdy aV a' w' Kn Kx Kr Q ou hk (fun e b v Ea=>hn e b v (hs.trans Ea)) (fun i e b v Ea=>hx i e b v (hs.trans Ea)) (fun e b v Ea=>hr e b v (hs.trans Ea))
    ·intro i aV a' w' hs ou hk;exact hx i aV a' w' hs ou hk
    ·intro aV a' w' hs ou hk;exact hr aV a' w' hs ou hk
 |cond c x y ihx ihy=>
  intro an s Td hd env a w Kn Kx Kr Q hh h hn hx hr
  unfold tR at hd
  split at hd
  ·cases hd
  ·rename_i sx Yx Yy
   split at hd
   ·cases hd
   ·rename_i sy an2 hdy
    simp only[aos,Prod.mk.injEq]at hd
    obtain⟨rfl,rfl⟩:=hd
    rw[Va]at h
    unfold GL at h
    split at h
    ·rename_i v hv
     obtain⟨b,hb,h2⟩:=zU h
     subst hb
     have hc:=hh.vk _ _ hv
     refine wp_cond_split hc (fun hb=>?_) (fun hb=>?_)
     ·subst hb;exact ihx an sx Yx Yy env a w Kn Kx Kr Q hh h2 hn hx hr
     ·subst hb;exact ihy Yx sy _ hdy env a w Kn Kx Kr Q hh h2 hn hx hr
    ·exact h.elim
 |block id x ih=>
  intro an s Td hd env a w Kn Kx Kr Q hh h hn hx hr
  unfold tR at hd
  split at hd
  ·cases hd
  ·rename_i sx Yx Yy
   simp only[aos,Prod.mk.injEq]at hd
   obtain⟨rfl,rfl⟩:=hd
   refine wp_block (ih an sx _ Yy env a w Kn _ Kr _ hh h (fun e b v hs ou hk=>hn e b v hs ou hk) ?_ (fun e b v hs ou hk=>hr e b v hs ou hk))
   intro i aV a' w' hs ou hk
   show if i=id then Q .normal a' w' else Q (.exit i) a' w'
   by_cases e:i=id
   ·subst e
    simp only[beq_self_eq_true,Gt]at hk
    rw[if_pos rfl]
    exact hn aV a' w' hs ou hk
   ·have:(i==id)=false:=by simpa using e
    simp only[this,Gt]at hk
    rw[if_neg e]
    exact hx i aV a' w' hs ou hk
 |loop x ih=>
  intro an s Td hd env a w Kn Kx Kr Q hh h hn hx hr
  unfold tR at hd
  split at hd
  ·cases hd
  ·rename_i L q tr an0
   split at hd
   ·cases hd
   ·rename_i sx Yx Yy
    simp only[aos,Prod.mk.injEq]at hd
    obtain⟨rfl,rfl⟩:=hd
    obtain⟨I,⟨m,h0⟩,round⟩:=h
    refine wp_loop_ghost (fun m a' w'=>cf w w'∧∃aV,Holds aV a' n∧I m aV w'.heap) ⟨cf.refl w,_,hh.aM L,h0⟩ ?_
    rintro m a' w' ⟨hs,aV,ou,hI⟩
    refine ih an0 sx _ Yy aV a' w' _ Kx Kr _ ou (round m aV w'.heap hI) ?_ ?_ ?_
    ·rintro e b v Ea hb ⟨m',aO,TX⟩
     exact⟨m',aO,hs.trans Ea,_,hb.aM L,TX⟩
    ·intro i e b v Ea hb hk;exact hx i e b v (hs.trans Ea) hb hk
    ·intro e b v Ea hb hk;exact hr e b v (hs.trans Ea) hb hk
 |exit id=>
  intro an s Td hd env a w Kn Kx Kr Q hh h hn hx hr
  simp only[tR,aos,Prod.mk.injEq]at hd
  obtain⟨rfl,rfl⟩:=hd
  exact wp_exit (hx id env a w (cf.refl w) hh h)
 |ret=>
  intro an s Td hd env a w Kn Kx Kr Q hh h hn hx hr
  simp only[tR,aos,Prod.mk.injEq]at hd
  obtain⟨rfl,rfl⟩:=hd
  exact wp_ret (hr env a w (cf.refl w) hh h)
 |refuse r=>
  intro an s Td hd env a w Kn Kx Kr Q hh h hn hx hr
  simp only[tR,aos,Prod.mk.injEq]at hd
  obtain⟨rfl,rfl⟩:=hd
  exact h.elim
 |_=>intro an s Td hd;simp[tR]at hd
inductive Yz where
 |tmp(t:Nat)
 |one(t:Nat)
 |agg(t n:Nat)
 deriving Inhabited
structure Fn where
 np:Nat
 Y1:List Yz
 body:S
 deriving Inhabited
def qQ(env:Env)(H:Hp):List Yz→(List Value→Prop)→Prop
 | [],F=>F []
 | .tmp t::r,F=>aC (Env.find env t) fun v=>qQ env H r fun vs=>F (v::vs)
 | .one t::r,F=>aC (Env.find env t) fun p=>xL p fun b o=>aC (H.rd b) fun l=>aC l[o]? fun v=>qQ env H r fun vs=>F (v::vs)
 | .agg t n::r,F=>aC (Env.find env t) fun p=>xL p fun b o=>aC (H.rd b) fun l=>dD (o+n≤l.length) (qQ env H r fun vs=>F (.agg ((l.drop o).take n).toArray::vs))
@[go_sem ↓] theorem ac9(env:Env)(H:Hp)(F:List Value→Prop):qQ env H [] F=F []:=(rfl)
@[go_sem ↓] theorem ada(env:Env)(H:Hp)(t:Nat)(r:List Yz)(F:List Value→Prop):qQ env H (.tmp t::r) F=aC (Env.find env t) fun v=>qQ env H r fun vs=>F (v::vs):=(rfl)
@[go_sem ↓] theorem adb(env:Env)(H:Hp)(t:Nat)(r:List Yz)(F:List Value→Prop):
  qQ env H (.one t::r) F=aC (Env.find env t) fun p=>xL p fun b o=>aC (H.rd b) fun l=>aC l[o]? fun v=>qQ env H r fun vs=>F (v::vs):=(rfl)
@[go_sem ↓] theorem ade(env:Env)(H:Hp)(t n:Nat)(r:List Yz)(F:List Value→Prop):
  qQ env H (.agg t n::r) F=aC (Env.find env t) fun p=>xL p fun b o=>aC (H.rd b) fun l=>dD (o+n≤l.length) (qQ env H r fun vs=>F (.agg ((l.drop o).take n).toArray::vs)):=(rfl)
def KJ:List Value→Value
 | [v]=>v
 |vs=>.tuple vs.toArray
@[go_sem] theorem aeW(v:Value):KJ [v]=v:=(rfl)
@[go_sem] theorem aeX:KJ []= .tuple [].toArray:=(rfl)
@[go_sem] theorem aeY(v u:Value)(r:List Value):KJ (v::u::r)= .tuple (v::u::r).toArray:=(rfl)
def iV:Nat→List Value→Env
 |_,[]=>[]
 |i,v::r=>(i,v)::iV (i+1) r
@[go_sem] theorem V7(i:Nat):iV i []=[]:=(rfl)
@[go_sem] theorem Vb(i:Nat)(v:Value)(r:List Value):iV i (v::r)=(i,v)::iV (i+1) r:=(rfl)
def Fn.vc(P:Program)(F:Fn)(args:List Value)(H:Hp)(K:Value→Hp→Prop):Prop:=
 args.length=F.np∧Go.Vc.vc P F.body (iV 0 args) H (fun env H=>qQ env H F.Y1 fun vs=>K (KJ vs) H) (fun _ _ _=>False) (fun env H=>qQ env H F.Y1 fun vs=>K (KJ vs) H)
def ny(P:Program):List ResultVar→Option (List Yz)
 | []=>some []
 | .tmp t::r=>(ny P r).map (.tmp t:: ·)
 | .cell t T::r=>if(P.info? T).isSome∧(P.underlying T).isSome then(ny P r).map ((if eU P T then .agg t (P.cellsOf T)else .one t):: ·)else none
def dQ(P:Program)(f:FuncId)(an:List E9):Option Fn:=
 match P.funcs[f]? with
 |none=>none
 |some fn=>
  match fn.body with
  |none=>none
  |some c=>
   match tR P fn.ntmps c an with
   |some (s,[])=>if fn.params.size≤fn.ntmps then(ny P fn.results.toList).map fun rs=>⟨fn.params.size,rs,s⟩else none
   |_=>none
def CD(tmps:Array Value):ResultVar→Sem Value
 | .tmp t=>pure (tmps.getD t undef)
 | .cell p t=>do loadVar t (←asAddr (tmps.getD p undef))
theorem AW{P:Program}{w:World}{env:Env}{a:Act}{n:Nat}(hh:Holds env a n):∀ (rs:List ResultVar) (l:List Yz) (F:List Value→Prop),ny P rs=some l→qQ env w.heap l F→
  ∃vs,F vs∧(rs.mapM (CD a.tmps)).run P w= .ok vs w:=by
 intro rs
 induction rs with
 |nil=>intro l F hl h;simp only[ny,aos]at hl;subst hl;exact⟨[],h,rfl⟩
 |cons r rs ih=>
  intro l F hl h
  cases r with
  |tmp t=>
   unfold ny at hl
   cases hr:ny P rs with
   |none=>rw[hr]at hl;cases hl
   |some l'=>
    rw[hr]at hl
    simp only[Option.map_some,aos]at hl
    subst hl
    obtain⟨v,hv,h⟩:=aA h
    obtain⟨vs,hF,DO⟩:=ih l' _ hr h
    have e:a.tmps.getD t undef=v:=by simp[hh.BV t v hv]
    exact⟨v::vs,hF,by rw[List.mapM_cons];simp only[CD,Sem.run_bind,Sem.run_pure,Result.andThen_ok,e,DO]⟩
  |cell t T=>
   unfold ny at hl
   split at hl
   ·rename_i hc
    cases hr:ny P rs with
    |none=>rw[hr]at hl;cases hl
    |some l'=>
     rw[hr]at hl
     simp only[Option.map_some,aos]at hl
     subst hl
     cases hb:eU P T
     ·rw[hb]at h
      obtain⟨p,hp,h⟩:=aA h
      obtain⟨b,o,rfl,h⟩:=fi h
      obtain⟨lb,DB,h⟩:=aA h
      obtain⟨v,hv,h⟩:=aA h
      obtain⟨vs,hF,DO⟩:=ih l' _ hr h
      have e:a.tmps.getD t undef= .pointer (some ⟨b,o,none⟩):=by simp[hh.BV t _ hp]
      exact⟨v::vs,hF,by rw[List.mapM_cons];simp only[CD,Sem.run_bind,Sem.run_pure,Result.andThen_ok,e,asAddr,(jw hc.1 hc.2 DB).2 hb v hv,DO]⟩
     ·rw[hb]at h
      obtain⟨p,hp,h⟩:=aA h
      obtain⟨b,o,rfl,h⟩:=fi h
      obtain⟨lb,DB,h⟩:=aA h
      obtain⟨hn,h⟩:=h.out
      obtain⟨vs,hF,DO⟩:=ih l' _ hr h
      have e:a.tmps.getD t undef= .pointer (some ⟨b,o,none⟩):=by simp[hh.BV t _ hp]
      exact⟨_,hF,by rw[List.mapM_cons];simp only[CD,Sem.run_bind,Sem.run_pure,Result.andThen_ok,e,asAddr,(jw hc.1 hc.2 DB).1 hb hn,DO]⟩
   ·cases hl
theorem IB:∀ (args:List Value) (i k:Nat) (v:Value),Env.find (iV i args) k=some v→i≤k∧args[k - i]? =some v:=by
 intro args
 induction args with
 |nil=>intro i k v h;cases h
 |cons x r ih=>
  intro i k v h
  simp only[iV,Env.find]at h
  by_cases e:i=k
  ·subst e
   simp at h
   subst h
   exact⟨aov _,by simp⟩
  ·have:(i==k)=false:=by simpa using e
   rw[this]at h
   obtain⟨h1,h2⟩:=ih (i+1) k v h
   refine⟨by omega,?_⟩
   rw[show k - i=(k - (i+1))+1 by omega,apg]
   exact h2
theorem KK{P:Program}(hm:P.follows .mixedOrders=true){f:FuncId}{an:List E9}{F:Fn}(hd:dQ P f an=some F){args:List Value}{H:Hp}{K:Value→Hp→Prop}
  (h:F.vc P args H K):af P f args H K:=by
 unfold dQ at hd
 split at hd
 ·cases hd
 ·rename_i fn hf
  split at hd
  ·cases hd
  ·rename_i c hb
   split at hd
   ·rename_i s hs
    split at hd
    ·rename_i nT
     cases hr:ny P fn.results.toList with
     |none=>rw[hr]at hd;cases hd
     |some rs=>
      rw[hr]at hd
      simp only[Option.map_some,aos]at hd
      subst hd
      obtain⟨aZ,h⟩:=h
      simp only at aZ h
      intro w hw
      subst hw
      refine calls_of_wp hf hb ?_
      have hh:Holds (iV 0 args) {tmps:=args.toArray++Array.replicate (fn.ntmps - args.toArray.size) undef,defers:=[]} fn.ntmps:=by
       refine⟨by simp;omega,rfl,fun k v hk=>?_⟩
       obtain⟨_,h2⟩:=IB args 0 k v hk
       have aO:k<args.length:=by
        rcases apA k args.length with h'|h'
        ·exact h'
        ·simp[aoz h']at h2
       rw[apN (by simpa using aO)]
       simpa using h2
      have E8:∀aV a' w',cf w w'→Holds aV a' fn.ntmps→qQ aV w'.heap rs (fun vs=>K (KJ vs) w'.heap)→
        a'.defers=[]∧∃v,(results fn a'.tmps).run P w'= .ok v w'∧(∃v_1,Ending.returned v=Ending.returned v_1∧cf w w'∧K v_1 w'.heap):=by
       intro aV a' w' M7 ou hk
       obtain⟨vs,hF,DO⟩:=AW (P:=P) ou fn.results.toList rs _ hr hk
       refine⟨ou.defers,KJ vs,?_,_,rfl,M7,hF⟩
       change (do let vs ←fn.results.mapM (CD a'.tmps);pure (if h:vs.size=1 then vs[0]else .tuple vs):Sem Value).run P w'=_
       rw[Array.mapM_eq_mapM_toList]
       simp only[Sem.run_bind,Sem.run_map,DO,Result.andThen_ok,Sem.run_pure]
       congr 1
       cases vs with
       |nil=>rfl
       |cons x r=>cases r with
        |nil=>rfl
        |cons y r=>simp[KJ]
      refine K9 hm c an s [] hs _ _ w _ _ _ _ hh h ?_ ?_ ?_
      ·exact fun aV a' w' M7 ou hk=>E8 aV a' w' M7 ou hk
      ·exact fun _ _ _ _ _ _ hk=>hk.elim
      ·exact fun aV a' w' M7 ou hk=>E8 aV a' w' M7 ou hk
    ·cases hd
   ·cases hd
end Go.Vc

namespace Go.Vc
theorem wrap64{n:Int}(h0: -9223372036854775808≤n)(h1:n≤9223372036854775807):IntKind.i64.wrap n=n:=by
 have e:(2^IntKind.i64.bits:Int)=18446744073709551616:=rfl
 have e':(2^ (IntKind.i64.bits - 1):Int)=9223372036854775808:=rfl
 unfold IntKind.wrap
 simp only[e,e',IntKind.signed,apz,aoL]
 split<;>omega
theorem rZ{n:Int}(h0:0≤n)(h1:n≤18446744073709551615):IntKind.u64.wrap n=n:=by
 have e:(2^IntKind.u64.bits:Int)=18446744073709551616:=rfl
 unfold IntKind.wrap
 simp only[e,IntKind.signed,ap1]
 rw[if_neg (by simp)];omega
theorem T9{n:Int}(h0:0≤n)(h1:n≤4294967295):IntKind.u32.wrap n=n:=by
 have e:(2^IntKind.u32.bits:Int)=4294967296:=rfl
 unfold IntKind.wrap
 simp only[e,IntKind.signed,ap1]
 rw[if_neg (by simp)];omega
def Sl(H:Hp)(size:Nat)(v:Value)(n:Nat)(xs:List Value)(fp:Option Nat):Prop:=
 xs.length=n*size∧
 match fp with
 |none=>n=0∧v= .slice none 0 0
 |some b=>∃l c,v= .slice (some ⟨b,0,none⟩) n c∧H.own b=some l∧n≤c∧c*size≤l.length∧l.take (n*size)=xs
theorem Sl.nil(H:Hp)(size:Nat):Sl H size (.slice none 0 0) 0 [] none:=⟨by simp,rfl,rfl⟩
theorem Sl.ext{H H':Hp}{size n:Nat}{v:Value}{xs:List Value}{fp:Option Nat}{S:Nat→Prop}(h:Sl H size v n xs fp)(e:ag S H H')(hs:∀b,fp=some b→¬S b):Sl H' size v n xs fp:=by
 obtain⟨hl,h⟩:=h
 refine⟨hl,?_⟩
 cases fp with
 |none=>exact h
 |some b=>
  obtain⟨l,c,h1,h2,h3⟩:=h
  exact⟨l,c,h1,e.own h2 (hs b rfl),h3⟩
theorem Sl.lt{H:Hp}{size n:Nat}{v:Value}{xs:List Value}{b:Nat}(h:Sl H size v n xs (some b)):b<H.size:=by
 obtain⟨_,l,c,_,h2,_⟩:=h
 exact aB h2
theorem Sl.lit(H:Hp)(T:TypeId)(size n:Nat)(xs:List Value)(hx:xs.length=n*size):Sl (H.new T xs) size (.slice (some ⟨H.size,0,none⟩) n n) n xs (some H.size):=
 ⟨hx,xs,n,rfl,az H T xs,aov _,by omega,by rw[←hx];simp⟩
theorem Sl.bU{H:Hp}{T:TypeId}{size n b:Nat}{xs:List Value}(hx:xs.length=n*size)(hb:b=H.size):Sl (H.new T xs) size (.slice (some ⟨b,0,none⟩) n n) n xs (some b):=
 hb▸Sl.lit H T size n xs hx
def cO(H:Hp)(size:Nat)(v:Value)(n:Nat)(xs:List Value):Prop:=
 xs.length=n*size∧((n=0∧∃a c,v= .slice a 0 c)∨∃b o c l,v= .slice (some ⟨b,o,none⟩) n c∧H.rd b=some l∧o+n*size≤l.length∧(l.drop o).take (n*size)=xs)
theorem Sl.rd{H:Hp}{size n:Nat}{v:Value}{xs:List Value}{fp:Option Nat}(h:Sl H size v n xs fp):cO H size v n xs:=by
 obtain⟨hl,h⟩:=h
 refine⟨hl,?_⟩
 cases fp with
 |none=>exact .inl ⟨h.1,none,0,h.2⟩
 |some b=>
  obtain⟨l,c,h1,h2,h3,h4,h5⟩:=h
  refine .inr ⟨b,0,c,l,h1,ae h2,?_,by simpa using h5⟩
  have:=apJ size h3
  omega
theorem cO.rowOf{H:Hp}{size n:Nat}{v:Value}{xs:List Value}{F:Nat→List Value→Prop}(h:cO H size v n xs)(hf:F n xs):rowOf H size v F:=by
 obtain⟨hl,⟨rfl,a,c,rfl⟩| ⟨b,o,c,l,rfl,h2,h3,h4⟩⟩:=h
 ·have:xs=[]:=aoR.1 (by omega)
  subst this
  exact hf
 ·by_cases hn:n=0
  ·subst hn
   have:xs=[]:=aoR.1 (by omega)
   subst this
   exact hf
  ·have e0:(n==0)=false:=by simpa using hn
   show Gt (n==0) _ _
   rw[e0]
   show aC (H.rd b) _
   rw[h2]
   exact⟨h3,by rw[h4];exact hf⟩
theorem cO.ext{H H':Hp}{size n:Nat}{v:Value}{xs:List Value}{S:Nat→Prop}(h:cO H size v n xs)(e:ag S H H')(hs:∀b,b<H.size→¬S b):cO H' size v n xs:=by
 obtain⟨hl,h| ⟨b,o,c,l,rfl,h2,h3⟩⟩:=h
 ·exact⟨hl,.inl h⟩
 ·exact⟨hl,.inr ⟨b,o,c,l,rfl,e.rd h2 (hs b (O5 h2)),h3⟩⟩
theorem cO.fresh{H H':Hp}{size n:Nat}{v:Value}{xs:List Value}(h:cO H size v n xs)(e:ah H H'):cO H' size v n xs:=h.ext e fun _ _ h=>h
theorem Mw{l xs new:List Value}{p:Nat}(hx:l.take p=xs)(hp:xs.length=p)(hn:p+new.length≤l.length):(bk l p new).take (p+new.length)=xs++new:=by
 apply ao8
 intro i
 by_cases hi:i<p+new.length
 ·rw[aoO hi,getElem?_splice new l p i hn]
  by_cases h1:p≤i
  ·rw[if_pos ⟨h1,hi⟩,aoK (by omega),hp]
  ·rw[if_neg (fun h=>h1 h.1),aox (by omega),←hx,aoO (by omega)]
 ·rw[aoz (by simp;omega),aoz (by simp;omega)]
theorem Sl.append{H:Hp}{T size bytes n m:Nat}{z:List Value}{s x:Value}{xs ys:List Value}{fp:Option Nat}{K:Value→Hp→Prop}(h:Sl H size s n xs fp)(hx:cO H size x m ys)
  (hz:z.length=size)(h1:gK ys)(hb:(n+m)*bytes≤2^47)
  (hk:∀v' H' cP,Sl H' size v' (n+m) (xs++ys) cP→ag (fun b=>fp=some b) H H'→(cP=fp∨∃b,cP=some b∧H.size≤b∧b<H'.size)→K v' H'):
  gk T size bytes z s x H K:=by
 obtain⟨hl,h⟩:=h
 have key:∀base c,s= .slice base n c→(∀b,base=some b→fp≠none)→gk T size bytes z s x H K:=by
  intro base c hs ajF
  subst hs
  refine cO.rowOf hx (F:=fun m new=>(n+m≤c→m=0→K (.slice base n c) H)∧
   (n+m≤c→m≠0→uZ base fun b o=>aC (JU (H.own b) (H.B5 b)) fun l=>dD (o+(n+m)*size≤l.length∧gK new) (K (.slice base (n+m) c) (H.wr b (bk l (o+n*size) new))))∧
   (c<n+m→Builtin.nextslicecap (n+m) c*bytes≤2^48∧
    rowOf H size (.slice base n c) fun _ Sp=>∀c',n+m≤c'→K (.slice (some ⟨H.size,0,none⟩) (n+m) c') (H.new T (Sp++new++cE z (c' - (n+m)))))) ?_
  refine⟨fun nT hm=>?_,fun nT hm=>?_,fun aO=>⟨?_,?_⟩⟩
  ·subst hm
   have hy:ys=[]:=aoR.1 (by have:=hx.1;omega)
   subst hy
   exact hk _ _ fp (by rw[apa];exact⟨by simpa using hl,h⟩) (ag.refl _ _) (.inl rfl)
  ·cases fp with
   |none=>
    obtain⟨rfl,hv⟩:=h
    injection hv with e1 e2 e3
    omega
   |some b=>
    obtain⟨l,c',hv,h2,h3,h4,h5⟩:=h
    injection hv with e1 e2 e3
    subst e1;subst e3
    show aC (JU (H.own b) (H.B5 b)) _
    rw[h2]
    have h6:=apJ size nT
    refine⟨⟨by omega,h1⟩,?_⟩
    rw[aoi]
    refine hk _ _ (some b) ⟨by simp[hl,hx.1,apB],_,c,rfl,ai h2,nT,by rw[kw];exact h4,?_⟩ ((ag.refl (fun x=>some b=some x) H).wr (fun _=>rfl) _) (.inl rfl)
    have:=Mw (new:=ys) h5 hl (by rw[hx.1];rw[apB]at h6;omega)
    rw[hx.1]at this
    rw[apB];exact this
  ·have h2:Builtin.nextslicecap (n+m) c≤2*(n+m):=nextslicecap_le aO
   have h3:=apJ bytes h2
   rw[Nat.mul_assoc]at h3
   omega
  ·refine cO.rowOf (n:=n) (xs:=xs) (Sl.rd (fp:=fp) ⟨hl,h⟩) ?_
   intro c' Jc
   refine hk _ _ (some H.size) ⟨by simp[hl,hx.1,apB],_,c',rfl,az _ _ _,Jc,?_,?_⟩ ((ag.refl _ _).new _ _) (.inr ⟨_,rfl,aov _,by rw[ap];omega⟩)
   ·simp only[aor,hl,hx.1,DH,hz]
    rw[←apB,←apB]
    exact Nat.le_of_eq (by congr 1;omega)
   ·rw[show(n+m)*size=(xs++ys).length by simp[hl,hx.1,apB]]
    exact List.take_left
 cases fp with
 |none=>exact key none 0 (by obtain⟨rfl,hv⟩:=h;exact hv) (fun b hb=>by cases hb)
 |some b=>
  obtain⟨l,c,hv,_⟩:=h
  exact key (some ⟨b,0,none⟩) c hv (fun _ _=>by simp)
theorem vG(l:List Value)(i n:Nat)(x:Value):(l.set i x).take n=(l.take n).set i x:=by
 apply ao8
 intro k
 by_cases hk:k<n
 ·rw[aoO hk]
  by_cases h:i=k
  ·subst h
   by_cases hl:i<l.length
   ·rw[aop hl,aop (by simp;omega)]
   ·rw[aoz (by simp;omega),aoz (by simp;omega)]
  ·rw[aoo h,aoo h,aoO hk]
 ·rw[aoz (by simp;omega),aoz (by simp;omega)]
theorem Sl.uC{H:Hp}{n c s:Nat}{xs l:List Value}(h:Sl H 1 (.slice (some ⟨s,0,none⟩) n c) n xs (some s))(hl:H.own s=some l)(i:Nat)(x:Value):
  Sl (H.wr s (l.set i x)) 1 (.slice (some ⟨s,0,none⟩) n c) n (xs.set i x) (some s):=by
 obtain⟨h1,l',c',hv,h2,h3,h4,h5⟩:=h
 rw[hl]at h2
 injection h2 with h2
 subst h2
 injection hv with _ _ hc
 subst hc
 exact⟨by simpa using h1,_,c,rfl,ai hl,h3,by simpa using h4,by rw[vG,h5]⟩
theorem Sl.get{H:Hp}{n c s size:Nat}{xs l:List Value}(h:Sl H size (.slice (some ⟨s,0,none⟩) n c) n xs (some s))(hl:H.own s=some l){i:Nat}{x:Value}(hx:xs[i]? =some x):l[i]? =some x:=by
 obtain⟨h1,l',c',hv,h2,h3,h4,h5⟩:=h
 rw[hl]at h2
 injection h2 with h2
 subst h2
 rw[←h5,aoV]at hx
 split at hx
 ·exact hx
 ·cases hx
def sB(es:List MapEntry)(i:Int):Option Value:=(es.find? fun e=>match e.key with| .int .i64 j=>i==j|_=>false).map (·.val)
def BX(es:List MapEntry):Prop:=∃ks:List Int,es.map (·.key)=ks.map (Value.int .i64)∧ks.Nodup
def lG(H:Hp)(b:Nat)(f:Int→Option Value):Prop:=∃es k,H.mp b=some (es,k)∧BX es∧∀i,sB es i=f i
theorem lG.new(H:Hp):lG H.im H.size (fun _=>none):=⟨[],0,JP H,⟨[],rfl,aps⟩,fun _=>rfl⟩
theorem lG.ext{H H':Hp}{b:Nat}{f:Int→Option Value}{S:Nat→Prop}(h:lG H b f)(e:ag S H H')(hs:¬S b):lG H' b f:=by
 obtain⟨es,k,h1,h2⟩:=h
 exact⟨es,k,e.mp h1 hs,h2⟩
theorem lG.lt{H:Hp}{b:Nat}{f:Int→Option Value}(h:lG H b f):b<H.size:=by
 obtain⟨es,k,h1,h2⟩:=h
 exact O2 h1
theorem gz(e:MapEntry)(es:List MapEntry)(j i:Int)(he:e.key= .int .i64 j):sB (e::es) i=if i=j then some e.val else sB es i:=by
 unfold sB
 rw[List.find?_cons]
 simp only[he]
 by_cases h:i=j
 ·simp[h]
 ·have:(i==j)=false:=by simpa using h
  rw[this,if_neg h]
theorem zY{e:MapEntry}{es:List MapEntry}(h:BX (e::es)):∃j,e.key= .int .i64 j∧BX es∧∀x∈es,x.key≠ .int .i64 j:=by
 obtain⟨ks,h1,h2⟩:=h
 cases ks with
 |nil=>simp at h1
 |cons j ks=>
  simp only[ao6,List.cons.injEq]at h1
  rw[aoB]at h2
  refine⟨j,h1.1,⟨ks,h1.2,h2.2⟩,fun x hx hk=>h2.1 ?_⟩
  have hm:x.key∈es.map (·.key):=aoC.2 ⟨x,hx,rfl⟩
  rw[h1.2,hk]at hm
  obtain⟨y,hy,e⟩:=aoC.1 hm
  injection e with _ e
  exact e▸hy
theorem Dp(i:Int):∀ (es:List MapEntry),BX es→∀n:Nat,
  (sB es i=none∧fX .int (.int .i64 i) es n=some none)∨
  ∃j e,es[j]? =some e∧e.key= .int .i64 i∧sB es i=some e.val∧fX .int (.int .i64 i) es n=some (some (n+j,e.val)):=by
 intro es
 induction es with
 |nil=>intro _ n;exact .inl ⟨rfl,rfl⟩
 |cons e es ih=>
  intro h n
  obtain⟨j,hj,UM,aP⟩:=zY h
  have hq:nZ .int (.int .i64 i) e.key=some (decide (i=j)):=by rw[hj];simp[nZ,bj]
  by_cases Km:i=j
  ·subst Km
   refine .inr ⟨0,e,rfl,hj,by rw[gz e es i i hj,if_pos rfl],?_⟩
   unfold fX
   rw[hq];simp
  ·have h2:fX .int (.int .i64 i) (e::es) n=fX .int (.int .i64 i) es (n+1):=by
    rw[fX,hq,aoJ Km]
   have h3:sB (e::es) i=sB es i:=by rw[gz e es j i hj,if_neg Km]
   rw[h2,h3]
   rcases ih UM (n+1)with ⟨h4,h5⟩| ⟨k,e',h4,h5,h6,h7⟩
   ·exact .inl ⟨h4,h5⟩
   ·exact .inr ⟨k+1,e',by simpa using h4,h5,h6,by rw[h7];congr 3;omega⟩
theorem lG.look{H:Hp}{b:Nat}{f:Int→Option Value}(h:lG H b f)(i:Int)(F:Option Value→Prop):yq H .int (some b) (.int .i64 i) F=F (f i):=by
 obtain⟨es,k,h1,h2,h3⟩:=h
 unfold yq
 simp only[h1,nO]
 rcases Dp i es h2 0 with ⟨h4,h5⟩| ⟨j,e,h4,h5,h6,h7⟩
 ·rw[h5,←h3 i,h4];rfl
 ·rw[h7,←h3 i,h6];rfl
def JB(f:Int→Option Value)(i:Int)(v:Value):Int→Option Value:=fun j=>if j=i then some v else f j
def Nc(f:Int→Option Value)(i:Int):Int→Option Value:=fun j=>if j=i then none else f j
theorem Mx(es:List MapEntry)(e:MapEntry)(i j:Int)(hj:e.key= .int .i64 j)(hn:sB es j=none):sB (es++[e]) i=if i=j then some e.val else sB es i:=by
 unfold sB at*
 rw[List.find?_append]
 by_cases h:i=j
 ·subst h
  have hx:(es.find? fun e=>match e.key with| .int .i64 j=>i==j|_=>false)=none:=by simpa using hn
  rw[hx]
  simp[hj]
 ·rw[if_neg h]
  have:([e].find? fun e=>match e.key with| .int .i64 j=>i==j|_=>false)=none:=by simp[hj,h]
  rw[this]
  simp
theorem QP{es:List MapEntry}{i:Int}(h:sB es i=none):∀e∈es,e.key≠ .int .i64 i:=by
 intro e he hk
 unfold sB at h
 simp only[Option.map_eq_none_iff,List.find?_eq_none]at h
 have:=h e he
 simp[hk]at this
theorem Kf{es:List MapEntry}(h:BX es)(j:Nat)(e:MapEntry)(hj:es[j]? =some e)(v:Value)(i:Int)(hk:e.key= .int .i64 i):
  BX (es.modify j fun x=>{x with key:=.int .i64 i,val:=v}):=by
 obtain⟨ks,h1,h2⟩:=h
 refine⟨ks,?_,h2⟩
 rw[←h1]
 apply ao8
 intro n
 rw[aoG,aoG,List.getElem?_modify]
 by_cases hn:j=n
 ·subst hn;simp[hj,hk]
 ·simp[hn]
theorem My:∀ (es:List MapEntry),BX es→∀ (j:Nat) (e:MapEntry) (v:Value) (i:Int),es[j]? =some e→e.key= .int .i64 i→∀n,
  sB (es.modify j fun x=>{x with key:=.int .i64 i,val:=v}) n=if n=i then some v else sB es n:=by
 intro es
 induction es with
 |nil=>intro _ j e v i hj;simp at hj
 |cons x es ih=>
  intro h j e v i hj hk n
  obtain⟨q,hq,UM,aP⟩:=zY h
  cases j with
  |zero=>
   simp only[aoM,aos]at hj
   subst hj
   have:q=i:=by rw[hq]at hk;injection hk
   subst this
   rw[List.modify_zero_cons,gz _ es q n rfl,gz x es q n hq]
   split<;>rfl
  |succ j=>
   rw[List.modify_succ_cons,gz x _ q n hq,gz x es q n hq,ih UM j e v i (by simpa using hj) hk n]
   by_cases h1:n=q
   ·subst h1
    have hm:e∈es:=aon (by simpa using hj)
    have:n≠i:=fun e'=>aP e hm (by rw[hk,e'])
    simp[this]
   ·simp[h1]
theorem Ov:∀ (es:List MapEntry),BX es→∀ (j:Nat) (e:MapEntry) (i:Int),es[j]? =some e→e.key= .int .i64 i→BX (es.eraseIdx j)∧∀n,sB (es.eraseIdx j) n=if n=i then none else sB es n:=by
 intro es
 induction es with
 |nil=>intro _ j e i hj;simp at hj
 |cons x es ih=>
  intro h j e i hj hk
  have h':=h
  obtain⟨q,hq,UM,aP⟩:=zY h
  cases j with
  |zero=>
   simp only[aoM,aos]at hj
   subst hj
   have:q=i:=by rw[hq]at hk;injection hk
   subst this
   refine⟨UM,fun n=>?_⟩
   rw[List.eraseIdx_zero,List.tail_cons,gz x es q n hq]
   by_cases hn:n=q
   ·subst hn
    rw[if_pos rfl]
    unfold sB
    simp only[Option.map_eq_none_iff,List.find?_eq_none]
    intro e' iG
    obtain⟨ks,h1,_⟩:=UM
    have hm:e'.key∈es.map (·.key):=aoC.2 ⟨e',iG,rfl⟩
    rw[h1]at hm
    obtain⟨y,_,ey⟩:=aoC.1 hm
    have:=aP e' iG
    rw[←ey]at this ⊢
    simp only[beq_iff_eq]
    intro e2
    exact this (by rw[e2])
   ·simp[hn]
  |succ j=>
   obtain⟨h1,h2⟩:=ih UM j e i (by simpa using hj) hk
   have hm:e∈es:=aon (by simpa using hj)
   have hqi:q≠i:=fun e'=>aP e hm (by rw[hk,e'])
   refine⟨?_,fun n=>?_⟩
   ·obtain⟨ks,e1,e2⟩:=h1
    refine⟨q::ks,by rw[List.eraseIdx_cons_succ,ao6,ao6,hq,e1],?_⟩
    rw[aoB]
    refine⟨fun bK=>?_,e2⟩
    have:Value.int .i64 q∈(es.eraseIdx j).map (·.key):=by rw[e1];exact aoC.2 ⟨q,bK,rfl⟩
    obtain⟨y,hy,ey⟩:=aoC.1 this
    exact aP y (List.mem_of_mem_eraseIdx hy) ey
   ·rw[List.eraseIdx_cons_succ,gz x _ q n hq,gz x es q n hq,h2 n]
    by_cases h3:n=q
    ·subst h3;simp[hqi]
    ·simp[h3]
theorem Kg(n:Nat)(i:Int):Instr.sameBits (n+1) (.int .i64 i) (.int .i64 i)=true:=by simp[Instr.sameBits]
theorem lG.Y5{H:Hp}{b:Nat}{f:Int→Option Value}(h:lG H b f){i:Int}{v:Value}{F:Hp→Prop}(hk:∀H',lG H' b (JB f i v)→ag (fun x=>x=b) H H'→F H'):
  Sc H .int b (.int .i64 i) v F:=by
 obtain⟨es,k,h1,h2,h3⟩:=h
 unfold Sc
 simp only[h1,nO]
 have tM:∀VZ k',ag (fun x=>x=b) H (H.Dw b VZ k'):=fun VZ k'=>(ag.refl (fun x=>x=b) H).Dw (fun _=>rfl) _ _
 rcases Dp i es h2 0 with ⟨h4,h5⟩| ⟨j,e,h4,h5,h6,h7⟩
 ·rw[h5]
  refine⟨rfl,hk _ ⟨_,_,lj h1,?_,fun n=>?_⟩ (tM _ _)⟩
  ·obtain⟨ks,e1,e2⟩:=h2
   refine⟨ks++[i],by simp[LM,e1],?_⟩
   rw[ao2]
   refine⟨e2,by simp,fun a ha c hc Tg=>?_⟩
   simp only[aoq]at hc
   subst hc;subst Tg
   have:Value.int .i64 a∈es.map (·.key):=by rw[e1];exact aoC.2 ⟨a,ha,rfl⟩
   obtain⟨y,hy,ey⟩:=aoC.1 this
   exact QP h4 y hy ey
  ·rw[LM,Mx es _ n i rfl h4]
   unfold JB
   split<;>first|rfl|exact h3 n
 ·rw[h7]
  refine⟨?_,hk _ ⟨_,_,lj h1,Kf h2 _ e (by simpa using h4) _ _ h5,fun n=>?_⟩ (tM _ _)⟩
  ·simp only[ET,aoi,h4,Option.map_some,Option.getD_some,h5]
   exact Kg 9999 i
  ·rw[LM,aoi,My es h2 j e v i h4 h5 n]
   unfold JB
   split<;>first|rfl|exact h3 n
theorem lG.del{H:Hp}{b:Nat}{f:Int→Option Value}(h:lG H b f){i:Int}{F:Hp→Prop}(hk:∀H',lG H' b (Nc f i)→ag (fun x=>x=b) H H'→F H'):
  Yi H .int b (.int .i64 i) F:=by
 obtain⟨es,k,h1,h2,h3⟩:=h
 unfold Yi
 simp only[h1,nO]
 have tM:∀VZ k',ag (fun x=>x=b) H (H.Dw b VZ k'):=fun VZ k'=>(ag.refl (fun x=>x=b) H).Dw (fun _=>rfl) _ _
 rcases Dp i es h2 0 with ⟨h4,h5⟩| ⟨j,e,h4,h5,h6,h7⟩
 ·rw[h5]
  refine hk _ ⟨_,_,lj h1,h2,fun n=>?_⟩ (tM _ _)
  rw[Gv,h3 n]
  unfold Nc
  by_cases hn:n=i
  ·subst hn;rw[if_pos rfl,←h3 n];exact h4
  ·rw[if_neg hn]
 ·rw[h7]
  obtain⟨e1,e2⟩:=Ov es h2 j e i h4 h5
  refine hk _ ⟨_,_,lj h1,by rw[Gv,aoi];exact e1,fun n=>?_⟩ (tM _ _)
  rw[Gv,aoi,e2 n]
  unfold Nc
  split<;>first|rfl|exact h3 n
end Go.Vc

namespace Go.Vc
section
variable {P : Program} {ev : Ev} {H : Hp} {K K' : Value → Hp → Prop}
theorem Ow{s:Shape}{r:Option Nat}{k:Value}{F G:Option Value→Prop}(h:yq H s r k F)(hk:∀x,F x→G x):yq H s r k G:=by
 unfold yq at*
 cases r with
 |none=>exact hk _ h
 |some b=>exact ak h fun m h=>ak h fun x=>hk _
theorem Kh{T size bytes:Nat}{z:List Value}{s x:Value}(h:gk T size bytes z s x H K)(hk:∀v H',K v H'→K' v H'):gk T size bytes z s x H K':=by
 refine lC h fun base n c h=>zX h fun m new h=>?_
 obtain⟨h1,h2,h3⟩:=h
 exact⟨fun a b=>hk _ _ (h1 a b),fun a b=>zW (h2 a b) fun b o h=>ak h fun l h=>bN h (hk _ _),fun a=>⟨(h3 a).1,zX (h3 a).2 fun n l h c' hc=>hk _ _ (h c' hc)⟩⟩
theorem GN(i:dh)(h:i.vc P ev H K)(hk:∀v H',K v H'→K' v H'):i.vc P ev H K':=by
 cases hc:i.cls with
 |pure=>exact Pd i hc h hk
 |quiet=>
  cases i<;>simp[dh.cls]at hc<;>simp only[dh.vc]at h ⊢
  ·exact ak h fun v h=>qJ h fun b o h=>ak h fun l h=>ak h fun v=>hk _ _
  ·exact ak h fun v h=>qJ h fun b o h=>ak h fun l h=>bN h (hk _ _)
  ·exact ak h fun v h=>ak h fun v h=>vS h fun r h=>bN h fun h=>Ow h fun x=>hk _ _
  ·refine ak h fun v h=>vS h fun r h=>?_
   unfold Md at*
   cases r with
   |none=>exact hk _ _ h
   |some b=>exact ak h fun m=>hk _ _
  ·exact ak h fun v h=>DN h fun l=>hk _ _
 |HI=>
  cases i<;>simp[dh.cls]at hc<;>simp only[dh.vc]at h ⊢
  ·exact ak h fun v=>hk _ _
  ·exact hk _ _ h
  ·exact GK h fun l=>hk _ _
  ·exact ak h fun v h=>qJ h fun b o h=>ak h fun v h=>ak h fun l h=>bN h fun h=>bN h fun h=>bN h (hk _ _)
  ·exact hk _ _ h
  ·exact ak h fun v h=>ak h fun v h=>kg h fun n h=>kg h fun c h=>bN h (hk _ _)
  ·exact ak h fun v h=>ak h fun v h=>ak h fun v h=>vS h fun r h=>ak h fun b h=>bN h fun h=>ak h fun es h=>ak h fun x h=>bN h (hk _ _)
  ·exact lz h fun l h=>af.mono h hk
  ·refine ak h fun v h=>lz h fun l h=>?_
   unfold Yk at*
   split at h
   ·exact⟨h.1,h.2.mono hk⟩
   ·exact h.elim
  ·refine ak h fun v h=>lz h fun l h=>?_
   obtain⟨T,v,f,rv,e,hm,hc⟩:=h
   exact⟨T,v,f,rv,e,hm,hc.mono hk⟩
  ·exact ak h fun v h=>ak h fun v h=>Kh h hk
  ·exact ak h fun v h=>ak h fun v h=>vS h fun r h=>ak h fun b h=>bN h fun h=>ak h fun es h=>ak h fun x=>hk _ _
  ·exact ak h fun v h=>lC h fun a n c h=>by
    rcases h with ⟨h1,h2⟩| ⟨h1,b,o,l,h2,h3,h4,h5,h6⟩
    ·exact .inl ⟨h1,hk _ _ h2⟩
    ·exact .inr ⟨h1,b,o,l,h2,h3,h4,h5,hk _ _ h6⟩
  ·refine ak h fun v h=>?_
   unfold jv at*
   split at h
   ·exact fun c hc=>hk _ _ (h c hc)
   ·exact h.elim
  ·exact lz h fun l h=>by obtain⟨v,h1,h2⟩:=h;exact⟨v,h1,hk _ _ h2⟩
theorem Mz(s:fM)(h:s.vc P ev H K)(hk:∀v H',K v H'→K' v H'):s.vc P ev H K':=by
 unfold fM.vc at*
 cases hq:s.quiet
 ·rw[hq]at h;exact GN s.op h hk
 ·rw[hq]at h;obtain⟨v,h1,h2⟩:=h;exact⟨v,h1,hk _ _ h2⟩
theorem Pf{o:Option Value}{F F':Bool→Prop}{N N':Prop}(h:gV o F N)(hf:∀b,F b→F' b)(hn:N→N'):gV o F' N':=by
 rcases EV h with ⟨b,rfl,h⟩| ⟨vs,rfl,h⟩
 ·exact hf b h
 ·exact hn h
theorem BY{b:Bool}{A A' B B':Prop}(h:Gt b A B)(ha:A→A')(hb:B→B'):Gt b A' B':=by
 cases b
 ·exact hb h
 ·exact ha h
theorem Ox{F F':Env→Hp→Prop}(hk:∀e H,F e H→F' e H):∀ (l:List fM) (env:Env) (H:Hp),iN P F l env H→iN P F' l env H:=by
 intro l
 induction l with
 |nil=>intro env H h;exact hk _ _ h
 |cons s l ih=>
  intro env H h
  unfold iN at h ⊢
  cases hg:s.guard with
  |none=>rw[hg]at h;exact Mz s h fun v H'=>ih _ _
  |some g=>
   rw[hg]at h
   exact Pf h (fun b h=>BY h (fun h=>Mz s h fun v H'=>ih _ _) (ih _ _)) (ih _ _)
theorem Dq{s:fM}{env:Env}{F F' N N':Env→Prop}(h:BW s env F N)(hf:∀e,F e→F' e)(hn:∀e,N e→N' e):BW s env F' N':=by
 unfold BW at*
 cases hg:s.guard with
 |none=>rw[hg]at h;exact hf _ h
 |some g=>rw[hg]at h;exact Pf h (fun b h=>BY h (hf _) (hn _)) (hn _)
theorem Te{Inv:Hp→Prop}{F F':Env→Hp→Prop}(hk:∀e H,F e H→F' e H):∀ (t:sM) (env:Env) (H:Hp),Do P Inv F t env H→Do P Inv F' t env H:=by
 intro t
 induction t with
 |done=>intro env H h;exact hk _ _ h
 |stop=>intro env H h;trivial
 |aR s t ih=>intro env H h;exact Dq h (fun e h=>GN s.op h fun v H'=>ih _ _) (fun e=>ih _ _)
 |xQ s t ih=>intro env H h;exact Dq h (fun e h=>by obtain⟨v,h1,h2⟩:=h;exact⟨v,h1,ih _ _ h2⟩) (fun e=>ih _ _)
 |aE s t r ih ihr=>intro env H h;exact⟨Dq h.1 (fun e h=>GN s.op h fun v H' h=>bN h (ih _ _)) (fun e=>ih _ _),ihr _ _ h.2⟩
theorem DI:∀ (s:S) (env:Env) (H:Hp) (Kn Q1:Env→Hp→Prop) (Kx Q2:Nat→Env→Hp→Prop) (Kr Q3:Env→Hp→Prop),(∀e H,Kn e H→Q1 e H)→(∀i e H,Kx i e H→Q2 i e H)→(∀e H,Kr e H→Q3 e H)→
  vc P s env H Kn Kx Kr→vc P s env H Q1 Q2 Q3:=by
 intro s
 induction s with
 |skip=>intro env H Kn Q1 Kx Q2 Kr Q3 hn hx hr h;exact hn _ _ h
 |aT ops aM=>intro env H Kn Q1 Kx Q2 Kr Q3 hn hx hr h;exact Ox (fun e H h=>hn _ _ h) ops env H h
 |nh t aM=>intro env H Kn Q1 Kx Q2 Kr Q3 hn hx hr h;obtain⟨Inv,hI,h⟩:=h;exact⟨Inv,hI,Te (fun e H h=>hn _ _ h) t env H h⟩
 |seq a b iha ihb=>intro env H Kn Q1 Kx Q2 Kr Q3 hn hx hr h;exact iha env H _ _ _ _ _ _ (fun e H h=>ihb e H _ _ _ _ _ _ hn hx hr h) hx hr h
 |cond c x y ihx ihy=>
  intro env H Kn Q1 Kx Q2 Kr Q3 hn hx hr h
  simp only[vc]at*
  unfold GL at*
  split at h
  ·exact GJ h fun b h=>BY h (ihx _ _ _ _ _ _ _ _ hn hx hr) (ihy _ _ _ _ _ _ _ _ hn hx hr)
  ·exact h.elim
 |Cl id b ih=>intro env H Kn Q1 Kx Q2 Kr Q3 hn hx hr h;exact ih env H _ _ _ _ _ _ hn (fun i e H h=>BY h (hn _ _) (hx _ _ _)) hr h
 |loop L b ih=>
  intro env H Kn Q1 Kx Q2 Kr Q3 hn hx hr h
  obtain⟨I,h0,round⟩:=h
  exact⟨I,h0,fun m env H hI=>ih env H _ _ _ _ _ _ (fun e H h=>h) hx hr (round m env H hI)⟩
 |exit id=>intro env H Kn Q1 Kx Q2 Kr Q3 hn hx hr h;exact hx _ _ _ h
 |ret=>intro env H Kn Q1 Kx Q2 Kr Q3 hn hx hr h;exact hr _ _ h
 |bad=>intro env H Kn Q1 Kx Q2 Kr Q3 hn hx hr h;exact h.elim
def Pu(a b:S):S:=.seq a b
theorem UI(a b:S)(env:Env)(H:Hp)(Kn:Env→Hp→Prop)(Kx:Nat→Env→Hp→Prop)(Kr:Env→Hp→Prop):vc P (Pu a b) env H Kn Kx Kr=vc P a env H (fun aV H'=>vc P b aV H' Kn Kx Kr) Kx Kr:=rfl
theorem Nt{a b:S}{env:Env}{H:Hp}{Kn:Env→Hp→Prop}{Kx:Nat→Env→Hp→Prop}{Kr:Env→Hp→Prop}(M:Env→Hp→Prop)(h1:vc P a env H M Kx Kr)(h2:∀e H',M e H'→vc P b e H' Kn Kx Kr):vc P (Pu a b) env H Kn Kx Kr:=
 DI a env H _ _ _ _ _ _ h2 (fun _ _ _ h=>h) (fun _ _ h=>h) h1
end
end Go.Vc

namespace Go.Vc
def Ki(P:Program)(T:TypeId)(name:String):Option (List FieldStep×Option (FuncId×Bool)):=
 ((P.info? T).bind fun i=>i.methods.find? (·.name==name)).map fun m=>(m.path.toList,m.func)
theorem vp{P:Program}{T:TypeId}{name:String}{p:List FieldStep}{f:Option (FuncId×Bool)}(h:Ki P T name=some (p,f)):
  ∃i m,P.info? T=some i∧i.methods.find? (·.name==name)=some m∧m.path.toList=p∧m.func=f:=by
 unfold Ki at h
 cases hi:P.info? T with
 |none=>rw[hi]at h;cases h
 |some i=>
  rw[hi]at h
  simp only[Option.bind_some]at h
  cases hm:i.methods.find? (·.name==name)with
  |none=>rw[hm]at h;cases h
  |some m=>
   rw[hm]at h
   simp only[Option.map_some,aos,Prod.mk.injEq]at h
   exact⟨i,m,rfl,hm,h.1,h.2⟩
def V8(P:Program)(T:TypeId)(name:String):Option FuncId:=
 match Ki P T name,P.underlying T with
 |some ([],some (f,true)),some (.pointer _)=>if eF P f then some f else none
 |_,_=>none
theorem bD{P:Program}{H:Hp}{T:TypeId}{v:Value}{name:String}{f:FuncId}(h:V8 P T name=some f):SS P H T v name f v:=by
 unfold V8 at h
 split at h
 ·rename_i f' e h1 hu
  split at h
  ·rename_i hc
   injection h with h
   subst h
   refine⟨hc,fun w hw=>?_⟩
   obtain⟨i,m,g1,g2,g3,g4⟩:=vp h1
   show(method ((P.types.size+99)+1) T v name).run P w=_
   unfold method
   simp[ed g1,g2,g3,g4,follow,receiverAt,run_underlying hu,Place.get]
  ·cases h
 ·cases h
def Pg(P:Program)(T:TypeId)(name:String):Option (Nat×FuncId):=
 match Ki P T name with
 |some ([s],some (f,true))=>
  match s.deref,P.underlying s.struct with
  |true,some (.struct fs)=>
   match fs[s.index]? with
   |some fd=>match P.underlying fd.type with
    |some (.pointer _)=>if(P.info? fd.type).isSome∧P.cellsOf fd.type≠0∧eF P f=true then some (fd.offset,f)else none
    |_=>none
   |none=>none
  |_,_=>none
 |_=>none
theorem EK{P:Program}{fd:Field}(hi:(P.info? fd.type).isSome=true)(h0:P.cellsOf fd.type≠0)(a:Addr)(w:World):(fieldPlace a fd).run P w= .ok (a.add fd.offset) w:=by
 simp[fieldPlace,bL hi,h0]
theorem fU{P:Program}{H:Hp}{T:TypeId}{b o off:Nat}{l:List Value}{rv:Value}{name:String}{f:FuncId}(h:Pg P T name=some (off,f))(hr:H.rd b=some l)(hv:l[o+off]? =some rv):
  SS P H T (.pointer (some ⟨b,o,none⟩)) name f rv:=by
 unfold Pg at h
 split at h
 ·rename_i s f' h1
  split at h
  ·rename_i fs hd hs
   split at h
   ·rename_i fd hf
    split at h
    ·rename_i e hu
     split at h
     ·rename_i hc
      simp only[aos,Prod.mk.injEq]at h
      obtain⟨rfl,rfl⟩:=h
      refine⟨hc.2.2,fun w hw=>?_⟩
      subst hw
      obtain⟨i,m,g1,g2,g3,g4⟩:=vp h1
      have hus:(P.underlying fd.type).isSome=true:=by rw[hu];rfl
      have hag:eU P fd.type=false:=by unfold eU;rw[hu]
      have adf:=(jw (P:=P) (w:=w) (t:=fd.type) hc.1 hus hr).2 hag rv hv
      show(method ((P.types.size+99)+1) T _ name).run P w=_
      unfold method
      simp[ed g1,g2,g3,g4,follow,run_underlying hs,hf,hd,Place.get,asAddr,EK hc.1 hc.2.1,receiverAt,run_underlying hu,zw,adf]
     ·cases h
    ·cases h
   ·cases h
  ·cases h
 ·cases h
theorem aa6{P:Program}{T:TypeId}{a:Addr}{name:String}{x:Nat×FuncId}{cap:Array Value}(h:Pg P T name=some x):PP P (.func (.method name) #[.iface T (.pointer (some a))] cap):=by
 unfold Pg at h
 split at h
 ·rename_i s f' h1
  split at h
  ·rename_i fs hd hs
   split at h
   ·rename_i fd hf
    refine .inr ⟨name,T,_,cap,rfl,fun w=>?_⟩
    obtain⟨i,m,g1,g2,g3,g4⟩:=vp h1
    show(nilAhead ((P.types.size+99)+1) T _ name).run P w=_
    unfold nilAhead
    simp[ed g1,g2,g3,g4,followBlind,run_underlying hs,hf,hd]
   ·cases h
  ·cases h
 ·cases h
theorem gP.mono{P:Program}{recv:Value}{name:String}{args:List Value}{H:Hp}{K K':Value→Hp→Prop}(h:gP P recv name args H K)(hk:∀v H',K v H'→K' v H'):gP P recv name args H K':=by
 obtain⟨T,v,f,rv,h1,h2,h3⟩:=h
 exact⟨T,v,f,rv,h1,h2,h3.mono hk⟩
end Go.Vc

namespace Go.Vc
end Go.Vc
