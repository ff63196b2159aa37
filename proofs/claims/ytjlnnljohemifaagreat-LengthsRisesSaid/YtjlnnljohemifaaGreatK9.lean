/-
  Texts put behind each other by a program: Fun, Lib, Cut, Meth.
-/
import Derived.Test.YtjlnnljohemifaaGreatK8
set_option linter.unusedVariables false
set_option linter.unusedSimpArgs false
namespace Go.Vc
abbrev tt(n:Nat):Operand:=.tmp n
abbrev ki(n:Int):Operand:=.const (.int .i64 n)
abbrev kb(b:Bool):Operand:=.const (.bool b)
abbrev s1(d:Nat)(op:dc):gB:=⟨false,none,some d,op⟩
abbrev s0(op:dc):gB:=⟨false,none,none,op⟩
abbrev sg(g:Nat)(w:Bool)(d:Nat)(op:dc):gB:=⟨false,some (g,w),some d,op⟩
abbrev sq(d:Nat)(op:dc):gB:=⟨true,none,some d,op⟩
inductive S where
 |skip
 |ag(ops:List gB)(aN:List Nat)
 |rG(t:S5)(aN:List Nat)
 |seq(a b:S)
 |cond(c:Operand)(x y:S)
 |cR(id:Nat)(b:S)
 |loop(ahw:List Nat)(b:S)
 |exit(id:Nat)
 |ret
 |bad
 deriving Inhabited
def bD(F:Env→Hp→(Env→Hp→Prop)→Prop)(env:Env)(H:Hp)(_t:Tag F:=⟨⟩):Prop:=
 ∃I:Nat→Env→Hp→Prop,(∃m,I m env H)∧∀m env H,I m env H→F env H fun be H'=>∃m',m'<m∧I m' be H'
theorem bD.intro{F:Env→Hp→(Env→Hp→Prop)→Prop}{env:Env}{H:Hp}(I:Nat→Env→Hp→Prop)(m:Nat)(h0:I m env H)
  (round:∀m env H,I m env H→F env H fun be H'=>∃m',m'<m∧I m' be H'):bD F env H:=⟨I,⟨m,h0⟩,round⟩
def vc(P:Program):S→Env→Hp→(Env→Hp→Prop)→(Nat→Env→Hp→Prop)→(Env→Hp→Prop)→Prop
 | .skip,env,H,Kn,_,_=>Kn env H
 | .ag ops aN,env,H,Kn,_,_=>kH P (fun be H'=>now (Env.aN be aN) fun e=>Kn e H') ops env H
 | .rG t aN,env,H,Kn,_,_=>rV H fun Inv=>Et P Inv (fun be H'=>now (Env.aN be aN) fun e=>Kn e H') t env H
 | .seq a b,env,H,Kn,Kx,Kr=>vc P a env H (fun be H'=>vc P b be H' Kn Kx Kr) Kx Kr
 | .cond c x y,env,H,Kn,Kx,Kr=>Hq (Env.ev env c) fun t=>G7 t (vc P x env H Kn Kx Kr) (vc P y env H Kn Kx Kr)
 | .cR id b,env,H,Kn,Kx,Kr=>vc P b env H Kn (fun i be H'=>G7 (i==id) (Kn be H') (Kx i be H')) Kr
 | .loop L b,env,H,_,Kx,Kr=>bD (fun be H' again=>vc P b be H' (fun e h=>again (Env.aN e L) h) Kx Kr) (Env.aN env L) H
 | .exit id,env,H,_,Kx,_=>Kx id env H
 | .ret,env,H,_,_,Kr=>Kr env H
 | .bad,_,_,_,_,_=>False
section
variable (P : Program) (env : Env) (H : Hp) (Kn : Env → Hp → Prop) (Kx : Nat → Env → Hp → Prop) (Kr : Env → Hp → Prop)
@[go_sem ↓] theorem Ue:vc P .skip env H Kn Kx Kr=Kn env H:=(rfl)
@[go_sem ↓] theorem afP(ops:List gB)(aN:List Nat):vc P (.ag ops aN) env H Kn Kx Kr=kH P (fun be H'=>now (Env.aN be aN) fun e=>Kn e H') ops env H:=(rfl)
@[go_sem ↓] theorem adp(t:S5)(aN:List Nat):vc P (.rG t aN) env H Kn Kx Kr=rV H fun Inv=>Et P Inv (fun be H'=>now (Env.aN be aN) fun e=>Kn e H') t env H:=(rfl)
@[go_sem ↓] theorem WT(a b:S):vc P (.seq a b) env H Kn Kx Kr=vc P a env H (fun be H'=>vc P b be H' Kn Kx Kr) Kx Kr:=(rfl)
@[go_sem ↓] theorem UG(c:Operand)(x y:S):vc P (.cond c x y) env H Kn Kx Kr=Hq (Env.ev env c) fun t=>G7 t (vc P x env H Kn Kx Kr) (vc P y env H Kn Kx Kr):=(rfl)
@[go_sem ↓] theorem WU(id:Nat)(b:S):vc P (.cR id b) env H Kn Kx Kr=vc P b env H Kn (fun i be H'=>G7 (i==id) (Kn be H') (Kx i be H')) Kr:=(rfl)
@[go_sem ↓] theorem adq(L:List Nat)(b:S):vc P (.loop L b) env H Kn Kx Kr=bD (fun be H' again=>vc P b be H' (fun e h=>again (Env.aN e L) h) Kx Kr) (Env.aN env L) H:=(rfl)
@[go_sem ↓] theorem adr(id:Nat):vc P (.exit id) env H Kn Kx Kr=Kx id env H:=(rfl)
@[go_sem ↓] theorem afQ:vc P .bad env H Kn Kx Kr=False:=(rfl)
@[go_sem ↓] theorem afR:vc P .ret env H Kn Kx Kr=Kr env H:=(rfl)
end
attribute [go_sem] cond_true cond_false
abbrev TA:=List Nat×List Nat×List Nat
def KA:Nat→List Nat→Option (Ot×List Nat)
 |0,_=>none
 |_+1,0::r=>some (.done,r)
 |f+1,1::i::r=>match KA f r with
  |some (t,r)=>some (.step i t,r)
  |none=>none
 |f+1,2::i::r=>match KA f r with
  |some (t,r)=>match KA f r with
   |some (u,r)=>some (.aQ i t u,r)
   |none=>none
  |none=>none
 |_+1,3::r=>some (.stop,r)
 |_+1,_=>none
def vT(P:Program)(n:Nat):Code→List TA→Option (S×List TA)
 | .skip,an=>some (.skip,an)
 | .region _ ops draw,an=>
  match an with
  | []=>none
  | (aN,q,x::tr)::an=>
   match j0 P n ops q 0 ops.toList with
   |none=>none
   |some ss=>
    match KA (tr.length+2) (x::tr)with
    |some (t,[])=>
     if draw=true∧Cj ops (Region.before ops)=true∧Td ops (Region.before ops) (Ms ss) t (Array.replicate ops.size false) []=true∧Region.noSelect ops=true then(attach ss t).map fun ts=>(.rG ts aN,an)else none
    |_=>none
  | (aN,q,[])::an=>
   match j0 P n ops q 0 ops.toList with
   |none=>none
   |some ss=>
    if draw=false∨(Cj ops (Region.before ops)=true∧Ck ops (Region.before ops) (SZ ss)=true∧Region.noSelect ops=true)then some (.ag ss aN,an)else none
 | .seq a b,an=>
  match vT P n a an with
  |none=>none
  |some (x,an)=>match vT P n b an with
   |none=>none
   |some (y,an)=>some (.seq x y,an)
 | .cond c a b,an=>
  match vT P n a an with
  |none=>none
  |some (x,an)=>match vT P n b an with
   |none=>none
   |some (y,an)=>some (.cond c x y,an)
 | .block id a,an=>match vT P n a an with
  |none=>none
  |some (x,an)=>some (.cR id x,an)
 | .loop a,an=>
  match an with
  | []=>none
  | (L,_,_)::an=>match vT P n a an with
   |none=>none
   |some (x,an)=>some (.loop L x,an)
 | .exit id,an=>some (.exit id,an)
 | .ret,an=>some (.ret,an)
 | .refuse _,an=>some (.bad,an)
 |_,_=>none
theorem wp_loop_ghost{P:Program}{Q:Exit→Act→World→Prop}{a:Act}{w:World}{c:Code}(I:Nat→Act→World→Prop){m:Nat}(h₀:I m a w)
  (round:∀m a w,I m a w→c.wp P (Exit.then (fun a' w'=>∃m',m'<m∧I m' a' w') Q) a w):(Code.loop c).wp P Q a w:=by
 intro b k cs
 have key:∀n a w,I n a w→∃e a' w',Q e a' w'∧Arrives P (lone (b.at a (.code c:: .inLoop c::k)) cs w) b k cs e a' w':=by
  intro n
  induction n using Nat.strongRecOn with
  |_ n ih=>
   intro a w hI
   obtain⟨e,a₁,w₁,hq,Mu⟩:=round n a w hI b (.inLoop c::k) cs
   cases e with
   |normal=>
    obtain⟨m',aR,hI₁⟩:=hq
    obtain⟨e₂,a₂,w₂,hq₂,abF⟩:=ih m' aR a₁ w₁ hI₁
    exact⟨e₂,a₂,w₂,hq₂,.of_steps (Steps.trans Mu (.one step_inLoop)) abF⟩
   |exit id=>exact⟨_,a₁,w₁,hq,.pass (x:=.inLoop c) rfl (fun _ _=>.inl (by simp)) Mu⟩
   |goto l=>exact⟨_,a₁,w₁,hq,.pass (x:=.inLoop c) rfl (fun _ _=>.inl (by simp)) Mu⟩
   |ret=>exact⟨_,a₁,w₁,hq,.pass (x:=.inLoop c) rfl (fun _ _=>.inl (by simp)) Mu⟩
   |panic ch=>exact⟨_,a₁,w₁,hq,.pass (x:=.inLoop c) rfl (fun _ _=>.inl (by simp)) Mu⟩
   |outgrown=>exact⟨_,a₁,w₁,hq,.pass (x:=.inLoop c) rfl (fun _ _=>.inl (by simp)) Mu⟩
 obtain⟨e,a',w',hq,Mu⟩:=key _ a w h₀
 exact⟨e,a',w',hq,.of_steps (.one step_loop) Mu⟩
theorem Lg{P:Program}{n:Nat}(hm:P.follows .mixedOrders=true):∀ (c:Code) (an:List TA) (s:S) (S7:List TA),vT P n c an=some (s,S7)→
  ∀ (env:Env) (a:Act) (w:World) (Kn:Env→Hp→Prop) (Kx:Nat→Env→Hp→Prop) (Kr:Env→Hp→Prop) (Q:Exit→Act→World→Prop),Holds env a n→vc P s env w.heap Kn Kx Kr→
   (∀be a' w',bZ w w'→Holds be a' n→Kn be w'.heap→Q .normal a' w')→
   (∀i be a' w',bZ w w'→Holds be a' n→Kx i be w'.heap→Q (.exit i) a' w')→
   (∀be a' w',bZ w w'→Holds be a' n→Kr be w'.heap→Q .ret a' w')→c.wp P Q a w:=by
 intro c
 induction c with
 |skip=>
  intro an s S7 hd env a w Kn Kx Kr Q hh h hn hx hr
  simp only[vT,Option.some.injEq,Prod.mk.injEq]at hd
  obtain⟨rfl,rfl⟩:=hd
  exact wp_skip (hn env a w (bZ.refl w) hh h)
 |region id ops draw=>
  intro an s S7 hd env a w Kn Kx Kr Q hh h hn hx hr
  unfold vT at hd
  split at hd
  ·cases hd
  ·rename_i aN q x tr an0
   split at hd
   ·cases hd
   ·rename_i ss hss
    split at hd
    ·rename_i t ht
     split at hd
     ·rename_i hc
      obtain⟨rfl,h1,h2,h3⟩:=hc
      cases Vd:attach ss t with
      |none=>rw[Vd]at hd;cases hd
      |some ts=>
       rw[Vd]at hd
       simp only[Option.map_some,Option.some.injEq,Prod.mk.injEq]at hd
       obtain⟨rfl,rfl⟩:=hd
       have hl:∀k,ops.toList[k]? =ops[0+k]? :=fun k=>by simp
       have hQ:∀a' w',bZ w w'→(∃be,Holds be a' n∧Kn (Env.aN be aN) w'.heap)→Q .normal a' w':=fun a' w' hs ⟨be,qU,hk⟩=>hn _ a' w' hs (qU.aN aN) hk
       have ce:=Oe (P:=P) (ops:=ops) (n:=n) ops.toList 0 ss hl hss
       obtain⟨Inv,hI,h⟩:=h
       have h4:=Mt (P:=P) (ops:=ops) (n:=n) (q:=q) (Inv:=Inv) (ss:=ss) (fun k s hk=>by have:=ce k s hk;simpa using this) t ts Vd env a w.heap hh h
       exact Gm (K:=fun a' H'=>∃be,Holds be a' n∧Kn (Env.aN be aN) H') hm h1 h2 h3 hI hQ (by simpa[NL]using h4)
     ·cases hd
    ·cases hd
  ·rename_i aN q an0
   split at hd
   ·cases hd
   ·rename_i ss hss
    split at hd
    ·rename_i abG
     simp only[Option.some.injEq,Prod.mk.injEq]at hd
     obtain⟨rfl,rfl⟩:=hd
     have hl:∀k,ops.toList[k]? =ops[0+k]? :=fun k=>by simp
     have hQ:∀a' w',bZ w w'→(∃be,Holds be a' n∧Kn (Env.aN be aN) w'.heap)→Q .normal a' w':=fun a' w' hs ⟨be,qU,hk⟩=>hn _ a' w' hs (qU.aN aN) hk
     cases draw with
     |false=>
      have h1:=Oc (P:=P) (ops:=ops) (n:=n) ops.toList 0 ss hl hss env a w.heap hh h
      refine Gj (K:=fun a' H'=>∃be,Holds be a' n∧Kn (Env.aN be aN) H') hQ ?_
      rw[List.range_eq_range']
      simpa[NL]using h1
     |true=>
      obtain⟨h1,h2,h3⟩:=abG.resolve_left (by simp)
      have h4:=Od (P:=P) (ops:=ops) (n:=n) (cls:=SZ ss) ops.toList 0 ss hl hss (fun k s hk=>by simp[SZ,hk]) env a w.heap hh h
      refine Gi (K:=fun a' H'=>∃be,Holds be a' n∧Kn (Env.aN be aN) H') hm h1 h2 h3 hQ ?_
      rw[List.range_eq_range']
      simpa[NL]using h4
    ·cases hd
 |seq x y ihx ihy=>
  intro an s S7 hd env a w Kn Kx Kr Q hh h hn hx hr
  unfold vT at hd
  split at hd
  ·cases hd
  ·rename_i sx XD XE
   split at hd
   ·cases hd
   ·rename_i sy an2 hdy
    simp only[Option.some.injEq,Prod.mk.injEq]at hd
    obtain⟨rfl,rfl⟩:=hd
    refine wp_seq (ihx an sx XD XE env a w _ Kx Kr _ hh h ?_ ?_ ?_)
    ·intro be a' w' hs qU hk
     exact ihy XD sy _ hdy be a' w' Kn Kx Kr Q qU hk (fun e b v E8=>hn e b v (hs.trans E8)) (fun i e b v E8=>hx i e b v (hs.trans E8)) (fun e b v E8=>hr e b v (hs.trans E8))
    ·intro i be a' w' hs qU hk;exact hx i be a' w' hs qU hk
    ·intro be a' w' hs qU hk;exact hr be a' w' hs qU hk
 |cond c x y ihx ihy=>
  intro an s S7 hd env a w Kn Kx Kr Q hh h hn hx hr
  unfold vT at hd
  split at hd
  ·cases hd
  ·rename_i sx XD XE
   split at hd
   ·cases hd
   ·rename_i sy an2 hdy
    simp only[Option.some.injEq,Prod.mk.injEq]at hd
    obtain⟨rfl,rfl⟩:=hd
    rw[UG]at h
    unfold Hq at h
    split at h
    ·rename_i v hv
     obtain⟨b,hb,h2⟩:=Bf h
     subst hb
     have hc:=hh.xI _ _ hv
     refine wp_cond_split hc (fun hb=>?_) (fun hb=>?_)
     ·subst hb;exact ihx an sx XD XE env a w Kn Kx Kr Q hh h2 hn hx hr
     ·subst hb;exact ihy XD sy _ hdy env a w Kn Kx Kr Q hh h2 hn hx hr
    ·exact h.elim
 |block id x ih=>
  intro an s S7 hd env a w Kn Kx Kr Q hh h hn hx hr
  unfold vT at hd
  split at hd
  ·cases hd
  ·rename_i sx XD XE
   simp only[Option.some.injEq,Prod.mk.injEq]at hd
   obtain⟨rfl,rfl⟩:=hd
   refine wp_block (ih an sx _ XE env a w Kn _ Kr _ hh h (fun e b v hs qU hk=>hn e b v hs qU hk) ?_ (fun e b v hs qU hk=>hr e b v hs qU hk))
   intro i be a' w' hs qU hk
   show if i=id then Q .normal a' w' else Q (.exit i) a' w'
   by_cases e:i=id
   ·subst e
    simp only[beq_self_eq_true,G7]at hk
    rw[if_pos rfl]
    exact hn be a' w' hs qU hk
   ·have:(i==id)=false:=by simpa using e
    simp only[this,G7]at hk
    rw[if_neg e]
    exact hx i be a' w' hs qU hk
 |loop x ih=>
  intro an s S7 hd env a w Kn Kx Kr Q hh h hn hx hr
  unfold vT at hd
  split at hd
  ·cases hd
  ·rename_i L q tr an0
   split at hd
   ·cases hd
   ·rename_i sx XD XE
    simp only[Option.some.injEq,Prod.mk.injEq]at hd
    obtain⟨rfl,rfl⟩:=hd
    obtain⟨I,⟨m,h0⟩,round⟩:=h
    refine wp_loop_ghost (fun m a' w'=>bZ w w'∧∃be,Holds be a' n∧I m be w'.heap) ⟨bZ.refl w,_,hh.aN L,h0⟩ ?_
    rintro m a' w' ⟨hs,be,qU,hI⟩
    refine ih an0 sx _ XE be a' w' _ Kx Kr _ qU (round m be w'.heap hI) ?_ ?_ ?_
    ·rintro e b v E8 hb ⟨m',aR,TI⟩
     exact⟨m',aR,hs.trans E8,_,hb.aN L,TI⟩
    ·intro i e b v E8 hb hk;exact hx i e b v (hs.trans E8) hb hk
    ·intro e b v E8 hb hk;exact hr e b v (hs.trans E8) hb hk
 |exit id=>
  intro an s S7 hd env a w Kn Kx Kr Q hh h hn hx hr
  simp only[vT,Option.some.injEq,Prod.mk.injEq]at hd
  obtain⟨rfl,rfl⟩:=hd
  exact wp_exit (hx id env a w (bZ.refl w) hh h)
 |ret=>
  intro an s S7 hd env a w Kn Kx Kr Q hh h hn hx hr
  simp only[vT,Option.some.injEq,Prod.mk.injEq]at hd
  obtain⟨rfl,rfl⟩:=hd
  exact wp_ret (hr env a w (bZ.refl w) hh h)
 |refuse r=>
  intro an s S7 hd env a w Kn Kx Kr Q hh h hn hx hr
  simp only[vT,Option.some.injEq,Prod.mk.injEq]at hd
  obtain⟨rfl,rfl⟩:=hd
  exact h.elim
 |_=>intro an s S7 hd;simp[vT]at hd
inductive XF where
 |tmp(t:Nat)
 |one(t:Nat)
 |agg(t n:Nat)
 deriving Inhabited
structure Fn where
 np:Nat
 res:List XF
 body:S
 deriving Inhabited
def wZ(env:Env)(H:Hp):List XF→(List Value→Prop)→Prop
 | [],F=>F []
 | .tmp t::r,F=>aE (Env.find env t) fun v=>wZ env H r fun vs=>F (v::vs)
 | .one t::r,F=>aE (Env.find env t) fun p=>zv p fun b o=>aE (H.rd b) fun l=>aE l[o]? fun v=>wZ env H r fun vs=>F (v::vs)
 | .agg t n::r,F=>aE (Env.find env t) fun p=>zv p fun b o=>aE (H.rd b) fun l=>eC (o+n≤l.length) (wZ env H r fun vs=>F (.agg ((l.drop o).take n).toArray::vs))
@[go_sem ↓] theorem abJ(env:Env)(H:Hp)(F:List Value→Prop):wZ env H [] F=F []:=(rfl)
@[go_sem ↓] theorem abK(env:Env)(H:Hp)(t:Nat)(r:List XF)(F:List Value→Prop):wZ env H (.tmp t::r) F=aE (Env.find env t) fun v=>wZ env H r fun vs=>F (v::vs):=(rfl)
@[go_sem ↓] theorem abL(env:Env)(H:Hp)(t:Nat)(r:List XF)(F:List Value→Prop):
  wZ env H (.one t::r) F=aE (Env.find env t) fun p=>zv p fun b o=>aE (H.rd b) fun l=>aE l[o]? fun v=>wZ env H r fun vs=>F (v::vs):=(rfl)
@[go_sem ↓] theorem abM(env:Env)(H:Hp)(t n:Nat)(r:List XF)(F:List Value→Prop):
  wZ env H (.agg t n::r) F=aE (Env.find env t) fun p=>zv p fun b o=>aE (H.rd b) fun l=>eC (o+n≤l.length) (wZ env H r fun vs=>F (.agg ((l.drop o).take n).toArray::vs)):=(rfl)
def M3:List Value→Value
 | [v]=>v
 |vs=>.tuple vs.toArray
@[go_sem] theorem adt(v:Value):M3 [v]=v:=(rfl)
@[go_sem] theorem adu:M3 []= .tuple [].toArray:=(rfl)
@[go_sem] theorem adv(v u:Value)(r:List Value):M3 (v::u::r)= .tuple (v::u::r).toArray:=(rfl)
def mY:Nat→List Value→Env
 |_,[]=>[]
 |i,v::r=>(i,v)::mY (i+1) r
@[go_sem] theorem Vy(i:Nat):mY i []=[]:=(rfl)
@[go_sem] theorem UH(i:Nat)(v:Value)(r:List Value):mY i (v::r)=(i,v)::mY (i+1) r:=(rfl)
def Fn.vc(P:Program)(F:Fn)(args:List Value)(H:Hp)(K:Value→Hp→Prop):Prop:=
 args.length=F.np∧Go.Vc.vc P F.body (mY 0 args) H (fun env H=>wZ env H F.res fun vs=>K (M3 vs) H) (fun _ _ _=>False) (fun env H=>wZ env H F.res fun vs=>K (M3 vs) H)
def qe(P:Program):List ResultVar→Option (List XF)
 | []=>some []
 | .tmp t::r=>(qe P r).map (.tmp t:: ·)
 | .cell t T::r=>if(P.info? T).isSome∧(P.underlying T).isSome then(qe P r).map ((if fB P T then .agg t (P.cellsOf T)else .one t):: ·)else none
def ir(P:Program)(f:FuncId)(an:List TA):Option Fn:=
 match P.funcs[f]? with
 |none=>none
 |some fn=>
  match fn.body with
  |none=>none
  |some c=>
   match vT P fn.ntmps c an with
   |some (s,[])=>if fn.params.size≤fn.ntmps then(qe P fn.results.toList).map fun rs=>⟨fn.params.size,rs,s⟩else none
   |_=>none
def DF(tmps:Array Value):ResultVar→Sem Value
 | .tmp t=>pure (tmps.getD t undef)
 | .cell p t=>do loadVar t (←asAddr (tmps.getD p undef))
theorem Cf{P:Program}{w:World}{env:Env}{a:Act}{n:Nat}(hh:Holds env a n):∀ (rs:List ResultVar) (l:List XF) (F:List Value→Prop),qe P rs=some l→wZ env w.heap l F→
  ∃vs,F vs∧(rs.mapM (DF a.tmps)).run P w= .ok vs w:=by
 intro rs
 induction rs with
 |nil=>intro l F hl h;simp only[qe,Option.some.injEq]at hl;subst hl;exact⟨[],h,rfl⟩
 |cons r rs ih=>
  intro l F hl h
  cases r with
  |tmp t=>
   unfold qe at hl
   cases hr:qe P rs with
   |none=>rw[hr]at hl;cases hl
   |some l'=>
    rw[hr]at hl
    simp only[Option.map_some,Option.some.injEq]at hl
    subst hl
    obtain⟨v,hv,h⟩:=aC h
    obtain⟨vs,hF,rq⟩:=ih l' _ hr h
    have e:a.tmps.getD t undef=v:=by simp[hh.C3 t v hv]
    exact⟨v::vs,hF,by rw[List.mapM_cons];simp only[DF,Sem.run_bind,Sem.run_pure,Result.andThen_ok,e,rq]⟩
  |cell t T=>
   unfold qe at hl
   split at hl
   ·rename_i hc
    cases hr:qe P rs with
    |none=>rw[hr]at hl;cases hl
    |some l'=>
     rw[hr]at hl
     simp only[Option.map_some,Option.some.injEq]at hl
     subst hl
     cases hb:fB P T
     ·rw[hb]at h
      obtain⟨p,hp,h⟩:=aC h
      obtain⟨b,o,rfl,h⟩:=fM h
      obtain⟨lb,Hx,h⟩:=aC h
      obtain⟨v,hv,h⟩:=aC h
      obtain⟨vs,hF,rq⟩:=ih l' _ hr h
      have e:a.tmps.getD t undef= .pointer (some ⟨b,o,none⟩):=by simp[hh.C3 t _ hp]
      exact⟨v::vs,hF,by rw[List.mapM_cons];simp only[DF,Sem.run_bind,Sem.run_pure,Result.andThen_ok,e,asAddr,(lV hc.1 hc.2 Hx).2 hb v hv,rq]⟩
     ·rw[hb]at h
      obtain⟨p,hp,h⟩:=aC h
      obtain⟨b,o,rfl,h⟩:=fM h
      obtain⟨lb,Hx,h⟩:=aC h
      obtain⟨hn,h⟩:=h.out
      obtain⟨vs,hF,rq⟩:=ih l' _ hr h
      have e:a.tmps.getD t undef= .pointer (some ⟨b,o,none⟩):=by simp[hh.C3 t _ hp]
      exact⟨_,hF,by rw[List.mapM_cons];simp only[DF,Sem.run_bind,Sem.run_pure,Result.andThen_ok,e,asAddr,(lV hc.1 hc.2 Hx).1 hb hn,rq]⟩
   ·cases hl
theorem I4:∀ (args:List Value) (i k:Nat) (v:Value),Env.find (mY i args) k=some v→i≤k∧args[k - i]? =some v:=by
 intro args
 induction args with
 |nil=>intro i k v h;cases h
 |cons x r ih=>
  intro i k v h
  simp only[mY,Env.find]at h
  by_cases e:i=k
  ·subst e
   simp at h
   subst h
   exact⟨Nat.le_refl _,by simp⟩
  ·have:(i==k)=false:=by simpa using e
   rw[this]at h
   obtain⟨h1,h2⟩:=ih (i+1) k v h
   refine⟨by omega,?_⟩
   rw[show k - i=(k - (i+1))+1 by omega,List.getElem?_cons_succ]
   exact h2
theorem Ri{P:Program}(hm:P.follows .mixedOrders=true){f:FuncId}{an:List TA}{F:Fn}(hd:ir P f an=some F){args:List Value}{H:Hp}{K:Value→Hp→Prop}
  (h:F.vc P args H K):ah P f args H K:=by
 unfold ir at hd
 split at hd
 ·cases hd
 ·rename_i fn hf
  split at hd
  ·cases hd
  ·rename_i c hb
   split at hd
   ·rename_i s hs
    split at hd
    ·rename_i Bu
     cases hr:qe P fn.results.toList with
     |none=>rw[hr]at hd;cases hd
     |some rs=>
      rw[hr]at hd
      simp only[Option.map_some,Option.some.injEq]at hd
      subst hd
      obtain⟨bm,h⟩:=h
      simp only at bm h
      intro w hw
      subst hw
      refine calls_of_wp hf hb ?_
      have hh:Holds (mY 0 args) {tmps:=args.toArray++Array.replicate (fn.ntmps - args.toArray.size) undef,defers:=[]} fn.ntmps:=by
       refine⟨by simp;omega,rfl,fun k v hk=>?_⟩
       obtain⟨_,h2⟩:=I4 args 0 k v hk
       have aR:k<args.length:=by
        rcases Nat.lt_or_ge k args.length with h'|h'
        ·exact h'
        ·simp[List.getElem?_eq_none h']at h2
       rw[Array.getElem?_append_left (by simpa using aR)]
       simpa using h2
      have FX:∀be a' w',bZ w w'→Holds be a' fn.ntmps→wZ be w'.heap rs (fun vs=>K (M3 vs) w'.heap)→
        a'.defers=[]∧∃v,(results fn a'.tmps).run P w'= .ok v w'∧(∃Zu,Ending.returned v=Ending.returned Zu∧bZ w w'∧K Zu w'.heap):=by
       intro be a' w' M4 qU hk
       obtain⟨vs,hF,rq⟩:=Cf (P:=P) qU fn.results.toList rs _ hr hk
       refine⟨qU.defers,M3 vs,?_,_,rfl,M4,hF⟩
       change (do let vs ←fn.results.mapM (DF a'.tmps);pure (if h:vs.size=1 then vs[0]else .tuple vs):Sem Value).run P w'=_
       rw[Array.mapM_eq_mapM_toList]
       simp only[Sem.run_bind,Sem.run_map,rq,Result.andThen_ok,Sem.run_pure]
       congr 1
       cases vs with
       |nil=>rfl
       |cons x r=>cases r with
        |nil=>rfl
        |cons y r=>simp[M3]
      refine Lg hm c an s [] hs _ _ w _ _ _ _ hh h ?_ ?_ ?_
      ·exact fun be a' w' M4 qU hk=>FX be a' w' M4 qU hk
      ·exact fun _ _ _ _ _ _ hk=>hk.elim
      ·exact fun be a' w' M4 qU hk=>FX be a' w' M4 qU hk
    ·cases hd
   ·cases hd
end Go.Vc

namespace Go.Vc
theorem wrap64{n:Int}(h0: -9223372036854775808≤n)(h1:n≤9223372036854775807):IntKind.i64.wrap n=n:=by
 have e:(2^IntKind.i64.bits:Int)=18446744073709551616:=rfl
 have e':(2^ (IntKind.i64.bits - 1):Int)=9223372036854775808:=rfl
 unfold IntKind.wrap
 simp only[e,e',IntKind.signed,Bool.true_and,decide_eq_true_eq]
 split<;>omega
theorem FM{n:Int}(h0:0≤n)(h1:n≤18446744073709551615):IntKind.u64.wrap n=n:=by
 have e:(2^IntKind.u64.bits:Int)=18446744073709551616:=rfl
 unfold IntKind.wrap
 simp only[e,IntKind.signed,Bool.false_and]
 rw[if_neg (by simp)];omega
theorem TT{n:Int}(h0:0≤n)(h1:n≤4294967295):IntKind.u32.wrap n=n:=by
 have e:(2^IntKind.u32.bits:Int)=4294967296:=rfl
 unfold IntKind.wrap
 simp only[e,IntKind.signed,Bool.false_and]
 rw[if_neg (by simp)];omega
def Sl(H:Hp)(size:Nat)(v:Value)(n:Nat)(xs:List Value)(fp:Option Nat):Prop:=
 xs.length=n*size∧
 match fp with
 |none=>n=0∧v= .slice none 0 0
 |some b=>∃l c,v= .slice (some ⟨b,0,none⟩) n c∧H.own b=some l∧n≤c∧c*size≤l.length∧l.take (n*size)=xs
theorem Sl.nil(H:Hp)(size:Nat):Sl H size (.slice none 0 0) 0 [] none:=⟨by simp,rfl,rfl⟩
theorem Sl.ext{H H':Hp}{size n:Nat}{v:Value}{xs:List Value}{fp:Option Nat}{S:Nat→Prop}(h:Sl H size v n xs fp)(e:ai S H H')(hs:∀b,fp=some b→¬S b):Sl H' size v n xs fp:=by
 obtain⟨hl,h⟩:=h
 refine⟨hl,?_⟩
 cases fp with
 |none=>exact h
 |some b=>
  obtain⟨l,c,h1,h2,h3⟩:=h
  exact⟨l,c,h1,e.own h2 (hs b rfl),h3⟩
theorem Sl.lt{H:Hp}{size n:Nat}{v:Value}{xs:List Value}{b:Nat}(h:Sl H size v n xs (some b)):b<H.size:=by
 obtain⟨_,l,c,_,h2,_⟩:=h
 exact aO h2
theorem Sl.lit(H:Hp)(T:TypeId)(size n:Nat)(xs:List Value)(hx:xs.length=n*size):Sl (H.new T xs) size (.slice (some ⟨H.size,0,none⟩) n n) n xs (some H.size):=
 ⟨hx,xs,n,rfl,aG H T xs,Nat.le_refl _,by omega,by rw[←hx];simp⟩
theorem Sl.dQ{H:Hp}{T:TypeId}{size n b:Nat}{xs:List Value}(hx:xs.length=n*size)(hb:b=H.size):Sl (H.new T xs) size (.slice (some ⟨b,0,none⟩) n n) n xs (some b):=
 hb▸Sl.lit H T size n xs hx
def ez(H:Hp)(size:Nat)(v:Value)(n:Nat)(xs:List Value):Prop:=
 xs.length=n*size∧((n=0∧∃a c,v= .slice a 0 c)∨∃b o c l,v= .slice (some ⟨b,o,none⟩) n c∧H.rd b=some l∧o+n*size≤l.length∧(l.drop o).take (n*size)=xs)
theorem Sl.rd{H:Hp}{size n:Nat}{v:Value}{xs:List Value}{fp:Option Nat}(h:Sl H size v n xs fp):ez H size v n xs:=by
 obtain⟨hl,h⟩:=h
 refine⟨hl,?_⟩
 cases fp with
 |none=>exact .inl ⟨h.1,none,0,h.2⟩
 |some b=>
  obtain⟨l,c,h1,h2,h3,h4,h5⟩:=h
  refine .inr ⟨b,0,c,l,h1,ae h2,?_,by simpa using h5⟩
  have:=Nat.mul_le_mul_right size h3
  omega
theorem ez.rowOf{H:Hp}{size n:Nat}{v:Value}{xs:List Value}{F:Nat→List Value→Prop}(h:ez H size v n xs)(hf:F n xs):rowOf H size v F:=by
 obtain⟨hl,⟨rfl,a,c,rfl⟩| ⟨b,o,c,l,rfl,h2,h3,h4⟩⟩:=h
 ·have:xs=[]:=List.length_eq_zero_iff.1 (by omega)
  subst this
  exact hf
 ·by_cases hn:n=0
  ·subst hn
   have:xs=[]:=List.length_eq_zero_iff.1 (by omega)
   subst this
   exact hf
  ·have e0:(n==0)=false:=by simpa using hn
   show G7 (n==0) _ _
   rw[e0]
   show aE (H.rd b) _
   rw[h2]
   exact⟨h3,by rw[h4];exact hf⟩
theorem ez.ext{H H':Hp}{size n:Nat}{v:Value}{xs:List Value}{S:Nat→Prop}(h:ez H size v n xs)(e:ai S H H')(hs:∀b,b<H.size→¬S b):ez H' size v n xs:=by
 obtain⟨hl,h| ⟨b,o,c,l,rfl,h2,h3⟩⟩:=h
 ·exact⟨hl,.inl h⟩
 ·exact⟨hl,.inr ⟨b,o,c,l,rfl,e.rd h2 (hs b (OV h2)),h3⟩⟩
theorem ez.fresh{H H':Hp}{size n:Nat}{v:Value}{xs:List Value}(h:ez H size v n xs)(e:ay H H'):ez H' size v n xs:=h.ext e fun _ _ h=>h
theorem Mv{l xs new:List Value}{p:Nat}(hx:l.take p=xs)(hp:xs.length=p)(hn:p+new.length≤l.length):(bq l p new).take (p+new.length)=xs++new:=by
 apply List.ext_getElem?
 intro i
 by_cases hi:i<p+new.length
 ·rw[List.getElem?_take_of_lt hi,getElem?_splice new l p i hn]
  by_cases h1:p≤i
  ·rw[if_pos ⟨h1,hi⟩,List.getElem?_append_right (by omega),hp]
  ·rw[if_neg (fun h=>h1 h.1),List.getElem?_append_left (by omega),←hx,List.getElem?_take_of_lt (by omega)]
 ·rw[List.getElem?_eq_none (by simp;omega),List.getElem?_eq_none (by simp;omega)]
theorem Sl.append{H:Hp}{T size bytes n m:Nat}{z:List Value}{s x:Value}{xs ys:List Value}{fp:Option Nat}{K:Value→Hp→Prop}(h:Sl H size s n xs fp)(hx:ez H size x m ys)
  (hz:z.length=size)(h1:jX ys)(hb:(n+m)*bytes≤2^47)
  (hk:∀v' H' fJ,Sl H' size v' (n+m) (xs++ys) fJ→ai (fun b=>fp=some b) H H'→(fJ=fp∨∃b,fJ=some b∧H.size≤b∧b<H'.size)→K v' H'):
  lI T size bytes z s x H K:=by
 obtain⟨hl,h⟩:=h
 have key:∀base c,s= .slice base n c→(∀b,base=some b→fp≠none)→lI T size bytes z s x H K:=by
  intro base c hs ahx
  subst hs
  refine ez.rowOf hx (F:=fun m new=>(n+m≤c→m=0→K (.slice base n c) H)∧
   (n+m≤c→m≠0→xC base fun b o=>aE (Kg (H.own b) (H.C8 b)) fun l=>eC (o+(n+m)*size≤l.length∧jX new) (K (.slice base (n+m) c) (H.wr b (bq l (o+n*size) new))))∧
   (c<n+m→Builtin.nextslicecap (n+m) c*bytes≤2^48∧
    rowOf H size (.slice base n c) fun _ Sp=>∀c',n+m≤c'→K (.slice (some ⟨H.size,0,none⟩) (n+m) c') (H.new T (Sp++new++cQ z (c' - (n+m)))))) ?_
  refine⟨fun Bu hm=>?_,fun Bu hm=>?_,fun aR=>⟨?_,?_⟩⟩
  ·subst hm
   have hy:ys=[]:=List.length_eq_zero_iff.1 (by have:=hx.1;omega)
   subst hy
   exact hk _ _ fp (by rw[List.append_nil];exact⟨by simpa using hl,h⟩) (ai.refl _ _) (.inl rfl)
  ·cases fp with
   |none=>
    obtain⟨rfl,hv⟩:=h
    injection hv with e1 e2 e3
    omega
   |some b=>
    obtain⟨l,c',hv,h2,h3,h4,h5⟩:=h
    injection hv with e1 e2 e3
    subst e1;subst e3
    show aE (Kg (H.own b) (H.C8 b)) _
    rw[h2]
    have h6:=Nat.mul_le_mul_right size Bu
    refine⟨⟨by omega,h1⟩,?_⟩
    rw[Nat.zero_add]
    refine hk _ _ (some b) ⟨by simp[hl,hx.1,Nat.add_mul],_,c,rfl,aj h2,Bu,by rw[ng];exact h4,?_⟩ ((ai.refl (fun x=>some b=some x) H).wr (fun _=>rfl) _) (.inl rfl)
    have:=Mv (new:=ys) h5 hl (by rw[hx.1];rw[Nat.add_mul]at h6;omega)
    rw[hx.1]at this
    rw[Nat.add_mul];exact this
  ·have h2:Builtin.nextslicecap (n+m) c≤2*(n+m):=nextslicecap_le aR
   have h3:=Nat.mul_le_mul_right bytes h2
   rw[Nat.mul_assoc]at h3
   omega
  ·refine ez.rowOf (n:=n) (xs:=xs) (Sl.rd (fp:=fp) ⟨hl,h⟩) ?_
   intro c' KU
   refine hk _ _ (some H.size) ⟨by simp[hl,hx.1,Nat.add_mul],_,c',rfl,aG _ _ _,KU,?_,?_⟩ ((ai.refl _ _).new _ _) (.inr ⟨_,rfl,Nat.le_refl _,by rw[au];omega⟩)
   ·simp only[List.length_append,hl,hx.1,EI,hz]
    rw[←Nat.add_mul,←Nat.add_mul]
    exact Nat.le_of_eq (by congr 1;omega)
   ·rw[show(n+m)*size=(xs++ys).length by simp[hl,hx.1,Nat.add_mul]]
    exact List.take_left
 cases fp with
 |none=>exact key none 0 (by obtain⟨rfl,hv⟩:=h;exact hv) (fun b hb=>by cases hb)
 |some b=>
  obtain⟨l,c,hv,_⟩:=h
  exact key (some ⟨b,0,none⟩) c hv (fun _ _=>by simp)
theorem xT(l:List Value)(i n:Nat)(x:Value):(l.set i x).take n=(l.take n).set i x:=by
 apply List.ext_getElem?
 intro k
 by_cases hk:k<n
 ·rw[List.getElem?_take_of_lt hk]
  by_cases h:i=k
  ·subst h
   by_cases hl:i<l.length
   ·rw[List.getElem?_set_self hl,List.getElem?_set_self (by simp;omega)]
   ·rw[List.getElem?_eq_none (by simp;omega),List.getElem?_eq_none (by simp;omega)]
  ·rw[List.getElem?_set_ne h,List.getElem?_set_ne h,List.getElem?_take_of_lt hk]
 ·rw[List.getElem?_eq_none (by simp;omega),List.getElem?_eq_none (by simp;omega)]
theorem Sl.vP{H:Hp}{n c s:Nat}{xs l:List Value}(h:Sl H 1 (.slice (some ⟨s,0,none⟩) n c) n xs (some s))(hl:H.own s=some l)(i:Nat)(x:Value):
  Sl (H.wr s (l.set i x)) 1 (.slice (some ⟨s,0,none⟩) n c) n (xs.set i x) (some s):=by
 obtain⟨h1,l',c',hv,h2,h3,h4,h5⟩:=h
 rw[hl]at h2
 injection h2 with h2
 subst h2
 injection hv with _ _ hc
 subst hc
 exact⟨by simpa using h1,_,c,rfl,aj hl,h3,by simpa using h4,by rw[xT,h5]⟩
theorem Sl.get{H:Hp}{n c s size:Nat}{xs l:List Value}(h:Sl H size (.slice (some ⟨s,0,none⟩) n c) n xs (some s))(hl:H.own s=some l){i:Nat}{x:Value}(hx:xs[i]? =some x):l[i]? =some x:=by
 obtain⟨h1,l',c',hv,h2,h3,h4,h5⟩:=h
 rw[hl]at h2
 injection h2 with h2
 subst h2
 rw[←h5,List.getElem?_take]at hx
 split at hx
 ·exact hx
 ·cases hx
def uM(es:List MapEntry)(i:Int):Option Value:=(es.find? fun e=>match e.key with| .int .i64 j=>i==j|_=>false).map (·.val)
def C5(es:List MapEntry):Prop:=∃ks:List Int,es.map (·.key)=ks.map (Value.int .i64)∧ks.Nodup
def ou(H:Hp)(b:Nat)(f:Int→Option Value):Prop:=∃es k,H.mp b=some (es,k)∧C5 es∧∀i,uM es i=f i
theorem ou.new(H:Hp):ou H.fX H.size (fun _=>none):=⟨[],0,Ka H,⟨[],rfl,List.nodup_nil⟩,fun _=>rfl⟩
theorem ou.ext{H H':Hp}{b:Nat}{f:Int→Option Value}{S:Nat→Prop}(h:ou H b f)(e:ai S H H')(hs:¬S b):ou H' b f:=by
 obtain⟨es,k,h1,h2⟩:=h
 exact⟨es,k,e.mp h1 hs,h2⟩
theorem ou.lt{H:Hp}{b:Nat}{f:Int→Option Value}(h:ou H b f):b<H.size:=by
 obtain⟨es,k,h1,h2⟩:=h
 exact OS h1
theorem iq(e:MapEntry)(es:List MapEntry)(j i:Int)(he:e.key= .int .i64 j):uM (e::es) i=if i=j then some e.val else uM es i:=by
 unfold uM
 rw[List.find?_cons]
 simp only[he]
 by_cases h:i=j
 ·simp[h]
 ·have:(i==j)=false:=by simpa using h
  rw[this,if_neg h]
theorem Bj{e:MapEntry}{es:List MapEntry}(h:C5 (e::es)):∃j,e.key= .int .i64 j∧C5 es∧∀x∈es,x.key≠ .int .i64 j:=by
 obtain⟨ks,h1,h2⟩:=h
 cases ks with
 |nil=>simp at h1
 |cons j ks=>
  simp only[List.map_cons,List.cons.injEq]at h1
  rw[List.nodup_cons]at h2
  refine⟨j,h1.1,⟨ks,h1.2,h2.2⟩,fun x hx hk=>h2.1 ?_⟩
  have hm:x.key∈es.map (·.key):=List.mem_map.2 ⟨x,hx,rfl⟩
  rw[h1.2,hk]at hm
  obtain⟨y,hy,e⟩:=List.mem_map.1 hm
  injection e with _ e
  exact e▸hy
theorem Eu(i:Int):∀ (es:List MapEntry),C5 es→∀n:Nat,
  (uM es i=none∧ic .int (.int .i64 i) es n=some none)∨
  ∃j e,es[j]? =some e∧e.key= .int .i64 i∧uM es i=some e.val∧ic .int (.int .i64 i) es n=some (some (n+j,e.val)):=by
 intro es
 induction es with
 |nil=>intro _ n;exact .inl ⟨rfl,rfl⟩
 |cons e es ih=>
  intro h n
  obtain⟨j,hj,XG,aS⟩:=Bj h
  have hq:tf .int (.int .i64 i) e.key=some (decide (i=j)):=by rw[hj];simp[tf,bA]
  by_cases KJ:i=j
  ·subst KJ
   refine .inr ⟨0,e,rfl,hj,by rw[iq e es i i hj,if_pos rfl],?_⟩
   unfold ic
   rw[hq];simp
  ·have h2:ic .int (.int .i64 i) (e::es) n=ic .int (.int .i64 i) es (n+1):=by
    rw[ic,hq,decide_eq_false KJ]
   have h3:uM (e::es) i=uM es i:=by rw[iq e es j i hj,if_neg KJ]
   rw[h2,h3]
   rcases ih XG (n+1)with ⟨h4,h5⟩| ⟨k,e',h4,h5,h6,h7⟩
   ·exact .inl ⟨h4,h5⟩
   ·exact .inr ⟨k+1,e',by simpa using h4,h5,h6,by rw[h7];congr 3;omega⟩
theorem ou.look{H:Hp}{b:Nat}{f:Int→Option Value}(h:ou H b f)(i:Int)(F:Option Value→Prop):zF H .int (some b) (.int .i64 i) F=F (f i):=by
 obtain⟨es,k,h1,h2,h3⟩:=h
 unfold zF
 simp only[h1,qC]
 rcases Eu i es h2 0 with ⟨h4,h5⟩| ⟨j,e,h4,h5,h6,h7⟩
 ·rw[h5,←h3 i,h4];rfl
 ·rw[h7,←h3 i,h6];rfl
def JV(f:Int→Option Value)(i:Int)(v:Value):Int→Option Value:=fun j=>if j=i then some v else f j
def M8(f:Int→Option Value)(i:Int):Int→Option Value:=fun j=>if j=i then none else f j
theorem Mw(es:List MapEntry)(e:MapEntry)(i j:Int)(hj:e.key= .int .i64 j)(hn:uM es j=none):uM (es++[e]) i=if i=j then some e.val else uM es i:=by
 unfold uM at*
 rw[List.find?_append]
 by_cases h:i=j
 ·subst h
  have hx:(es.find? fun e=>match e.key with| .int .i64 j=>i==j|_=>false)=none:=by simpa using hn
  rw[hx]
  simp[hj]
 ·rw[if_neg h]
  have:([e].find? fun e=>match e.key with| .int .i64 j=>i==j|_=>false)=none:=by simp[hj,h]
  rw[this]
  simp
theorem QC{es:List MapEntry}{i:Int}(h:uM es i=none):∀e∈es,e.key≠ .int .i64 i:=by
 intro e he hk
 unfold uM at h
 simp only[Option.map_eq_none_iff,List.find?_eq_none]at h
 have:=h e he
 simp[hk]at this
theorem KD{es:List MapEntry}(h:C5 es)(j:Nat)(e:MapEntry)(hj:es[j]? =some e)(v:Value)(i:Int)(hk:e.key= .int .i64 i):
  C5 (es.modify j fun x=>{x with key:=.int .i64 i,val:=v}):=by
 obtain⟨ks,h1,h2⟩:=h
 refine⟨ks,?_,h2⟩
 rw[←h1]
 apply List.ext_getElem?
 intro n
 rw[List.getElem?_map,List.getElem?_map,List.getElem?_modify]
 by_cases hn:j=n
 ·subst hn;simp[hj,hk]
 ·simp[hn]
theorem Mx:∀ (es:List MapEntry),C5 es→∀ (j:Nat) (e:MapEntry) (v:Value) (i:Int),es[j]? =some e→e.key= .int .i64 i→∀n,
  uM (es.modify j fun x=>{x with key:=.int .i64 i,val:=v}) n=if n=i then some v else uM es n:=by
 intro es
 induction es with
 |nil=>intro _ j e v i hj;simp at hj
 |cons x es ih=>
  intro h j e v i hj hk n
  obtain⟨q,hq,XG,aS⟩:=Bj h
  cases j with
  |zero=>
   simp only[List.getElem?_cons_zero,Option.some.injEq]at hj
   subst hj
   have:q=i:=by rw[hq]at hk;injection hk
   subst this
   rw[List.modify_zero_cons,iq _ es q n rfl,iq x es q n hq]
   split<;>rfl
  |succ j=>
   rw[List.modify_succ_cons,iq x _ q n hq,iq x es q n hq,ih XG j e v i (by simpa using hj) hk n]
   by_cases h1:n=q
   ·subst h1
    have hm:e∈es:=List.mem_of_getElem? (by simpa using hj)
    have:n≠i:=fun e'=>aS e hm (by rw[hk,e'])
    simp[this]
   ·simp[h1]
theorem Of:∀ (es:List MapEntry),C5 es→∀ (j:Nat) (e:MapEntry) (i:Int),es[j]? =some e→e.key= .int .i64 i→C5 (es.eraseIdx j)∧∀n,uM (es.eraseIdx j) n=if n=i then none else uM es n:=by
 intro es
 induction es with
 |nil=>intro _ j e i hj;simp at hj
 |cons x es ih=>
  intro h j e i hj hk
  have h':=h
  obtain⟨q,hq,XG,aS⟩:=Bj h
  cases j with
  |zero=>
   simp only[List.getElem?_cons_zero,Option.some.injEq]at hj
   subst hj
   have:q=i:=by rw[hq]at hk;injection hk
   subst this
   refine⟨XG,fun n=>?_⟩
   rw[List.eraseIdx_zero,List.tail_cons,iq x es q n hq]
   by_cases hn:n=q
   ·subst hn
    rw[if_pos rfl]
    unfold uM
    simp only[Option.map_eq_none_iff,List.find?_eq_none]
    intro e' tD
    obtain⟨ks,h1,_⟩:=XG
    have hm:e'.key∈es.map (·.key):=List.mem_map.2 ⟨e',tD,rfl⟩
    rw[h1]at hm
    obtain⟨y,_,ey⟩:=List.mem_map.1 hm
    have:=aS e' tD
    rw[←ey]at this ⊢
    simp only[beq_iff_eq]
    intro e2
    exact this (by rw[e2])
   ·simp[hn]
  |succ j=>
   obtain⟨h1,h2⟩:=ih XG j e i (by simpa using hj) hk
   have hm:e∈es:=List.mem_of_getElem? (by simpa using hj)
   have hqi:q≠i:=fun e'=>aS e hm (by rw[hk,e'])
   refine⟨?_,fun n=>?_⟩
   ·obtain⟨ks,e1,e2⟩:=h1
    refine⟨q::ks,by rw[List.eraseIdx_cons_succ,List.map_cons,List.map_cons,hq,e1],?_⟩
    rw[List.nodup_cons]
    refine⟨fun cF=>?_,e2⟩
    have:Value.int .i64 q∈(es.eraseIdx j).map (·.key):=by rw[e1];exact List.mem_map.2 ⟨q,cF,rfl⟩
    obtain⟨y,hy,ey⟩:=List.mem_map.1 this
    exact aS y (List.mem_of_mem_eraseIdx hy) ey
   ·rw[List.eraseIdx_cons_succ,iq x _ q n hq,iq x es q n hq,h2 n]
    by_cases h3:n=q
    ·subst h3;simp[hqi]
    ·simp[h3]
theorem KE(n:Nat)(i:Int):Instr.sameBits (n+1) (.int .i64 i) (.int .i64 i)=true:=by simp[Instr.sameBits]
theorem ou.Yc{H:Hp}{b:Nat}{f:Int→Option Value}(h:ou H b f){i:Int}{v:Value}{F:Hp→Prop}(hk:∀H',ou H' b (JV f i v)→ai (fun x=>x=b) H H'→F H'):
  Sb H .int b (.int .i64 i) v F:=by
 obtain⟨es,k,h1,h2,h3⟩:=h
 unfold Sb
 simp only[h1,qC]
 have vO:∀Vu k',ai (fun x=>x=b) H (H.Ey b Vu k'):=fun Vu k'=>(ai.refl (fun x=>x=b) H).Ey (fun _=>rfl) _ _
 rcases Eu i es h2 0 with ⟨h4,h5⟩| ⟨j,e,h4,h5,h6,h7⟩
 ·rw[h5]
  refine⟨rfl,hk _ ⟨_,_,nR h1,?_,fun n=>?_⟩ (vO _ _)⟩
  ·obtain⟨ks,e1,e2⟩:=h2
   refine⟨ks++[i],by simp[LO,e1],?_⟩
   rw[List.nodup_append]
   refine⟨e2,by simp,fun a ha c hc hac=>?_⟩
   simp only[List.mem_singleton]at hc
   subst hc;subst hac
   have:Value.int .i64 a∈es.map (·.key):=by rw[e1];exact List.mem_map.2 ⟨a,ha,rfl⟩
   obtain⟨y,hy,ey⟩:=List.mem_map.1 this
   exact QC h4 y hy ey
  ·rw[LO,Mw es _ n i rfl h4]
   unfold JV
   split<;>first|rfl|exact h3 n
 ·rw[h7]
  refine⟨?_,hk _ ⟨_,_,nR h1,KD h2 _ e (by simpa using h4) _ _ h5,fun n=>?_⟩ (vO _ _)⟩
  ·simp only[FR,Nat.zero_add,h4,Option.map_some,Option.getD_some,h5]
   exact KE 9999 i
  ·rw[LO,Nat.zero_add,Mx es h2 j e v i h4 h5 n]
   unfold JV
   split<;>first|rfl|exact h3 n
theorem ou.del{H:Hp}{b:Nat}{f:Int→Option Value}(h:ou H b f){i:Int}{F:Hp→Prop}(hk:∀H',ou H' b (M8 f i)→ai (fun x=>x=b) H H'→F H'):
  Xo H .int b (.int .i64 i) F:=by
 obtain⟨es,k,h1,h2,h3⟩:=h
 unfold Xo
 simp only[h1,qC]
 have vO:∀Vu k',ai (fun x=>x=b) H (H.Ey b Vu k'):=fun Vu k'=>(ai.refl (fun x=>x=b) H).Ey (fun _=>rfl) _ _
 rcases Eu i es h2 0 with ⟨h4,h5⟩| ⟨j,e,h4,h5,h6,h7⟩
 ·rw[h5]
  refine hk _ ⟨_,_,nR h1,h2,fun n=>?_⟩ (vO _ _)
  rw[G9,h3 n]
  unfold M8
  by_cases hn:n=i
  ·subst hn;rw[if_pos rfl,←h3 n];exact h4
  ·rw[if_neg hn]
 ·rw[h7]
  obtain⟨e1,e2⟩:=Of es h2 j e i h4 h5
  refine hk _ ⟨_,_,nR h1,by rw[G9,Nat.zero_add];exact e1,fun n=>?_⟩ (vO _ _)
  rw[G9,Nat.zero_add,e2 n]
  unfold M8
  split<;>first|rfl|exact h3 n
end Go.Vc

namespace Go.Vc
section
variable {P : Program} {ev : Ev} {H : Hp} {K K' : Value → Hp → Prop}
theorem Og{s:Shape}{r:Option Nat}{k:Value}{F G:Option Value→Prop}(h:zF H s r k F)(hk:∀x,F x→G x):zF H s r k G:=by
 unfold zF at*
 cases r with
 |none=>exact hk _ h
 |some b=>exact ak h fun m h=>ak h fun x=>hk _
theorem KF{T size bytes:Nat}{z:List Value}{s x:Value}(h:lI T size bytes z s x H K)(hk:∀v H',K v H'→K' v H'):lI T size bytes z s x H K':=by
 refine nX h fun base n c h=>Bi h fun m new h=>?_
 obtain⟨h1,h2,h3⟩:=h
 exact⟨fun a b=>hk _ _ (h1 a b),fun a b=>Bh (h2 a b) fun b o h=>ak h fun l h=>bO h (hk _ _),fun a=>⟨(h3 a).1,Bi (h3 a).2 fun n l h c' hc=>hk _ _ (h c' hc)⟩⟩
theorem Hs(i:dc)(h:i.vc P ev H K)(hk:∀v H',K v H'→K' v H'):i.vc P ev H K':=by
 cases hc:i.cls with
 |pure=>exact OZ i hc h hk
 |quiet=>
  cases i<;>simp[dc.cls]at hc<;>simp only[dc.vc]at h ⊢
  ·exact ak h fun v h=>tB h fun b o h=>ak h fun l h=>ak h fun v=>hk _ _
  ·exact ak h fun v h=>tB h fun b o h=>ak h fun l h=>bO h (hk _ _)
  ·exact ak h fun v h=>ak h fun v h=>ya h fun r h=>bO h fun h=>Og h fun x=>hk _ _
  ·refine ak h fun v h=>ya h fun r h=>?_
   unfold Mc at*
   cases r with
   |none=>exact hk _ _ h
   |some b=>exact ak h fun m=>hk _ _
  ·exact ak h fun v h=>EN h fun l=>hk _ _
 |Ii=>
  cases i<;>simp[dc.cls]at hc<;>simp only[dc.vc]at h ⊢
  ·exact ak h fun v=>hk _ _
  ·exact hk _ _ h
  ·exact Ho h fun l=>hk _ _
  ·exact ak h fun v h=>tB h fun b o h=>ak h fun v h=>ak h fun l h=>bO h fun h=>bO h fun h=>bO h (hk _ _)
  ·exact hk _ _ h
  ·exact ak h fun v h=>ak h fun v h=>mW h fun n h=>mW h fun c h=>bO h (hk _ _)
  ·exact ak h fun v h=>ak h fun v h=>ak h fun v h=>ya h fun r h=>ak h fun b h=>bO h fun h=>ak h fun es h=>ak h fun x h=>bO h (hk _ _)
  ·exact nV h fun l h=>ah.mono h hk
  ·refine ak h fun v h=>nV h fun l h=>?_
   unfold Xq at*
   split at h
   ·exact⟨h.1,h.2.mono hk⟩
   ·exact h.elim
  ·refine ak h fun v h=>nV h fun l h=>?_
   obtain⟨T,v,f,rv,e,hm,hc⟩:=h
   exact⟨T,v,f,rv,e,hm,hc.mono hk⟩
  ·exact ak h fun v h=>ak h fun v h=>KF h hk
  ·exact ak h fun v h=>ak h fun v h=>ya h fun r h=>ak h fun b h=>bO h fun h=>ak h fun es h=>ak h fun x=>hk _ _
  ·exact ak h fun v h=>nX h fun a n c h=>by
    rcases h with ⟨h1,h2⟩| ⟨h1,b,o,l,h2,h3,h4,h5,h6⟩
    ·exact .inl ⟨h1,hk _ _ h2⟩
    ·exact .inr ⟨h1,b,o,l,h2,h3,h4,h5,hk _ _ h6⟩
  ·refine ak h fun v h=>?_
   unfold lU at*
   split at h
   ·exact fun c hc=>hk _ _ (h c hc)
   ·exact h.elim
  ·exact nV h fun l h=>by obtain⟨v,h1,h2⟩:=h;exact⟨v,h1,hk _ _ h2⟩
theorem My(s:gB)(h:s.vc P ev H K)(hk:∀v H',K v H'→K' v H'):s.vc P ev H K':=by
 unfold gB.vc at*
 cases hq:s.quiet
 ·rw[hq]at h;exact Hs s.op h hk
 ·rw[hq]at h;obtain⟨v,h1,h2⟩:=h;exact⟨v,h1,hk _ _ h2⟩
theorem O1{o:Option Value}{F F':Bool→Prop}{N N':Prop}(h:gV o F N)(hf:∀b,F b→F' b)(hn:N→N'):gV o F' N':=by
 rcases FT h with ⟨b,rfl,h⟩| ⟨vs,rfl,h⟩
 ·exact hf b h
 ·exact hn h
theorem C6{b:Bool}{A A' B B':Prop}(h:G7 b A B)(ha:A→A')(hb:B→B'):G7 b A' B':=by
 cases b
 ·exact hb h
 ·exact ha h
theorem Oh{F F':Env→Hp→Prop}(hk:∀e H,F e H→F' e H):∀ (l:List gB) (env:Env) (H:Hp),kH P F l env H→kH P F' l env H:=by
 intro l
 induction l with
 |nil=>intro env H h;exact hk _ _ h
 |cons s l ih=>
  intro env H h
  unfold kH at h ⊢
  cases hg:s.guard with
  |none=>rw[hg]at h;exact My s h fun v H'=>ih _ _
  |some g=>
   rw[hg]at h
   exact O1 h (fun b h=>C6 h (fun h=>My s h fun v H'=>ih _ _) (ih _ _)) (ih _ _)
theorem Ew{s:gB}{env:Env}{F F' N N':Env→Prop}(h:C4 s env F N)(hf:∀e,F e→F' e)(hn:∀e,N e→N' e):C4 s env F' N':=by
 unfold C4 at*
 cases hg:s.guard with
 |none=>rw[hg]at h;exact hf _ h
 |some g=>rw[hg]at h;exact O1 h (fun b h=>C6 h (hf _) (hn _)) (hn _)
theorem S8{Inv:Hp→Prop}{F F':Env→Hp→Prop}(hk:∀e H,F e H→F' e H):∀ (t:S5) (env:Env) (H:Hp),Et P Inv F t env H→Et P Inv F' t env H:=by
 intro t
 induction t with
 |done=>intro env H h;exact hk _ _ h
 |stop=>intro env H h;trivial
 |aY s t ih=>intro env H h;exact Ew h (fun e h=>Hs s.op h fun v H'=>ih _ _) (fun e=>ih _ _)
 |HU s t ih=>intro env H h;exact Ew h (fun e h=>by obtain⟨v,h1,h2⟩:=h;exact⟨v,h1,ih _ _ h2⟩) (fun e=>ih _ _)
 |aQ s t r ih ZI=>intro env H h;exact⟨Ew h.1 (fun e h=>Hs s.op h fun v H' h=>bO h (ih _ _)) (fun e=>ih _ _),ZI _ _ h.2⟩
theorem EJ:∀ (s:S) (env:Env) (H:Hp) (Kn QW:Env→Hp→Prop) (Kx QX:Nat→Env→Hp→Prop) (Kr QY:Env→Hp→Prop),(∀e H,Kn e H→QW e H)→(∀i e H,Kx i e H→QX i e H)→(∀e H,Kr e H→QY e H)→
  vc P s env H Kn Kx Kr→vc P s env H QW QX QY:=by
 intro s
 induction s with
 |skip=>intro env H Kn QW Kx QX Kr QY hn hx hr h;exact hn _ _ h
 |ag ops aN=>intro env H Kn QW Kx QX Kr QY hn hx hr h;exact Oh (fun e H h=>hn _ _ h) ops env H h
 |rG t aN=>intro env H Kn QW Kx QX Kr QY hn hx hr h;obtain⟨Inv,hI,h⟩:=h;exact⟨Inv,hI,S8 (fun e H h=>hn _ _ h) t env H h⟩
 |seq a b iha ihb=>intro env H Kn QW Kx QX Kr QY hn hx hr h;exact iha env H _ _ _ _ _ _ (fun e H h=>ihb e H _ _ _ _ _ _ hn hx hr h) hx hr h
 |cond c x y ihx ihy=>
  intro env H Kn QW Kx QX Kr QY hn hx hr h
  simp only[vc]at*
  unfold Hq at*
  split at h
  ·exact Hn h fun b h=>C6 h (ihx _ _ _ _ _ _ _ _ hn hx hr) (ihy _ _ _ _ _ _ _ _ hn hx hr)
  ·exact h.elim
 |cR id b ih=>intro env H Kn QW Kx QX Kr QY hn hx hr h;exact ih env H _ _ _ _ _ _ hn (fun i e H h=>C6 h (hn _ _) (hx _ _ _)) hr h
 |loop L b ih=>
  intro env H Kn QW Kx QX Kr QY hn hx hr h
  obtain⟨I,h0,round⟩:=h
  exact⟨I,h0,fun m env H hI=>ih env H _ _ _ _ _ _ (fun e H h=>h) hx hr (round m env H hI)⟩
 |exit id=>intro env H Kn QW Kx QX Kr QY hn hx hr h;exact hx _ _ _ h
 |ret=>intro env H Kn QW Kx QX Kr QY hn hx hr h;exact hr _ _ h
 |bad=>intro env H Kn QW Kx QX Kr QY hn hx hr h;exact h.elim
def Zq(a b:S):S:=.seq a b
theorem Wm{a b:S}{env:Env}{H:Hp}{Kn:Env→Hp→Prop}{Kx:Nat→Env→Hp→Prop}{Kr:Env→Hp→Prop}(M:Env→Hp→Prop)(h1:vc P a env H M Kx Kr)(h2:∀e H',M e H'→vc P b e H' Kn Kx Kr):vc P (Zq a b) env H Kn Kx Kr:=
 EJ a env H _ _ _ _ _ _ h2 (fun _ _ _ h=>h) (fun _ _ h=>h) h1
end
end Go.Vc

namespace Go.Vc
def KG(P:Program)(T:TypeId)(name:String):Option (List FieldStep×Option (FuncId×Bool)):=
 ((P.info? T).bind fun i=>i.methods.find? (·.name==name)).map fun m=>(m.path.toList,m.func)
theorem xL{P:Program}{T:TypeId}{name:String}{p:List FieldStep}{f:Option (FuncId×Bool)}(h:KG P T name=some (p,f)):
  ∃i m,P.info? T=some i∧i.methods.find? (·.name==name)=some m∧m.path.toList=p∧m.func=f:=by
 unfold KG at h
 cases hi:P.info? T with
 |none=>rw[hi]at h;cases h
 |some i=>
  rw[hi]at h
  simp only[Option.bind_some]at h
  cases hm:i.methods.find? (·.name==name)with
  |none=>rw[hm]at h;cases h
  |some m=>
   rw[hm]at h
   simp only[Option.map_some,Option.some.injEq,Prod.mk.injEq]at h
   exact⟨i,m,rfl,hm,h.1,h.2⟩
def Vz(P:Program)(T:TypeId)(name:String):Option FuncId:=
 match KG P T name,P.underlying T with
 |some ([],some (f,true)),some (.pointer _)=>if eV P f then some f else none
 |_,_=>none
theorem bE{P:Program}{H:Hp}{T:TypeId}{v:Value}{name:String}{f:FuncId}(h:Vz P T name=some f):SN P H T v name f v:=by
 unfold Vz at h
 split at h
 ·rename_i f' e h1 hu
  split at h
  ·rename_i hc
   injection h with h
   subst h
   refine⟨hc,fun w hw=>?_⟩
   obtain⟨i,m,g1,g2,g3,g4⟩:=xL h1
   show(method ((P.types.size+99)+1) T v name).run P w=_
   unfold method
   simp[et g1,g2,g3,g4,follow,receiverAt,run_underlying hu,Place.get]
  ·cases h
 ·cases h
def O2(P:Program)(T:TypeId)(name:String):Option (Nat×FuncId):=
 match KG P T name with
 |some ([s],some (f,true))=>
  match s.deref,P.underlying s.struct with
  |true,some (.struct fs)=>
   match fs[s.index]? with
   |some fd=>match P.underlying fd.type with
    |some (.pointer _)=>if(P.info? fd.type).isSome∧P.cellsOf fd.type≠0∧eV P f=true then some (fd.offset,f)else none
    |_=>none
   |none=>none
  |_,_=>none
 |_=>none
theorem FG{P:Program}{fd:Field}(hi:(P.info? fd.type).isSome=true)(h0:P.cellsOf fd.type≠0)(a:Addr)(w:World):(fieldPlace a fd).run P w= .ok (a.add fd.offset) w:=by
 simp[fieldPlace,bL hi,h0]
theorem hX{P:Program}{H:Hp}{T:TypeId}{b o off:Nat}{l:List Value}{rv:Value}{name:String}{f:FuncId}(h:O2 P T name=some (off,f))(hr:H.rd b=some l)(hv:l[o+off]? =some rv):
  SN P H T (.pointer (some ⟨b,o,none⟩)) name f rv:=by
 unfold O2 at h
 split at h
 ·rename_i s f' h1
  split at h
  ·rename_i fs hd hs
   split at h
   ·rename_i fd hf
    split at h
    ·rename_i e hu
     split at h
     ·rename_i hc
      simp only[Option.some.injEq,Prod.mk.injEq]at h
      obtain⟨rfl,rfl⟩:=h
      refine⟨hc.2.2,fun w hw=>?_⟩
      subst hw
      obtain⟨i,m,g1,g2,g3,g4⟩:=xL h1
      have hus:(P.underlying fd.type).isSome=true:=by rw[hu];rfl
      have hag:fB P fd.type=false:=by unfold fB;rw[hu]
      have abN:=(lV (P:=P) (w:=w) (t:=fd.type) hc.1 hus hr).2 hag rv hv
      show(method ((P.types.size+99)+1) T _ name).run P w=_
      unfold method
      simp[et g1,g2,g3,g4,follow,run_underlying hs,hf,hd,Place.get,asAddr,FG hc.1 hc.2.1,receiverAt,run_underlying hu,AQ,abN]
     ·cases h
    ·cases h
   ·cases h
  ·cases h
 ·cases h
theorem aaa{P:Program}{T:TypeId}{a:Addr}{name:String}{x:Nat×FuncId}{cap:Array Value}(h:O2 P T name=some x):PA P (.func (.method name) #[.iface T (.pointer (some a))] cap):=by
 unfold O2 at h
 split at h
 ·rename_i s f' h1
  split at h
  ·rename_i fs hd hs
   split at h
   ·rename_i fd hf
    refine .inr ⟨name,T,_,cap,rfl,fun w=>?_⟩
    obtain⟨i,m,g1,g2,g3,g4⟩:=xL h1
    show(nilAhead ((P.types.size+99)+1) T _ name).run P w=_
    unfold nilAhead
    simp[et g1,g2,g3,g4,followBlind,run_underlying hs,hf,hd]
   ·cases h
  ·cases h
 ·cases h
theorem jf.mono{P:Program}{recv:Value}{name:String}{args:List Value}{H:Hp}{K K':Value→Hp→Prop}(h:jf P recv name args H K)(hk:∀v H',K v H'→K' v H'):jf P recv name args H K':=by
 obtain⟨T,v,f,rv,h1,h2,h3⟩:=h
 exact⟨T,v,f,rv,h1,h2,h3.mono hk⟩
end Go.Vc
