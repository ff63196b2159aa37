/- Texts put behind each other. -/
import Derived.Test.YthpjfeolagohkaaGreatK98
import Derived.Test.YthpjfeolagohkaaGreatK11
set_option maxRecDepth 100000
set_option maxHeartbeats 8000000
set_option linter.unusedVariables false
set_option linter.unusedSimpArgs false
namespace Go.Vc
abbrev tt(n:Nat):Operand:=.tmp n
abbrev ki(n:Int):Operand:=.const (.int .i64 n)
abbrev kb(b:Bool):Operand:=.const (.bool b)
abbrev s1(d:Nat)(op:dw):fF:=⟨false,none,some d,op⟩
abbrev s0(op:dw):fF:=⟨false,none,none,op⟩
abbrev sg(g:Nat)(w:Bool)(d:Nat)(op:dw):fF:=⟨false,some (g,w),some d,op⟩
abbrev sq(d:Nat)(op:dw):fF:=⟨true,none,some d,op⟩
abbrev sqg(g:Nat)(w:Bool)(d:Nat)(op:dw):fF:=⟨true,some (g,w),some d,op⟩
inductive S where
 |skip
 |aP(ops:List fF)(aM:List Nat)
 |jC(t:oC)(aM:List Nat)
 |seq(a b:S)
 |cond(c:Operand)(x y:S)
 |tS(id:Nat)(b:S)
 |loop(aji:List Nat)(b:S)
 |exit(id:Nat)
 |ret
 |bad
 deriving Inhabited
def aY(F:Env→Hp→(Env→Hp→Prop)→Prop)(env:Env)(H:Hp)(_t:Tag F:=⟨⟩):Prop:=
 ∃I:Nat→Env→Hp→Prop,(∃m,I m env H)∧∀m env H,I m env H→F env H fun aT H'=>∃m',m'<m∧I m' aT H'
theorem aY.intro{F:Env→Hp→(Env→Hp→Prop)→Prop}{env:Env}{H:Hp}(I:Nat→Env→Hp→Prop)(m:Nat)(h0:I m env H)
  (round:∀m env H,I m env H→F env H fun aT H'=>∃m',m'<m∧I m' aT H'):aY F env H:=⟨I,⟨m,h0⟩,round⟩
def vc(P:Program):S→Env→Hp→(Env→Hp→Prop)→(Nat→Env→Hp→Prop)→(Env→Hp→Prop)→Prop
 | .skip,env,H,Kn,_,_=>Kn env H
 | .aP ops aM,env,H,Kn,_,_=>iB P (fun aT H'=>now (Env.aM aT aM) fun e=>Kn e H') ops env H
 | .jC t aM,env,H,Kn,_,_=>gP H fun Inv=>CS P Inv (fun aT H'=>now (Env.aM aT aM) fun e=>Kn e H') t env H
 | .seq a b,env,H,Kn,Kx,Kr=>vc P a env H (fun aT H'=>vc P b aT H' Kn Kx Kr) Kx Kr
 | .cond c x y,env,H,Kn,Kx,Kr=>Gh (Env.ev env c) fun t=>Gg t (vc P x env H Kn Kx Kr) (vc P y env H Kn Kx Kr)
 | .tS id b,env,H,Kn,Kx,Kr=>vc P b env H Kn (fun i aT H'=>Gg (i==id) (Kn aT H') (Kx i aT H')) Kr
 | .loop L b,env,H,_,Kx,Kr=>aY (fun aT H' again=>vc P b aT H' (fun e h=>again (Env.aM e L) h) Kx Kr) (Env.aM env L) H
 | .exit id,env,H,_,Kx,_=>Kx id env H
 | .ret,env,H,_,_,Kr=>Kr env H
 | .bad,_,_,_,_,_=>False
section
variable (P : Program) (env : Env) (H : Hp) (Kn : Env → Hp → Prop) (Kx : Nat → Env → Hp → Prop) (Kr : Env → Hp → Prop)
@[go_sem ↓] theorem US:vc P .skip env H Kn Kx Kr=Kn env H:=(rfl)
@[go_sem ↓] theorem agx(ops:List fF)(aM:List Nat):vc P (.aP ops aM) env H Kn Kx Kr=iB P (fun aT H'=>now (Env.aM aT aM) fun e=>Kn e H') ops env H:=(rfl)
@[go_sem ↓] theorem aeQ(t:oC)(aM:List Nat):vc P (.jC t aM) env H Kn Kx Kr=gP H fun Inv=>CS P Inv (fun aT H'=>now (Env.aM aT aM) fun e=>Kn e H') t env H:=(rfl)
@[go_sem ↓] theorem XR(a b:S):vc P (.seq a b) env H Kn Kx Kr=vc P a env H (fun aT H'=>vc P b aT H' Kn Kx Kr) Kx Kr:=(rfl)
@[go_sem ↓] theorem UT(c:Operand)(x y:S):vc P (.cond c x y) env H Kn Kx Kr=Gh (Env.ev env c) fun t=>Gg t (vc P x env H Kn Kx Kr) (vc P y env H Kn Kx Kr):=(rfl)
@[go_sem ↓] theorem XS(id:Nat)(b:S):vc P (.tS id b) env H Kn Kx Kr=vc P b env H Kn (fun i aT H'=>Gg (i==id) (Kn aT H') (Kx i aT H')) Kr:=(rfl)
@[go_sem ↓] theorem aeR(L:List Nat)(b:S):vc P (.loop L b) env H Kn Kx Kr=aY (fun aT H' again=>vc P b aT H' (fun e h=>again (Env.aM e L) h) Kx Kr) (Env.aM env L) H:=(rfl)
@[go_sem ↓] theorem aeS(id:Nat):vc P (.exit id) env H Kn Kx Kr=Kx id env H:=(rfl)
@[go_sem ↓] theorem agy:vc P .bad env H Kn Kx Kr=False:=(rfl)
@[go_sem ↓] theorem agz:vc P .ret env H Kn Kx Kr=Kr env H:=(rfl)
end
attribute [go_sem] cond_true cond_false
abbrev HS:=List Nat×List Nat×List Nat
def Ka:Nat→List Nat→Option (Ot×List Nat)
 |0,_=>none
 |_+1,0::r=>some (.done,r)
 |f+1,1::i::r=>match Ka f r with
  |some (t,r)=>some (.step i t,r)
  |none=>none
 |f+1,2::i::r=>match Ka f r with
  |some (t,r)=>match Ka f r with
   |some (u,r)=>some (.aC i t u,r)
   |none=>none
  |none=>none
 |_+1,3::r=>some (.stop,r)
 |_+1,_=>none
def tT(P:Program)(n:Nat):Code→List HS→Option (S×List HS)
 | .skip,an=>some (.skip,an)
 | .region _ ops draw,an=>
  match an with
  | []=>none
  | (aM,q,x::tr)::an=>
   match it P n ops q 0 ops.toList with
   |none=>none
   |some ss=>
    match Ka (tr.length+2) (x::tr)with
    |some (t,[])=>
     if draw=true∧AY ops (Region.before ops)=true∧Uc ops (Region.before ops) (LV ss) t (Array.replicate ops.size false) []=true∧Region.noSelect ops=true then(attach ss t).map fun ts=>(.jC ts aM,an)else none
    |_=>none
  | (aM,q,[])::an=>
   match it P n ops q 0 ops.toList with
   |none=>none
   |some ss=>
    if draw=false∨(AY ops (Region.before ops)=true∧AZ ops (Region.before ops) (Sc ss)=true∧Region.noSelect ops=true)then some (.aP ss aM,an)else none
 | .seq a b,an=>
  match tT P n a an with
  |none=>none
  |some (x,an)=>match tT P n b an with
   |none=>none
   |some (y,an)=>some (.seq x y,an)
 | .cond c a b,an=>
  match tT P n a an with
  |none=>none
  |some (x,an)=>match tT P n b an with
   |none=>none
   |some (y,an)=>some (.cond c x y,an)
 | .block id a,an=>match tT P n a an with
  |none=>none
  |some (x,an)=>some (.tS id x,an)
 | .loop a,an=>
  match an with
  | []=>none
  | (L,_,_)::an=>match tT P n a an with
   |none=>none
   |some (x,an)=>some (.loop L x,an)
 | .exit id,an=>some (.exit id,an)
 | .ret,an=>some (.ret,an)
 | .refuse _,an=>some (.bad,an)
 |_,_=>none
theorem wp_loop_ghost{P:Program}{Q:Exit→Act→World→Prop}{a:Act}{w:World}{c:Code}(I:Nat→Act→World→Prop){m:Nat}(h₀:I m a w)
  (round:∀m a w,I m a w→c.wp P (Exit.then (fun a' w'=>∃m',m'<m∧I m' a' w') Q) a w):(Code.loop c).wp P Q a w:=by
 intro b k cs
 have key:∀n a w,I n a w→∃e a' w',Q e a' w'∧Arrives P (lone (b.at a (.code c:: .inLoop c::k)) cs w) b k cs e a' w':=by
  intro n
  induction n using Nat.strongRecOn with
  |_ n ih=>
   intro a w hI
   obtain⟨e,a₁,w₁,hq,LX⟩:=round n a w hI b (.inLoop c::k) cs
   cases e with
   |normal=>
    obtain⟨m',aN,hI₁⟩:=hq
    obtain⟨e₂,a₂,w₂,hq₂,abU⟩:=ih m' aN a₁ w₁ hI₁
    exact⟨e₂,a₂,w₂,hq₂,.of_steps (Steps.trans LX (.one step_inLoop)) abU⟩
   |exit id=>exact⟨_,a₁,w₁,hq,.pass (x:=.inLoop c) rfl (fun _ _=>.inl (by simp)) LX⟩
   |goto l=>exact⟨_,a₁,w₁,hq,.pass (x:=.inLoop c) rfl (fun _ _=>.inl (by simp)) LX⟩
   |ret=>exact⟨_,a₁,w₁,hq,.pass (x:=.inLoop c) rfl (fun _ _=>.inl (by simp)) LX⟩
   |panic ch=>exact⟨_,a₁,w₁,hq,.pass (x:=.inLoop c) rfl (fun _ _=>.inl (by simp)) LX⟩
   |outgrown=>exact⟨_,a₁,w₁,hq,.pass (x:=.inLoop c) rfl (fun _ _=>.inl (by simp)) LX⟩
 obtain⟨e,a',w',hq,LX⟩:=key _ a w h₀
 exact⟨e,a',w',hq,.of_steps (.one step_loop) LX⟩
theorem LY{P:Program}{n:Nat}(hm:P.follows .mixedOrders=true):∀ (c:Code) (an:List HS) (s:S) (Sf:List HS),tT P n c an=some (s,Sf)→
  ∀ (env:Env) (a:Act) (w:World) (Kn:Env→Hp→Prop) (Kx:Nat→Env→Hp→Prop) (Kr:Env→Hp→Prop) (Q:Exit→Act→World→Prop),Holds env a n→vc P s env w.heap Kn Kx Kr→
   (∀aT a' w',cu w w'→Holds aT a' n→Kn aT w'.heap→Q .normal a' w')→
   (∀i aT a' w',cu w w'→Holds aT a' n→Kx i aT w'.heap→Q (.exit i) a' w')→
   (∀aT a' w',cu w w'→Holds aT a' n→Kr aT w'.heap→Q .ret a' w')→c.wp P Q a w:=by
 intro c
 induction c with
 |skip=>
  intro an s Sf hd env a w Kn Kx Kr Q hh h hn hx hr
  simp only[tT,aqk,Prod.mk.injEq]at hd
  obtain⟨rfl,rfl⟩:=hd
  exact wp_skip (hn env a w (cu.refl w) hh h)
 |region id ops draw=>
  intro an s Sf hd env a w Kn Kx Kr Q hh h hn hx hr
  unfold tT at hd
  split at hd
  ·cases hd
  ·rename_i aM q x tr an0
   split at hd
   ·cases hd
   ·rename_i ss hss
    split at hd
    ·rename_i t ht
     split at hd
     ·rename_i hc
      obtain⟨rfl,h1,h2,h3⟩:=hc
      cases hts:attach ss t with
      |none=>rw[hts]at hd;cases hd
      |some ts=>
       rw[hts]at hd
       simp only[Option.map_some,aqk,Prod.mk.injEq]at hd
       obtain⟨rfl,rfl⟩:=hd
       have hl:∀k,ops.toList[k]? =ops[0+k]? :=fun k=>by simp
       have hQ:∀a' w',cu w w'→(∃aT,Holds aT a' n∧Kn (Env.aM aT aM) w'.heap)→Q .normal a' w':=fun a' w' hs ⟨aT,oQ,hk⟩=>hn _ a' w' hs (oQ.aM aM) hk
       have ci:=NR (P:=P) (ops:=ops) (n:=n) ops.toList 0 ss hl hss
       obtain⟨Inv,hI,h⟩:=h
       have h4:=LW (P:=P) (ops:=ops) (n:=n) (q:=q) (Inv:=Inv) (ss:=ss) (fun k s hk=>by have:=ci k s hk;simpa using this) t ts hts env a w.heap hh h
       exact Gj (K:=fun a' H'=>∃aT,Holds aT a' n∧Kn (Env.aM aT aM) H') hm h1 h2 h3 hI hQ (by simpa[NS]using h4)
     ·cases hd
    ·cases hd
  ·rename_i aM q an0
   split at hd
   ·cases hd
   ·rename_i ss hss
    split at hd
    ·rename_i abV
     simp only[aqk,Prod.mk.injEq]at hd
     obtain⟨rfl,rfl⟩:=hd
     have hl:∀k,ops.toList[k]? =ops[0+k]? :=fun k=>by simp
     have hQ:∀a' w',cu w w'→(∃aT,Holds aT a' n∧Kn (Env.aM aT aM) w'.heap)→Q .normal a' w':=fun a' w' hs ⟨aT,oQ,hk⟩=>hn _ a' w' hs (oQ.aM aM) hk
     cases draw with
     |false=>
      have h1:=NP (P:=P) (ops:=ops) (n:=n) ops.toList 0 ss hl hss env a w.heap hh h
      refine Gk (K:=fun a' H'=>∃aT,Holds aT a' n∧Kn (Env.aM aT aM) H') hQ ?_
      rw[List.range_eq_range']
      simpa[NS]using h1
     |true=>
      obtain⟨h1,h2,h3⟩:=abV.resolve_left (by simp)
      have h4:=NQ (P:=P) (ops:=ops) (n:=n) (cls:=Sc ss) ops.toList 0 ss hl hss (fun k s hk=>by simp[Sc,hk]) env a w.heap hh h
      refine Gl (K:=fun a' H'=>∃aT,Holds aT a' n∧Kn (Env.aM aT aM) H') hm h1 h2 h3 hQ ?_
      rw[List.range_eq_range']
      simpa[NS]using h4
    ·cases hd
 |seq x y ihx ihy=>
  intro an s Sf hd env a w Kn Kx Kr Q hh h hn hx hr
  unfold tT at hd
  split at hd
  ·cases hd
  ·rename_i sx XT XU
   split at hd
   ·cases hd
   ·rename_i sy an2 hdy
    simp only[aqk,Prod.mk.injEq]at hd
    obtain⟨rfl,rfl⟩:=hd
    refine wp_seq (ihx an sx XT XU env a w _ Kx Kr _ hh h ?_ ?_ ?_)
    ·intro aT a' w' hs oQ hk
     exact ihy XT sy _ hdy aT a' w' Kn Kx Kr Q oQ hk (fun e b v El=>hn e b v (hs.trans El)) (fun i e b v El=>hx i e b v (hs.trans El)) (fun e b v El=>hr e b v (hs.trans El))
    ·intro i aT a' w' hs oQ hk;exact hx i aT a' w' hs oQ hk
    ·intro aT a' w' hs oQ hk;exact hr aT a' w' hs oQ hk
 |cond c x y ihx ihy=>
  intro an s Sf hd env a w Kn Kx Kr Q hh h hn hx hr
  unfold tT at hd
  split at hd
  ·cases hd
  ·rename_i sx XT XU
   split at hd
   ·cases hd
   ·rename_i sy an2 hdy
    simp only[aqk,Prod.mk.injEq]at hd
    obtain⟨rfl,rfl⟩:=hd
    rw[UT]at h
    unfold Gh at h
    split at h
    ·rename_i v hv
     obtain⟨b,hb,h2⟩:=zf h
     subst hb
     have hc:=hh.uR _ _ hv
     refine wp_cond_split hc (fun hb=>?_) (fun hb=>?_)
     ·subst hb;exact ihx an sx XT XU env a w Kn Kx Kr Q hh h2 hn hx hr
     ·subst hb;exact ihy XT sy _ hdy env a w Kn Kx Kr Q hh h2 hn hx hr
    ·exact h.elim
 |block id x ih=>
  intro an s Sf hd env a w Kn Kx Kr Q hh h hn hx hr
  unfold tT at hd
  split at hd
  ·cases hd
  ·rename_i sx XT XU
   simp only[aqk,Prod.mk.injEq]at hd
   obtain⟨rfl,rfl⟩:=hd
   refine wp_block (ih an sx _ XU env a w Kn _ Kr _ hh h (fun e b v hs oQ hk=>hn e b v hs oQ hk) ?_ (fun e b v hs oQ hk=>hr e b v hs oQ hk))
   intro i aT a' w' hs oQ hk
   show if i=id then Q .normal a' w' else Q (.exit i) a' w'
   by_cases e:i=id
   ·subst e
    simp only[beq_self_eq_true,Gg]at hk
    rw[if_pos rfl]
    exact hn aT a' w' hs oQ hk
   ·have:(i==id)=false:=by simpa using e
    simp only[this,Gg]at hk
    rw[if_neg e]
    exact hx i aT a' w' hs oQ hk
 |loop x ih=>
  intro an s Sf hd env a w Kn Kx Kr Q hh h hn hx hr
  unfold tT at hd
  split at hd
  ·cases hd
  ·rename_i L q tr an0
   split at hd
   ·cases hd
   ·rename_i sx XT XU
    simp only[aqk,Prod.mk.injEq]at hd
    obtain⟨rfl,rfl⟩:=hd
    obtain⟨I,⟨m,h0⟩,round⟩:=h
    refine wp_loop_ghost (fun m a' w'=>cu w w'∧∃aT,Holds aT a' n∧I m aT w'.heap) ⟨cu.refl w,_,hh.aM L,h0⟩ ?_
    rintro m a' w' ⟨hs,aT,oQ,hI⟩
    refine ih an0 sx _ XU aT a' w' _ Kx Kr _ oQ (round m aT w'.heap hI) ?_ ?_ ?_
    ·rintro e b v El hb ⟨m',aN,UU⟩
     exact⟨m',aN,hs.trans El,_,hb.aM L,UU⟩
    ·intro i e b v El hb hk;exact hx i e b v (hs.trans El) hb hk
    ·intro e b v El hb hk;exact hr e b v (hs.trans El) hb hk
 |exit id=>
  intro an s Sf hd env a w Kn Kx Kr Q hh h hn hx hr
  simp only[tT,aqk,Prod.mk.injEq]at hd
  obtain⟨rfl,rfl⟩:=hd
  exact wp_exit (hx id env a w (cu.refl w) hh h)
 |ret=>
  intro an s Sf hd env a w Kn Kx Kr Q hh h hn hx hr
  simp only[tT,aqk,Prod.mk.injEq]at hd
  obtain⟨rfl,rfl⟩:=hd
  exact wp_ret (hr env a w (cu.refl w) hh h)
 |refuse r=>
  intro an s Sf hd env a w Kn Kx Kr Q hh h hn hx hr
  simp only[tT,aqk,Prod.mk.injEq]at hd
  obtain⟨rfl,rfl⟩:=hd
  exact h.elim
 |_=>intro an s Sf hd;simp[tT]at hd
inductive XV where
 |tmp(t:Nat)
 |one(t:Nat)
 |agg(t n:Nat)
 deriving Inhabited
structure Fn where
 np:Nat
 res:List XV
 body:S
 deriving Inhabited
def rP(env:Env)(H:Hp):List XV→(List Value→Prop)→Prop
 | [],F=>F []
 | .tmp t::r,F=>aE (Env.find env t) fun v=>rP env H r fun vs=>F (v::vs)
 | .one t::r,F=>aE (Env.find env t) fun p=>wQ p fun b o=>aE (H.rd b) fun l=>aE l[o]? fun v=>rP env H r fun vs=>F (v::vs)
 | .agg t n::r,F=>aE (Env.find env t) fun p=>wQ p fun b o=>aE (H.rd b) fun l=>dO (o+n≤l.length) (rP env H r fun vs=>F (.agg ((l.drop o).take n).toArray::vs))
@[go_sem ↓] theorem abY(env:Env)(H:Hp)(F:List Value→Prop):rP env H [] F=F []:=(rfl)
@[go_sem ↓] theorem abZ(env:Env)(H:Hp)(t:Nat)(r:List XV)(F:List Value→Prop):rP env H (.tmp t::r) F=aE (Env.find env t) fun v=>rP env H r fun vs=>F (v::vs):=(rfl)
@[go_sem ↓] theorem ab0(env:Env)(H:Hp)(t:Nat)(r:List XV)(F:List Value→Prop):
  rP env H (.one t::r) F=aE (Env.find env t) fun p=>wQ p fun b o=>aE (H.rd b) fun l=>aE l[o]? fun v=>rP env H r fun vs=>F (v::vs):=(rfl)
@[go_sem ↓] theorem ab1(env:Env)(H:Hp)(t n:Nat)(r:List XV)(F:List Value→Prop):
  rP env H (.agg t n::r) F=aE (Env.find env t) fun p=>wQ p fun b o=>aE (H.rd b) fun l=>dO (o+n≤l.length) (rP env H r fun vs=>F (.agg ((l.drop o).take n).toArray::vs)):=(rfl)
def LZ:List Value→Value
 | [v]=>v
 |vs=>.tuple vs.toArray
@[go_sem] theorem aeV(v:Value):LZ [v]=v:=(rfl)
@[go_sem] theorem aeW:LZ []= .tuple [].toArray:=(rfl)
@[go_sem] theorem aeX(v u:Value)(r:List Value):LZ (v::u::r)= .tuple (v::u::r).toArray:=(rfl)
def iV:Nat→List Value→Env
 |_,[]=>[]
 |i,v::r=>(i,v)::iV (i+1) r
@[go_sem] theorem Wq(i:Nat):iV i []=[]:=(rfl)
@[go_sem] theorem UV(i:Nat)(v:Value)(r:List Value):iV i (v::r)=(i,v)::iV (i+1) r:=(rfl)
def Fn.vc(P:Program)(F:Fn)(args:List Value)(H:Hp)(K:Value→Hp→Prop):Prop:=
 args.length=F.np∧Go.Vc.vc P F.body (iV 0 args) H (fun env H=>rP env H F.res fun vs=>K (LZ vs) H) (fun _ _ _=>False) (fun env H=>rP env H F.res fun vs=>K (LZ vs) H)
def ny(P:Program):List ResultVar→Option (List XV)
 | []=>some []
 | .tmp t::r=>(ny P r).map (.tmp t:: ·)
 | .cell t T::r=>if(P.info? T).isSome∧(P.underlying T).isSome then(ny P r).map ((if fy P T then .agg t (P.cellsOf T)else .one t):: ·)else none
def dQ(P:Program)(f:FuncId)(an:List HS):Option Fn:=
 match P.funcs[f]? with
 |none=>none
 |some fn=>
  match fn.body with
  |none=>none
  |some c=>
   match tT P fn.ntmps c an with
   |some (s,[])=>if fn.params.size≤fn.ntmps then(ny P fn.results.toList).map fun rs=>⟨fn.params.size,rs,s⟩else none
   |_=>none
def CT(tmps:Array Value):ResultVar→Sem Value
 | .tmp t=>pure (tmps.getD t undef)
 | .cell p t=>do loadVar t (←asAddr (tmps.getD p undef))
theorem A5{P:Program}{w:World}{env:Env}{a:Act}{n:Nat}(hh:Holds env a n):∀ (rs:List ResultVar) (l:List XV) (F:List Value→Prop),ny P rs=some l→rP env w.heap l F→
  ∃vs,F vs∧(rs.mapM (CT a.tmps)).run P w= .ok vs w:=by
 intro rs
 induction rs with
 |nil=>intro l F hl h;simp only[ny,aqk]at hl;subst hl;exact⟨[],h,rfl⟩
 |cons r rs ih=>
  intro l F hl h
  cases r with
  |tmp t=>
   unfold ny at hl
   cases hr:ny P rs with
   |none=>rw[hr]at hl;cases hl
   |some l'=>
    rw[hr]at hl
    simp only[Option.map_some,aqk]at hl
    subst hl
    obtain⟨v,hv,h⟩:=aD h
    obtain⟨vs,hF,EJ⟩:=ih l' _ hr h
    have e:a.tmps.getD t undef=v:=by simp[hh.AV t v hv]
    exact⟨v::vs,hF,by rw[List.mapM_cons];simp only[CT,Sem.run_bind,Sem.run_pure,Result.andThen_ok,e,EJ]⟩
  |cell t T=>
   unfold ny at hl
   split at hl
   ·rename_i hc
    cases hr:ny P rs with
    |none=>rw[hr]at hl;cases hl
    |some l'=>
     rw[hr]at hl
     simp only[Option.map_some,aqk]at hl
     subst hl
     cases hb:fy P T
     ·rw[hb]at h
      obtain⟨p,hp,h⟩:=aD h
      obtain⟨b,o,rfl,h⟩:=fL h
      obtain⟨lb,FX,h⟩:=aD h
      obtain⟨v,hv,h⟩:=aD h
      obtain⟨vs,hF,EJ⟩:=ih l' _ hr h
      have e:a.tmps.getD t undef= .pointer (some ⟨b,o,none⟩):=by simp[hh.AV t _ hp]
      exact⟨v::vs,hF,by rw[List.mapM_cons];simp only[CT,Sem.run_bind,Sem.run_pure,Result.andThen_ok,e,asAddr,(iW hc.1 hc.2 FX).2 hb v hv,EJ]⟩
     ·rw[hb]at h
      obtain⟨p,hp,h⟩:=aD h
      obtain⟨b,o,rfl,h⟩:=fL h
      obtain⟨lb,FX,h⟩:=aD h
      obtain⟨hn,h⟩:=h.out
      obtain⟨vs,hF,EJ⟩:=ih l' _ hr h
      have e:a.tmps.getD t undef= .pointer (some ⟨b,o,none⟩):=by simp[hh.AV t _ hp]
      exact⟨_,hF,by rw[List.mapM_cons];simp only[CT,Sem.run_bind,Sem.run_pure,Result.andThen_ok,e,asAddr,(iW hc.1 hc.2 FX).1 hb hn,EJ]⟩
   ·cases hl
theorem Js:∀ (args:List Value) (i k:Nat) (v:Value),Env.find (iV i args) k=some v→i≤k∧args[k - i]? =some v:=by
 intro args
 induction args with
 |nil=>intro i k v h;cases h
 |cons x r ih=>
  intro i k v h
  simp only[iV,Env.find]at h
  by_cases e:i=k
  ·subst e
   simp at h
   subst h
   exact⟨aqm _,by simp⟩
  ·have:(i==k)=false:=by simpa using e
   rw[this]at h
   obtain⟨h1,h2⟩:=ih (i+1) k v h
   refine⟨by omega,?_⟩
   rw[show k - i=(k - (i+1))+1 by omega,aq6]
   exact h2
theorem L0{P:Program}(hm:P.follows .mixedOrders=true){f:FuncId}{an:List HS}{F:Fn}(hd:dQ P f an=some F){args:List Value}{H:Hp}{K:Value→Hp→Prop}
  (h:F.vc P args H K):af P f args H K:=by
 unfold dQ at hd
 split at hd
 ·cases hd
 ·rename_i fn hf
  split at hd
  ·cases hd
  ·rename_i c hb
   split at hd
   ·rename_i s hs
    split at hd
    ·rename_i oP
     cases hr:ny P fn.results.toList with
     |none=>rw[hr]at hd;cases hd
     |some rs=>
      rw[hr]at hd
      simp only[Option.map_some,aqk]at hd
      subst hd
      obtain⟨bf,h⟩:=h
      simp only at bf h
      intro w hw
      subst hw
      refine calls_of_wp hf hb ?_
      have hh:Holds (iV 0 args) {tmps:=args.toArray++Array.replicate (fn.ntmps - args.toArray.size) undef,defers:=[]} fn.ntmps:=by
       refine⟨by simp;omega,rfl,fun k v hk=>?_⟩
       obtain⟨_,h2⟩:=Js args 0 k v hk
       have aN:k<args.length:=by
        rcases arm k args.length with h'|h'
        ·exact h'
        ·simp[aqo h']at h2
       rw[arC (by simpa using aN)]
       simpa using h2
      have CU:∀aT a' w',cu w w'→Holds aT a' fn.ntmps→rP aT w'.heap rs (fun vs=>K (LZ vs) w'.heap)→
        a'.defers=[]∧∃v,(results fn a'.tmps).run P w'= .ok v w'∧(∃v_1,Ending.returned v=Ending.returned v_1∧cu w w'∧K v_1 w'.heap):=by
       intro aT a' w' NB oQ hk
       obtain⟨vs,hF,EJ⟩:=A5 (P:=P) oQ fn.results.toList rs _ hr hk
       refine⟨oQ.defers,LZ vs,?_,_,rfl,NB,hF⟩
       change (do let vs ←fn.results.mapM (CT a'.tmps);pure (if h:vs.size=1 then vs[0]else .tuple vs):Sem Value).run P w'=_
       rw[Array.mapM_eq_mapM_toList]
       simp only[Sem.run_bind,Sem.run_map,EJ,Result.andThen_ok,Sem.run_pure]
       congr 1
       cases vs with
       |nil=>rfl
       |cons x r=>cases r with
        |nil=>rfl
        |cons y r=>simp[LZ]
      refine LY hm c an s [] hs _ _ w _ _ _ _ hh h ?_ ?_ ?_
      ·exact fun aT a' w' NB oQ hk=>CU aT a' w' NB oQ hk
      ·exact fun _ _ _ _ _ _ hk=>hk.elim
      ·exact fun aT a' w' NB oQ hk=>CU aT a' w' NB oQ hk
    ·cases hd
   ·cases hd
end Go.Vc

namespace Go.Vc
theorem wrap64{n:Int}(h0: -9223372036854775808≤n)(h1:n≤9223372036854775807):IntKind.i64.wrap n=n:=by
 have e:(2^IntKind.i64.bits:Int)=18446744073709551616:=rfl
 have e':(2^ (IntKind.i64.bits - 1):Int)=9223372036854775808:=rfl
 unfold IntKind.wrap
 simp only[e,e',IntKind.signed,arx,aqI]
 split<;>omega
theorem UW{n:Int}(h0:0≤n)(h1:n≤18446744073709551615):IntKind.u64.wrap n=n:=by
 have e:(2^IntKind.u64.bits:Int)=18446744073709551616:=rfl
 unfold IntKind.wrap
 simp only[e,IntKind.signed,ash]
 rw[if_neg (by simp)];omega
theorem UX{n:Int}(h0:0≤n)(h1:n≤4294967295):IntKind.u32.wrap n=n:=by
 have e:(2^IntKind.u32.bits:Int)=4294967296:=rfl
 unfold IntKind.wrap
 simp only[e,IntKind.signed,ash]
 rw[if_neg (by simp)];omega
def Sl(H:Hp)(size:Nat)(v:Value)(n:Nat)(xs:List Value)(fp:Option Nat):Prop:=
 xs.length=n*size∧
 match fp with
 |none=>n=0∧v= .slice none 0 0
 |some b=>∃l c,v= .slice (some ⟨b,0,none⟩) n c∧H.own b=some l∧n≤c∧c*size≤l.length∧l.take (n*size)=xs
theorem Sl.nil(H:Hp)(size:Nat):Sl H size (.slice none 0 0) 0 [] none:=⟨by simp,rfl,rfl⟩
theorem Sl.ext{H H':Hp}{size n:Nat}{v:Value}{xs:List Value}{fp:Option Nat}{S:Nat→Prop}(h:Sl H size v n xs fp)(e:ag S H H')(hs:∀b,fp=some b→¬S b):Sl H' size v n xs fp:=by
 obtain⟨hl,h⟩:=h
 refine⟨hl,?_⟩
 cases fp with
 |none=>exact h
 |some b=>
  obtain⟨l,c,h1,h2,h3⟩:=h
  exact⟨l,c,h1,e.own h2 (hs b rfl),h3⟩
theorem Sl.lt{H:Hp}{size n:Nat}{v:Value}{xs:List Value}{b:Nat}(h:Sl H size v n xs (some b)):b<H.size:=by
 obtain⟨_,l,c,_,h2,_⟩:=h
 exact aB h2
theorem Sl.lit(H:Hp)(T:TypeId)(size n:Nat)(xs:List Value)(hx:xs.length=n*size):Sl (H.new T xs) size (.slice (some ⟨H.size,0,none⟩) n n) n xs (some H.size):=
 ⟨hx,xs,n,rfl,az H T xs,aqm _,by omega,by rw[←hx];simp⟩
theorem Sl.bU{H:Hp}{T:TypeId}{size n b:Nat}{xs:List Value}(hx:xs.length=n*size)(hb:b=H.size):Sl (H.new T xs) size (.slice (some ⟨b,0,none⟩) n n) n xs (some b):=
 hb▸Sl.lit H T size n xs hx
def db(H:Hp)(size:Nat)(v:Value)(n:Nat)(xs:List Value):Prop:=
 xs.length=n*size∧((n=0∧∃a c,v= .slice a 0 c)∨∃b o c l,v= .slice (some ⟨b,o,none⟩) n c∧H.rd b=some l∧o+n*size≤l.length∧(l.drop o).take (n*size)=xs)
theorem Sl.rd{H:Hp}{size n:Nat}{v:Value}{xs:List Value}{fp:Option Nat}(h:Sl H size v n xs fp):db H size v n xs:=by
 obtain⟨hl,h⟩:=h
 refine⟨hl,?_⟩
 cases fp with
 |none=>exact .inl ⟨h.1,none,0,h.2⟩
 |some b=>
  obtain⟨l,c,h1,h2,h3,h4,h5⟩:=h
  refine .inr ⟨b,0,c,l,h1,ae h2,?_,by simpa using h5⟩
  have:=ary size h3
  omega
theorem db.rowOf{H:Hp}{size n:Nat}{v:Value}{xs:List Value}{F:Nat→List Value→Prop}(h:db H size v n xs)(hf:F n xs):rowOf H size v F:=by
 obtain⟨hl,⟨rfl,a,c,rfl⟩| ⟨b,o,c,l,rfl,h2,h3,h4⟩⟩:=h
 ·have:xs=[]:=aqN.1 (by omega)
  subst this
  exact hf
 ·by_cases hn:n=0
  ·subst hn
   have:xs=[]:=aqN.1 (by omega)
   subst this
   exact hf
  ·have e0:(n==0)=false:=by simpa using hn
   show Gg (n==0) _ _
   rw[e0]
   show aE (H.rd b) _
   rw[h2]
   exact⟨h3,by rw[h4];exact hf⟩
theorem db.ext{H H':Hp}{size n:Nat}{v:Value}{xs:List Value}{S:Nat→Prop}(h:db H size v n xs)(e:ag S H H')(hs:∀b,b<H.size→¬S b):db H' size v n xs:=by
 obtain⟨hl,h| ⟨b,o,c,l,rfl,h2,h3⟩⟩:=h
 ·exact⟨hl,.inl h⟩
 ·exact⟨hl,.inr ⟨b,o,c,l,rfl,e.rd h2 (hs b (Pv h2)),h3⟩⟩
theorem db.fresh{H H':Hp}{size n:Nat}{v:Value}{xs:List Value}(h:db H size v n xs)(e:ah H H'):db H' size v n xs:=h.ext e fun _ _ h=>h
theorem Ma{l xs new:List Value}{p:Nat}(hx:l.take p=xs)(hp:xs.length=p)(hn:p+new.length≤l.length):(bh l p new).take (p+new.length)=xs++new:=by
 apply aqX
 intro i
 by_cases hi:i<p+new.length
 ·rw[aqF hi,getElem?_splice new l p i hn]
  by_cases h1:p≤i
  ·rw[if_pos ⟨h1,hi⟩,aqD (by omega),hp]
  ·rw[if_neg (fun h=>h1 h.1),aqs (by omega),←hx,aqF (by omega)]
 ·rw[aqo (by simp;omega),aqo (by simp;omega)]
theorem Sl.append{H:Hp}{T size bytes n m:Nat}{z:List Value}{s x:Value}{xs ys:List Value}{fp:Option Nat}{K:Value→Hp→Prop}(h:Sl H size s n xs fp)(hx:db H size x m ys)
  (hz:z.length=size)(h1:gJ ys)(hb:(n+m)*bytes≤2^47)
  (hk:∀v' H' bI,Sl H' size v' (n+m) (xs++ys) bI→ag (fun b=>fp=some b) H H'→(bI=fp∨∃b,bI=some b∧H.size≤b∧b<H'.size)→K v' H'):
  fA T size bytes z s x H K:=by
 obtain⟨hl,h⟩:=h
 have key:∀base c,s= .slice base n c→(∀b,base=some b→fp≠none)→fA T size bytes z s x H K:=by
  intro base c hs ajj
  subst hs
  refine db.rowOf hx (F:=fun m new=>(n+m≤c→m=0→K (.slice base n c) H)∧
   (n+m≤c→m≠0→uQ base fun b o=>aE (Kb (H.own b) (H.CG b)) fun l=>dO (o+(n+m)*size≤l.length∧gJ new) (K (.slice base (n+m) c) (H.wr b (bh l (o+n*size) new))))∧
   (c<n+m→Builtin.nextslicecap (n+m) c*bytes≤2^48∧
    rowOf H size (.slice base n c) fun _ R6=>∀c',n+m≤c'→K (.slice (some ⟨H.size,0,none⟩) (n+m) c') (H.new T (R6++new++aV z (c' - (n+m)))))) ?_
  refine⟨fun oP hm=>?_,fun oP hm=>?_,fun aN=>⟨?_,?_⟩⟩
  ·subst hm
   have hy:ys=[]:=aqN.1 (by have:=hx.1;omega)
   subst hy
   exact hk _ _ fp (by rw[aq2];exact⟨by simpa using hl,h⟩) (ag.refl _ _) (.inl rfl)
  ·cases fp with
   |none=>
    obtain⟨rfl,hv⟩:=h
    injection hv with e1 e2 e3
    omega
   |some b=>
    obtain⟨l,c',hv,h2,h3,h4,h5⟩:=h
    injection hv with e1 e2 e3
    subst e1;subst e3
    show aE (Kb (H.own b) (H.CG b)) _
    rw[h2]
    have h6:=ary size oP
    refine⟨⟨by omega,h1⟩,?_⟩
    rw[aqa]
    refine hk _ _ (some b) ⟨by simp[hl,hx.1,arn],_,c,rfl,ai h2,oP,by rw[kA];exact h4,?_⟩ ((ag.refl (fun x=>some b=some x) H).wr (fun _=>rfl) _) (.inl rfl)
    have:=Ma (new:=ys) h5 hl (by rw[hx.1];rw[arn]at h6;omega)
    rw[hx.1]at this
    rw[arn];exact this
  ·have h2:Builtin.nextslicecap (n+m) c≤2*(n+m):=nextslicecap_le aN
   have h3:=ary bytes h2
   rw[Nat.mul_assoc]at h3
   omega
  ·refine db.rowOf (n:=n) (xs:=xs) (Sl.rd (fp:=fp) ⟨hl,h⟩) ?_
   intro c' NF
   refine hk _ _ (some H.size) ⟨by simp[hl,hx.1,arn],_,c',rfl,az _ _ _,NF,?_,?_⟩ ((ag.refl _ _).new _ _) (.inr ⟨_,rfl,aqm _,by rw[am];omega⟩)
   ·simp only[aqj,hl,hx.1,Em,hz]
    rw[←arn,←arn]
    exact Nat.le_of_eq (by congr 1;omega)
   ·rw[show(n+m)*size=(xs++ys).length by simp[hl,hx.1,arn]]
    exact List.take_left
 cases fp with
 |none=>exact key none 0 (by obtain⟨rfl,hv⟩:=h;exact hv) (fun b hb=>by cases hb)
 |some b=>
  obtain⟨l,c,hv,_⟩:=h
  exact key (some ⟨b,0,none⟩) c hv (fun _ _=>by simp)
theorem wA(l:List Value)(i n:Nat)(x:Value):(l.set i x).take n=(l.take n).set i x:=by
 apply aqX
 intro k
 by_cases hk:k<n
 ·rw[aqF hk]
  by_cases h:i=k
  ·subst h
   by_cases hl:i<l.length
   ·rw[aqi hl,aqi (by simp;omega)]
   ·rw[aqo (by simp;omega),aqo (by simp;omega)]
  ·rw[aqh h,aqh h,aqF hk]
 ·rw[aqo (by simp;omega),aqo (by simp;omega)]
theorem Sl.qn{H:Hp}{n c s:Nat}{xs l:List Value}(h:Sl H 1 (.slice (some ⟨s,0,none⟩) n c) n xs (some s))(hl:H.own s=some l)(i:Nat)(x:Value):
  Sl (H.wr s (l.set i x)) 1 (.slice (some ⟨s,0,none⟩) n c) n (xs.set i x) (some s):=by
 obtain⟨h1,l',c',hv,h2,h3,h4,h5⟩:=h
 rw[hl]at h2
 injection h2 with h2
 subst h2
 injection hv with _ _ hc
 subst hc
 exact⟨by simpa using h1,_,c,rfl,ai hl,h3,by simpa using h4,by rw[wA,h5]⟩
theorem Sl.get{H:Hp}{n c s size:Nat}{xs l:List Value}(h:Sl H size (.slice (some ⟨s,0,none⟩) n c) n xs (some s))(hl:H.own s=some l){i:Nat}{x:Value}(hx:xs[i]? =some x):l[i]? =some x:=by
 obtain⟨h1,l',c',hv,h2,h3,h4,h5⟩:=h
 rw[hl]at h2
 injection h2 with h2
 subst h2
 rw[←h5,aqG]at hx
 split at hx
 ·exact hx
 ·cases hx
def rQ(es:List MapEntry)(i:Int):Option Value:=(es.find? fun e=>match e.key with| .int .i64 j=>i==j|_=>false).map (·.val)
def A6(es:List MapEntry):Prop:=∃ks:List Int,es.map (·.key)=ks.map (Value.int .i64)∧ks.Nodup
def lM(H:Hp)(b:Nat)(f:Int→Option Value):Prop:=∃es k,H.mp b=some (es,k)∧A6 es∧∀i,rQ es i=f i
theorem lM.new(H:Hp):lM H.iR H.size (fun _=>none):=⟨[],0,Pw H,⟨[],rfl,art⟩,fun _=>rfl⟩
theorem lM.ext{H H':Hp}{b:Nat}{f:Int→Option Value}{S:Nat→Prop}(h:lM H b f)(e:ag S H H')(hs:¬S b):lM H' b f:=by
 obtain⟨es,k,h1,h2⟩:=h
 exact⟨es,k,e.mp h1 hs,h2⟩
theorem lM.lt{H:Hp}{b:Nat}{f:Int→Option Value}(h:lM H b f):b<H.size:=by
 obtain⟨es,k,h1,h2⟩:=h
 exact Px h1
theorem gw(e:MapEntry)(es:List MapEntry)(j i:Int)(he:e.key= .int .i64 j):rQ (e::es) i=if i=j then some e.val else rQ es i:=by
 unfold rQ
 rw[List.find?_cons]
 simp only[he]
 by_cases h:i=j
 ·simp[h]
 ·have:(i==j)=false:=by simpa using h
  rw[this,if_neg h]
theorem zi{e:MapEntry}{es:List MapEntry}(h:A6 (e::es)):∃j,e.key= .int .i64 j∧A6 es∧∀x∈es,x.key≠ .int .i64 j:=by
 obtain⟨ks,h1,h2⟩:=h
 cases ks with
 |nil=>simp at h1
 |cons j ks=>
  simp only[aqY,List.cons.injEq]at h1
  rw[aqu]at h2
  refine⟨j,h1.1,⟨ks,h1.2,h2.2⟩,fun x hx hk=>h2.1 ?_⟩
  have hm:x.key∈es.map (·.key):=aqK.2 ⟨x,hx,rfl⟩
  rw[h1.2,hk]at hm
  obtain⟨y,hy,e⟩:=aqK.1 hm
  injection e with _ e
  exact e▸hy
theorem CV(i:Int):∀ (es:List MapEntry),A6 es→∀n:Nat,
  (rQ es i=none∧fV .int (.int .i64 i) es n=some none)∨
  ∃j e,es[j]? =some e∧e.key= .int .i64 i∧rQ es i=some e.val∧fV .int (.int .i64 i) es n=some (some (n+j,e.val)):=by
 intro es
 induction es with
 |nil=>intro _ n;exact .inl ⟨rfl,rfl⟩
 |cons e es ih=>
  intro h n
  obtain⟨j,hj,Wr,aR⟩:=zi h
  have hq:rG .int (.int .i64 i) e.key=some (decide (i=j)):=by rw[hj];simp[rG,bE]
  by_cases Ll:i=j
  ·subst Ll
   refine .inr ⟨0,e,rfl,hj,by rw[gw e es i i hj,if_pos rfl],?_⟩
   unfold fV
   rw[hq];simp
  ·have h2:fV .int (.int .i64 i) (e::es) n=fV .int (.int .i64 i) es (n+1):=by
    rw[fV,hq,aqA Ll]
   have h3:rQ (e::es) i=rQ es i:=by rw[gw e es j i hj,if_neg Ll]
   rw[h2,h3]
   rcases ih Wr (n+1)with ⟨h4,h5⟩| ⟨k,e',h4,h5,h6,h7⟩
   ·exact .inl ⟨h4,h5⟩
   ·exact .inr ⟨k+1,e',by simpa using h4,h5,h6,by rw[h7];congr 3;omega⟩
theorem lM.look{H:Hp}{b:Nat}{f:Int→Option Value}(h:lM H b f)(i:Int)(F:Option Value→Prop):yo H .int (some b) (.int .i64 i) F=F (f i):=by
 obtain⟨es,k,h1,h2,h3⟩:=h
 unfold yo
 simp only[h1,nA]
 rcases CV i es h2 0 with ⟨h4,h5⟩| ⟨j,e,h4,h5,h6,h7⟩
 ·rw[h5,←h3 i,h4];rfl
 ·rw[h7,←h3 i,h6];rfl
def Kc(f:Int→Option Value)(i:Int)(v:Value):Int→Option Value:=fun j=>if j=i then some v else f j
def NT(f:Int→Option Value)(i:Int):Int→Option Value:=fun j=>if j=i then none else f j
theorem Mb(es:List MapEntry)(e:MapEntry)(i j:Int)(hj:e.key= .int .i64 j)(hn:rQ es j=none):rQ (es++[e]) i=if i=j then some e.val else rQ es i:=by
 unfold rQ at*
 rw[List.find?_append]
 by_cases h:i=j
 ·subst h
  have hx:(es.find? fun e=>match e.key with| .int .i64 j=>i==j|_=>false)=none:=by simpa using hn
  rw[hx]
  simp[hj]
 ·rw[if_neg h]
  have:([e].find? fun e=>match e.key with| .int .i64 j=>i==j|_=>false)=none:=by simp[hj,h]
  rw[this]
  simp
theorem Qz{es:List MapEntry}{i:Int}(h:rQ es i=none):∀e∈es,e.key≠ .int .i64 i:=by
 intro e he hk
 unfold rQ at h
 simp only[Option.map_eq_none_iff,List.find?_eq_none]at h
 have:=h e he
 simp[hk]at this
theorem Ke{es:List MapEntry}(h:A6 es)(j:Nat)(e:MapEntry)(hj:es[j]? =some e)(v:Value)(i:Int)(hk:e.key= .int .i64 i):
  A6 (es.modify j fun x=>{x with key:=.int .i64 i,val:=v}):=by
 obtain⟨ks,h1,h2⟩:=h
 refine⟨ks,?_,h2⟩
 rw[←h1]
 apply aqX
 intro n
 rw[aqz,aqz,List.getElem?_modify]
 by_cases hn:j=n
 ·subst hn;simp[hj,hk]
 ·simp[hn]
theorem Mc:∀ (es:List MapEntry),A6 es→∀ (j:Nat) (e:MapEntry) (v:Value) (i:Int),es[j]? =some e→e.key= .int .i64 i→∀n,
  rQ (es.modify j fun x=>{x with key:=.int .i64 i,val:=v}) n=if n=i then some v else rQ es n:=by
 intro es
 induction es with
 |nil=>intro _ j e v i hj;simp at hj
 |cons x es ih=>
  intro h j e v i hj hk n
  obtain⟨q,hq,Wr,aR⟩:=zi h
  cases j with
  |zero=>
   simp only[aqE,aqk]at hj
   subst hj
   have:q=i:=by rw[hq]at hk;injection hk
   subst this
   rw[List.modify_zero_cons,gw _ es q n rfl,gw x es q n hq]
   split<;>rfl
  |succ j=>
   rw[List.modify_succ_cons,gw x _ q n hq,gw x es q n hq,ih Wr j e v i (by simpa using hj) hk n]
   by_cases h1:n=q
   ·subst h1
    have hm:e∈es:=aqg (by simpa using hj)
    have:n≠i:=fun e'=>aR e hm (by rw[hk,e'])
    simp[this]
   ·simp[h1]
theorem NU:∀ (es:List MapEntry),A6 es→∀ (j:Nat) (e:MapEntry) (i:Int),es[j]? =some e→e.key= .int .i64 i→A6 (es.eraseIdx j)∧∀n,rQ (es.eraseIdx j) n=if n=i then none else rQ es n:=by
 intro es
 induction es with
 |nil=>intro _ j e i hj;simp at hj
 |cons x es ih=>
  intro h j e i hj hk
  have h':=h
  obtain⟨q,hq,Wr,aR⟩:=zi h
  cases j with
  |zero=>
   simp only[aqE,aqk]at hj
   subst hj
   have:q=i:=by rw[hq]at hk;injection hk
   subst this
   refine⟨Wr,fun n=>?_⟩
   rw[List.eraseIdx_zero,List.tail_cons,gw x es q n hq]
   by_cases hn:n=q
   ·subst hn
    rw[if_pos rfl]
    unfold rQ
    simp only[Option.map_eq_none_iff,List.find?_eq_none]
    intro e' gz
    obtain⟨ks,h1,_⟩:=Wr
    have hm:e'.key∈es.map (·.key):=aqK.2 ⟨e',gz,rfl⟩
    rw[h1]at hm
    obtain⟨y,_,ey⟩:=aqK.1 hm
    have:=aR e' gz
    rw[←ey]at this ⊢
    simp only[beq_iff_eq]
    intro e2
    exact this (by rw[e2])
   ·simp[hn]
  |succ j=>
   obtain⟨h1,h2⟩:=ih Wr j e i (by simpa using hj) hk
   have hm:e∈es:=aqg (by simpa using hj)
   have hqi:q≠i:=fun e'=>aR e hm (by rw[hk,e'])
   refine⟨?_,fun n=>?_⟩
   ·obtain⟨ks,e1,e2⟩:=h1
    refine⟨q::ks,by rw[List.eraseIdx_cons_succ,aqY,aqY,hq,e1],?_⟩
    rw[aqu]
    refine⟨fun bq=>?_,e2⟩
    have:Value.int .i64 q∈(es.eraseIdx j).map (·.key):=by rw[e1];exact aqK.2 ⟨q,bq,rfl⟩
    obtain⟨y,hy,ey⟩:=aqK.1 this
    exact aR y (List.mem_of_mem_eraseIdx hy) ey
   ·rw[List.eraseIdx_cons_succ,gw x _ q n hq,gw x es q n hq,h2 n]
    by_cases h3:n=q
    ·subst h3;simp[hqi]
    ·simp[h3]
theorem Kf(n:Nat)(i:Int):Instr.sameBits (n+1) (.int .i64 i) (.int .i64 i)=true:=by simp[Instr.sameBits]
theorem lM.lZ{H:Hp}{b:Nat}{f:Int→Option Value}(h:lM H b f){i:Int}{v:Value}{F:Hp→Prop}(hk:∀H',lM H' b (Kc f i v)→ag (fun x=>x=b) H H'→F H'):
  Sg H .int b (.int .i64 i) v F:=by
 obtain⟨es,k,h1,h2,h3⟩:=h
 unfold Sg
 simp only[h1,nA]
 have tR:∀Ws k',ag (fun x=>x=b) H (H.Ei b Ws k'):=fun Ws k'=>(ag.refl (fun x=>x=b) H).Ei (fun _=>rfl) _ _
 rcases CV i es h2 0 with ⟨h4,h5⟩| ⟨j,e,h4,h5,h6,h7⟩
 ·rw[h5]
  refine⟨rfl,hk _ ⟨_,_,kR h1,?_,fun n=>?_⟩ (tR _ _)⟩
  ·obtain⟨ks,e1,e2⟩:=h2
   refine⟨ks++[i],by simp[Lz,e1],?_⟩
   rw[aqR]
   refine⟨e2,by simp,fun a ha c hc Ry=>?_⟩
   simp only[aql]at hc
   subst hc;subst Ry
   have:Value.int .i64 a∈es.map (·.key):=by rw[e1];exact aqK.2 ⟨a,ha,rfl⟩
   obtain⟨y,hy,ey⟩:=aqK.1 this
   exact Qz h4 y hy ey
  ·rw[Lz,Mb es _ n i rfl h4]
   unfold Kc
   split<;>first|rfl|exact h3 n
 ·rw[h7]
  refine⟨?_,hk _ ⟨_,_,kR h1,Ke h2 _ e (by simpa using h4) _ _ h5,fun n=>?_⟩ (tR _ _)⟩
  ·simp only[FI,aqa,h4,Option.map_some,Option.getD_some,h5]
   exact Kf 9999 i
  ·rw[Lz,aqa,Mc es h2 j e v i h4 h5 n]
   unfold Kc
   split<;>first|rfl|exact h3 n
theorem lM.del{H:Hp}{b:Nat}{f:Int→Option Value}(h:lM H b f){i:Int}{F:Hp→Prop}(hk:∀H',lM H' b (NT f i)→ag (fun x=>x=b) H H'→F H'):
  XW H .int b (.int .i64 i) F:=by
 obtain⟨es,k,h1,h2,h3⟩:=h
 unfold XW
 simp only[h1,nA]
 have tR:∀Ws k',ag (fun x=>x=b) H (H.Ei b Ws k'):=fun Ws k'=>(ag.refl (fun x=>x=b) H).Ei (fun _=>rfl) _ _
 rcases CV i es h2 0 with ⟨h4,h5⟩| ⟨j,e,h4,h5,h6,h7⟩
 ·rw[h5]
  refine hk _ ⟨_,_,kR h1,h2,fun n=>?_⟩ (tR _ _)
  rw[F7,h3 n]
  unfold NT
  by_cases hn:n=i
  ·subst hn;rw[if_pos rfl,←h3 n];exact h4
  ·rw[if_neg hn]
 ·rw[h7]
  obtain⟨e1,e2⟩:=NU es h2 j e i h4 h5
  refine hk _ ⟨_,_,kR h1,by rw[F7,aqa];exact e1,fun n=>?_⟩ (tR _ _)
  rw[F7,aqa,e2 n]
  unfold NT
  split<;>first|rfl|exact h3 n
end Go.Vc

namespace Go.Vc
section
variable {P : Program} {ev : Ev} {H : Hp} {K K' : Value → Hp → Prop}
theorem NV{s:Shape}{r:Option Nat}{k:Value}{F G:Option Value→Prop}(h:yo H s r k F)(hk:∀x,F x→G x):yo H s r k G:=by
 unfold yo at*
 cases r with
 |none=>exact hk _ h
 |some b=>exact aq h fun m h=>aq h fun x=>hk _
theorem Kg{T size bytes:Nat}{z:List Value}{s x:Value}(h:fA T size bytes z s x H K)(hk:∀v H',K v H'→K' v H'):fA T size bytes z s x H K':=by
 refine kO h fun base n c h=>ze h fun m new h=>?_
 obtain⟨h1,h2,h3⟩:=h
 exact⟨fun a b=>hk _ _ (h1 a b),fun a b=>zd (h2 a b) fun b o h=>aq h fun l h=>bP h (hk _ _),fun a=>⟨(h3 a).1,ze (h3 a).2 fun n l h c' hc=>hk _ _ (h c' hc)⟩⟩
theorem Gm(i:dw)(h:i.vc P ev H K)(hk:∀v H',K v H'→K' v H'):i.vc P ev H K':=by
 cases hc:i.cls with
 |pure=>exact Pt i hc h hk
 |quiet=>
  cases i<;>simp[dw.cls]at hc<;>simp only[dw.vc]at h ⊢
  ·exact aq h fun v h=>qm h fun b o h=>aq h fun l h=>aq h fun v=>hk _ _
  ·exact aq h fun v h=>qm h fun b o h=>aq h fun l h=>bP h (hk _ _)
  ·exact aq h fun v h=>aq h fun v h=>wx h fun r h=>bP h fun h=>NV h fun x=>hk _ _
  ·refine aq h fun v h=>wx h fun r h=>?_
   unfold LQ at*
   cases r with
   |none=>exact hk _ _ h
   |some b=>exact aq h fun m=>hk _ _
  ·exact aq h fun v h=>Ej h fun l=>hk _ _
 |HY=>
  cases i<;>simp[dw.cls]at hc<;>simp only[dw.vc]at h ⊢
  ·exact aq h fun v=>hk _ _
  ·exact hk _ _ h
  ·exact Gf h fun l=>hk _ _
  ·exact aq h fun v h=>qm h fun b o h=>aq h fun v h=>aq h fun l h=>bP h fun h=>bP h fun h=>bP h (hk _ _)
  ·exact hk _ _ h
  ·exact aq h fun v h=>aq h fun v h=>j5 h fun n h=>j5 h fun c h=>bP h (hk _ _)
  ·exact aq h fun v h=>aq h fun v h=>aq h fun v h=>wx h fun r h=>aq h fun b h=>bP h fun h=>aq h fun es h=>aq h fun x h=>bP h (hk _ _)
  ·exact kN h fun l h=>af.mono h hk
  ·refine aq h fun v h=>kN h fun l h=>?_
   unfold XG at*
   split at h
   ·exact⟨h.1,h.2.mono hk⟩
   ·exact h.elim
  ·refine aq h fun v h=>kN h fun l h=>?_
   obtain⟨T,v,f,rv,e,hm,hc⟩:=h
   exact⟨T,v,f,rv,e,hm,hc.mono hk⟩
  ·exact aq h fun v h=>aq h fun v h=>Kg h hk
  ·exact aq h fun v h=>aq h fun v h=>wx h fun r h=>aq h fun b h=>bP h fun h=>aq h fun es h=>aq h fun x=>hk _ _
  ·exact aq h fun v h=>kO h fun a n c h=>by
    rcases h with ⟨h1,h2⟩| ⟨h1,b,o,l,h2,h3,h4,h5,h6⟩
    ·exact .inl ⟨h1,hk _ _ h2⟩
    ·exact .inr ⟨h1,b,o,l,h2,h3,h4,h5,hk _ _ h6⟩
  ·refine aq h fun v h=>?_
   unfold iU at*
   split at h
   ·exact fun c hc=>hk _ _ (h c hc)
   ·exact h.elim
  ·exact kN h fun l h=>by obtain⟨v,h1,h2⟩:=h;exact⟨v,h1,hk _ _ h2⟩
theorem Md(s:fF)(h:s.vc P ev H K)(hk:∀v H',K v H'→K' v H'):s.vc P ev H K':=by
 unfold fF.vc at*
 cases hq:s.quiet
 ·rw[hq]at h;exact Gm s.op h hk
 ·rw[hq]at h;obtain⟨v,h1,h2⟩:=h;exact⟨v,h1,hk _ _ h2⟩
theorem Py{o:Option Value}{F F':Bool→Prop}{N N':Prop}(h:gV o F N)(hf:∀b,F b→F' b)(hn:N→N'):gV o F' N':=by
 rcases FL h with ⟨b,rfl,h⟩| ⟨vs,rfl,h⟩
 ·exact hf b h
 ·exact hn h
theorem Ba{b:Bool}{A A' B B':Prop}(h:Gg b A B)(ha:A→A')(hb:B→B'):Gg b A' B':=by
 cases b
 ·exact hb h
 ·exact ha h
theorem NW{F F':Env→Hp→Prop}(hk:∀e H,F e H→F' e H):∀ (l:List fF) (env:Env) (H:Hp),iB P F l env H→iB P F' l env H:=by
 intro l
 induction l with
 |nil=>intro env H h;exact hk _ _ h
 |cons s l ih=>
  intro env H h
  unfold iB at h ⊢
  cases hg:s.guard with
  |none=>rw[hg]at h;exact Md s h fun v H'=>ih _ _
  |some g=>
   rw[hg]at h
   exact Py h (fun b h=>Ba h (fun h=>Md s h fun v H'=>ih _ _) (ih _ _)) (ih _ _)
theorem CW{s:fF}{env:Env}{F F' N N':Env→Prop}(h:AW s env F N)(hf:∀e,F e→F' e)(hn:∀e,N e→N' e):AW s env F' N':=by
 unfold AW at*
 cases hg:s.guard with
 |none=>rw[hg]at h;exact hf _ h
 |some g=>rw[hg]at h;exact Py h (fun b h=>Ba h (hf _) (hn _)) (hn _)
theorem Sh{Inv:Hp→Prop}{F F':Env→Hp→Prop}(hk:∀e H,F e H→F' e H):∀ (t:oC) (env:Env) (H:Hp),CS P Inv F t env H→CS P Inv F' t env H:=by
 intro t
 induction t with
 |done=>intro env H h;exact hk _ _ h
 |stop=>intro env H h;trivial
 |aO s t ih=>intro env H h;exact CW h (fun e h=>Gm s.op h fun v H'=>ih _ _) (fun e=>ih _ _)
 |oR s t ih=>intro env H h;exact CW h (fun e h=>by obtain⟨v,h1,h2⟩:=h;exact⟨v,h1,ih _ _ h2⟩) (fun e=>ih _ _)
 |aC s t r ih ihr=>intro env H h;exact⟨CW h.1 (fun e h=>Gm s.op h fun v H' h=>bP h (ih _ _)) (fun e=>ih _ _),ihr _ _ h.2⟩
theorem En:∀ (s:S) (env:Env) (H:Hp) (Kn Rz:Env→Hp→Prop) (Kx RA:Nat→Env→Hp→Prop) (Kr RB:Env→Hp→Prop),(∀e H,Kn e H→Rz e H)→(∀i e H,Kx i e H→RA i e H)→(∀e H,Kr e H→RB e H)→
  vc P s env H Kn Kx Kr→vc P s env H Rz RA RB:=by
 intro s
 induction s with
 |skip=>intro env H Kn Rz Kx RA Kr RB hn hx hr h;exact hn _ _ h
 |aP ops aM=>intro env H Kn Rz Kx RA Kr RB hn hx hr h;exact NW (fun e H h=>hn _ _ h) ops env H h
 |jC t aM=>intro env H Kn Rz Kx RA Kr RB hn hx hr h;obtain⟨Inv,hI,h⟩:=h;exact⟨Inv,hI,Sh (fun e H h=>hn _ _ h) t env H h⟩
 |seq a b iha ihb=>intro env H Kn Rz Kx RA Kr RB hn hx hr h;exact iha env H _ _ _ _ _ _ (fun e H h=>ihb e H _ _ _ _ _ _ hn hx hr h) hx hr h
 |cond c x y ihx ihy=>
  intro env H Kn Rz Kx RA Kr RB hn hx hr h
  simp only[vc]at*
  unfold Gh at*
  split at h
  ·exact Ge h fun b h=>Ba h (ihx _ _ _ _ _ _ _ _ hn hx hr) (ihy _ _ _ _ _ _ _ _ hn hx hr)
  ·exact h.elim
 |tS id b ih=>intro env H Kn Rz Kx RA Kr RB hn hx hr h;exact ih env H _ _ _ _ _ _ hn (fun i e H h=>Ba h (hn _ _) (hx _ _ _)) hr h
 |loop L b ih=>
  intro env H Kn Rz Kx RA Kr RB hn hx hr h
  obtain⟨I,h0,round⟩:=h
  exact⟨I,h0,fun m env H hI=>ih env H _ _ _ _ _ _ (fun e H h=>h) hx hr (round m env H hI)⟩
 |exit id=>intro env H Kn Rz Kx RA Kr RB hn hx hr h;exact hx _ _ _ h
 |ret=>intro env H Kn Rz Kx RA Kr RB hn hx hr h;exact hr _ _ h
 |bad=>intro env H Kn Rz Kx RA Kr RB hn hx hr h;exact h.elim
def Gn(a b:S):S:=.seq a b
theorem UY(a b:S)(env:Env)(H:Hp)(Kn:Env→Hp→Prop)(Kx:Nat→Env→Hp→Prop)(Kr:Env→Hp→Prop):vc P (Gn a b) env H Kn Kx Kr=vc P a env H (fun aT H'=>vc P b aT H' Kn Kx Kr) Kx Kr:=rfl
theorem uU{a b:S}{env:Env}{H:Hp}{Kn:Env→Hp→Prop}{Kx:Nat→Env→Hp→Prop}{Kr:Env→Hp→Prop}(M:Env→Hp→Prop)(h1:vc P a env H M Kx Kr)(h2:∀e H',M e H'→vc P b e H' Kn Kx Kr):vc P (Gn a b) env H Kn Kx Kr:=
 En a env H _ _ _ _ _ _ h2 (fun _ _ _ h=>h) (fun _ _ h=>h) h1
end
end Go.Vc

namespace Go.Vc
end Go.Vc

namespace Go.Vc
def Kh(P:Program)(T:TypeId)(name:String):Option (List FieldStep×Option (FuncId×Bool)):=
 ((P.info? T).bind fun i=>i.methods.find? (·.name==name)).map fun m=>(m.path.toList,m.func)
theorem uV{P:Program}{T:TypeId}{name:String}{p:List FieldStep}{f:Option (FuncId×Bool)}(h:Kh P T name=some (p,f)):
  ∃i m,P.info? T=some i∧i.methods.find? (·.name==name)=some m∧m.path.toList=p∧m.func=f:=by
 unfold Kh at h
 cases hi:P.info? T with
 |none=>rw[hi]at h;cases h
 |some i=>
  rw[hi]at h
  simp only[Option.bind_some]at h
  cases hm:i.methods.find? (·.name==name)with
  |none=>rw[hm]at h;cases h
  |some m=>
   rw[hm]at h
   simp only[Option.map_some,aqk,Prod.mk.injEq]at h
   exact⟨i,m,rfl,hm,h.1,h.2⟩
def Wt(P:Program)(T:TypeId)(name:String):Option FuncId:=
 match Kh P T name,P.underlying T with
 |some ([],some (f,true)),some (.pointer _)=>if dN P f then some f else none
 |_,_=>none
theorem bF{P:Program}{H:Hp}{T:TypeId}{v:Value}{name:String}{f:FuncId}(h:Wt P T name=some f):Si P H T v name f v:=by
 unfold Wt at h
 split at h
 ·rename_i f' e h1 hu
  split at h
  ·rename_i hc
   injection h with h
   subst h
   refine⟨hc,fun w hw=>?_⟩
   obtain⟨i,m,g1,g2,g3,g4⟩:=uV h1
   show(method ((P.types.size+99)+1) T v name).run P w=_
   unfold method
   simp[eM g1,g2,g3,g4,follow,receiverAt,run_underlying hu,Place.get]
  ·cases h
 ·cases h
def Pz(P:Program)(T:TypeId)(name:String):Option (Nat×FuncId):=
 match Kh P T name with
 |some ([s],some (f,true))=>
  match s.deref,P.underlying s.struct with
  |true,some (.struct fs)=>
   match fs[s.index]? with
   |some fd=>match P.underlying fd.type with
    |some (.pointer _)=>if(P.info? fd.type).isSome∧P.cellsOf fd.type≠0∧dN P f=true then some (fd.offset,f)else none
    |_=>none
   |none=>none
  |_,_=>none
 |_=>none
theorem EK{P:Program}{fd:Field}(hi:(P.info? fd.type).isSome=true)(h0:P.cellsOf fd.type≠0)(a:Addr)(w:World):(fieldPlace a fd).run P w= .ok (a.add fd.offset) w:=by
 simp[fieldPlace,bL hi,h0]
theorem fW{P:Program}{H:Hp}{T:TypeId}{b o off:Nat}{l:List Value}{rv:Value}{name:String}{f:FuncId}(h:Pz P T name=some (off,f))(hr:H.rd b=some l)(hv:l[o+off]? =some rv):
  Si P H T (.pointer (some ⟨b,o,none⟩)) name f rv:=by
 unfold Pz at h
 split at h
 ·rename_i s f' h1
  split at h
  ·rename_i fs hd hs
   split at h
   ·rename_i fd hf
    split at h
    ·rename_i e hu
     split at h
     ·rename_i hc
      simp only[aqk,Prod.mk.injEq]at h
      obtain⟨rfl,rfl⟩:=h
      refine⟨hc.2.2,fun w hw=>?_⟩
      subst hw
      obtain⟨i,m,g1,g2,g3,g4⟩:=uV h1
      have hus:(P.underlying fd.type).isSome=true:=by rw[hu];rfl
      have hag:fy P fd.type=false:=by unfold fy;rw[hu]
      have ab3:=(iW (P:=P) (w:=w) (t:=fd.type) hc.1 hus hr).2 hag rv hv
      show(method ((P.types.size+99)+1) T _ name).run P w=_
      unfold method
      simp[eM g1,g2,g3,g4,follow,run_underlying hs,hf,hd,Place.get,asAddr,EK hc.1 hc.2.1,receiverAt,run_underlying hu,zc,ab3]
     ·cases h
    ·cases h
   ·cases h
  ·cases h
 ·cases h
theorem ab4{P:Program}{T:TypeId}{a:Addr}{name:String}{x:Nat×FuncId}{cap:Array Value}(h:Pz P T name=some x):QA P (.func (.method name) #[.iface T (.pointer (some a))] cap):=by
 unfold Pz at h
 split at h
 ·rename_i s f' h1
  split at h
  ·rename_i fs hd hs
   split at h
   ·rename_i fd hf
    refine .inr ⟨name,T,_,cap,rfl,fun w=>?_⟩
    obtain⟨i,m,g1,g2,g3,g4⟩:=uV h1
    show(nilAhead ((P.types.size+99)+1) T _ name).run P w=_
    unfold nilAhead
    simp[eM g1,g2,g3,g4,followBlind,run_underlying hs,hf,hd]
   ·cases h
  ·cases h
 ·cases h
theorem gQ.mono{P:Program}{recv:Value}{name:String}{args:List Value}{H:Hp}{K K':Value→Hp→Prop}(h:gQ P recv name args H K)(hk:∀v H',K v H'→K' v H'):gQ P recv name args H K':=by
 obtain⟨T,v,f,rv,h1,h2,h3⟩:=h
 exact⟨T,v,f,rv,h1,h2,h3.mono hk⟩
end Go.Vc
