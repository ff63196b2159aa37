/- Texts put behind each other. -/
import Derived.Test.YtjlnnljohemifaaGreatK98
import Derived.Test.YtjlnnljohemifaaGreatK12
set_option maxRecDepth 100000
set_option maxHeartbeats 8000000
set_option linter.unusedVariables false
set_option linter.unusedSimpArgs false
namespace Go.Vc
abbrev tt(n:Nat):Operand:=.tmp n
abbrev ki(n:Int):Operand:=.const (.int .i64 n)
abbrev kb(b:Bool):Operand:=.const (.bool b)
abbrev s1(d:Nat)(op:da):fT:=⟨false,none,some d,op⟩
abbrev s0(op:da):fT:=⟨false,none,none,op⟩
abbrev sg(g:Nat)(w:Bool)(d:Nat)(op:da):fT:=⟨false,some (g,w),some d,op⟩
abbrev sq(d:Nat)(op:da):fT:=⟨true,none,some d,op⟩
inductive S where
 |skip
 |bb(ops:List fT)(aM:List Nat)
 |nP(t:sn)(aM:List Nat)
 |seq(a b:S)
 |cond(c:Operand)(x y:S)
 |Dy(id:Nat)(b:S)
 |loop(ag9:List Nat)(b:S)
 |exit(id:Nat)
 |ret
 |bad
 deriving Inhabited
def bk(F:Env→Hp→(Env→Hp→Prop)→Prop)(env:Env)(H:Hp)(_t:Tag F:=⟨⟩):Prop:=
 ∃I:Nat→Env→Hp→Prop,(∃m,I m env H)∧∀m env H,I m env H→F env H fun aT H'=>∃m',m'<m∧I m' aT H'
theorem bk.intro{F:Env→Hp→(Env→Hp→Prop)→Prop}{env:Env}{H:Hp}(I:Nat→Env→Hp→Prop)(m:Nat)(h0:I m env H)
  (round:∀m env H,I m env H→F env H fun aT H'=>∃m',m'<m∧I m' aT H'):bk F env H:=⟨I,⟨m,h0⟩,round⟩
def vc(P:Program):S→Env→Hp→(Env→Hp→Prop)→(Nat→Env→Hp→Prop)→(Env→Hp→Prop)→Prop
 | .skip,env,H,Kn,_,_=>Kn env H
 | .bb ops aM,env,H,Kn,_,_=>im P (fun aT H'=>now (Env.aM aT aM) fun e=>Kn e H') ops env H
 | .nP t aM,env,H,Kn,_,_=>jX H fun Inv=>BO P Inv (fun aT H'=>now (Env.aM aT aM) fun e=>Kn e H') t env H
 | .seq a b,env,H,Kn,Kx,Kr=>vc P a env H (fun aT H'=>vc P b aT H' Kn Kx Kr) Kx Kr
 | .cond c x y,env,H,Kn,Kx,Kr=>Fa (Env.ev env c) fun t=>E9 t (vc P x env H Kn Kx Kr) (vc P y env H Kn Kx Kr)
 | .Dy id b,env,H,Kn,Kx,Kr=>vc P b env H Kn (fun i aT H'=>E9 (i==id) (Kn aT H') (Kx i aT H')) Kr
 | .loop L b,env,H,_,Kx,Kr=>bk (fun aT H' again=>vc P b aT H' (fun e h=>again (Env.aM e L) h) Kx Kr) (Env.aM env L) H
 | .exit id,env,H,_,Kx,_=>Kx id env H
 | .ret,env,H,_,_,Kr=>Kr env H
 | .bad,_,_,_,_,_=>False
section
variable (P : Program) (env : Env) (H : Hp) (Kn : Env → Hp → Prop) (Kx : Nat → Env → Hp → Prop) (Kr : Env → Hp → Prop)
@[go_sem ↓] theorem Tt:vc P .skip env H Kn Kx Kr=Kn env H:=(rfl)
@[go_sem ↓] theorem aey(ops:List fT)(aM:List Nat):vc P (.bb ops aM) env H Kn Kx Kr=im P (fun aT H'=>now (Env.aM aT aM) fun e=>Kn e H') ops env H:=(rfl)
@[go_sem ↓] theorem acT(t:sn)(aM:List Nat):vc P (.nP t aM) env H Kn Kx Kr=jX H fun Inv=>BO P Inv (fun aT H'=>now (Env.aM aT aM) fun e=>Kn e H') t env H:=(rfl)
@[go_sem ↓] theorem V5(a b:S):vc P (.seq a b) env H Kn Kx Kr=vc P a env H (fun aT H'=>vc P b aT H' Kn Kx Kr) Kx Kr:=(rfl)
@[go_sem ↓] theorem Tu(c:Operand)(x y:S):vc P (.cond c x y) env H Kn Kx Kr=Fa (Env.ev env c) fun t=>E9 t (vc P x env H Kn Kx Kr) (vc P y env H Kn Kx Kr):=(rfl)
@[go_sem ↓] theorem V6(id:Nat)(b:S):vc P (.Dy id b) env H Kn Kx Kr=vc P b env H Kn (fun i aT H'=>E9 (i==id) (Kn aT H') (Kx i aT H')) Kr:=(rfl)
@[go_sem ↓] theorem acU(L:List Nat)(b:S):vc P (.loop L b) env H Kn Kx Kr=bk (fun aT H' again=>vc P b aT H' (fun e h=>again (Env.aM e L) h) Kx Kr) (Env.aM env L) H:=(rfl)
@[go_sem ↓] theorem acV(id:Nat):vc P (.exit id) env H Kn Kx Kr=Kx id env H:=(rfl)
@[go_sem ↓] theorem aez:vc P .bad env H Kn Kx Kr=False:=(rfl)
@[go_sem ↓] theorem aeA:vc P .ret env H Kn Kx Kr=Kr env H:=(rfl)
end
attribute [go_sem] cond_true cond_false
abbrev EC:=List Nat×List Nat×List Nat
def IZ:Nat→List Nat→Option (Ot×List Nat)
 |0,_=>none
 |_+1,0::r=>some (.done,r)
 |f+1,1::i::r=>match IZ f r with
  |some (t,r)=>some (.step i t,r)
  |none=>none
 |f+1,2::i::r=>match IZ f r with
  |some (t,r)=>match IZ f r with
   |some (u,r)=>some (.aE i t u,r)
   |none=>none
  |none=>none
 |_+1,3::r=>some (.stop,r)
 |_+1,_=>none
def sN(P:Program)(n:Nat):Code→List EC→Option (S×List EC)
 | .skip,an=>some (.skip,an)
 | .region _ ops draw,an=>
  match an with
  | []=>none
  | (aM,q,x::tr)::an=>
   match hX P n ops q 0 ops.toList with
   |none=>none
   |some ss=>
    match IZ (tr.length+2) (x::tr)with
    |some (t,[])=>
     if draw=true∧zV ops (Region.before ops)=true∧SP ops (Region.before ops) (Ky ss) t (Array.replicate ops.size false) []=true∧Region.noSelect ops=true then(attach ss t).map fun ts=>(.nP ts aM,an)else none
    |_=>none
  | (aM,q,[])::an=>
   match hX P n ops q 0 ops.toList with
   |none=>none
   |some ss=>
    if draw=false∨(zV ops (Region.before ops)=true∧zW ops (Region.before ops) (Q2 ss)=true∧Region.noSelect ops=true)then some (.bb ss aM,an)else none
 | .seq a b,an=>
  match sN P n a an with
  |none=>none
  |some (x,an)=>match sN P n b an with
   |none=>none
   |some (y,an)=>some (.seq x y,an)
 | .cond c a b,an=>
  match sN P n a an with
  |none=>none
  |some (x,an)=>match sN P n b an with
   |none=>none
   |some (y,an)=>some (.cond c x y,an)
 | .block id a,an=>match sN P n a an with
  |none=>none
  |some (x,an)=>some (.Dy id x,an)
 | .loop a,an=>
  match an with
  | []=>none
  | (L,_,_)::an=>match sN P n a an with
   |none=>none
   |some (x,an)=>some (.loop L x,an)
 | .exit id,an=>some (.exit id,an)
 | .ret,an=>some (.ret,an)
 | .refuse _,an=>some (.bad,an)
 |_,_=>none
theorem wp_loop_ghost{P:Program}{Q:Exit→Act→World→Prop}{a:Act}{w:World}{c:Code}(I:Nat→Act→World→Prop){m:Nat}(h₀:I m a w)
  (round:∀m a w,I m a w→c.wp P (Exit.then (fun a' w'=>∃m',m'<m∧I m' a' w') Q) a w):(Code.loop c).wp P Q a w:=by
 intro b k cs
 have key:∀n a w,I n a w→∃e a' w',Q e a' w'∧Arrives P (lone (b.at a (.code c:: .inLoop c::k)) cs w) b k cs e a' w':=by
  intro n
  induction n using Nat.strongRecOn with
  |_ n ih=>
   intro a w hI
   obtain⟨e,a₁,w₁,hq,KA⟩:=round n a w hI b (.inLoop c::k) cs
   cases e with
   |normal=>
    obtain⟨m',aO,hI₁⟩:=hq
    obtain⟨e₂,a₂,w₂,hq₂,Z6⟩:=ih m' aO a₁ w₁ hI₁
    exact⟨e₂,a₂,w₂,hq₂,.of_steps (Steps.trans KA (.one step_inLoop)) Z6⟩
   |exit id=>exact⟨_,a₁,w₁,hq,.pass (x:=.inLoop c) rfl (fun _ _=>.inl (by simp)) KA⟩
   |goto l=>exact⟨_,a₁,w₁,hq,.pass (x:=.inLoop c) rfl (fun _ _=>.inl (by simp)) KA⟩
   |ret=>exact⟨_,a₁,w₁,hq,.pass (x:=.inLoop c) rfl (fun _ _=>.inl (by simp)) KA⟩
   |panic ch=>exact⟨_,a₁,w₁,hq,.pass (x:=.inLoop c) rfl (fun _ _=>.inl (by simp)) KA⟩
   |outgrown=>exact⟨_,a₁,w₁,hq,.pass (x:=.inLoop c) rfl (fun _ _=>.inl (by simp)) KA⟩
 obtain⟨e,a',w',hq,KA⟩:=key _ a w h₀
 exact⟨e,a',w',hq,.of_steps (.one step_loop) KA⟩
theorem KD{P:Program}{n:Nat}(hm:P.follows .mixedOrders=true):∀ (c:Code) (an:List EC) (s:S) (Q5:List EC),sN P n c an=some (s,Q5)→
  ∀ (env:Env) (a:Act) (w:World) (Kn:Env→Hp→Prop) (Kx:Nat→Env→Hp→Prop) (Kr:Env→Hp→Prop) (Q:Exit→Act→World→Prop),Holds env a n→vc P s env w.heap Kn Kx Kr→
   (∀aT a' w',bZ w w'→Holds aT a' n→Kn aT w'.heap→Q .normal a' w')→
   (∀i aT a' w',bZ w w'→Holds aT a' n→Kx i aT w'.heap→Q (.exit i) a' w')→
   (∀aT a' w',bZ w w'→Holds aT a' n→Kr aT w'.heap→Q .ret a' w')→c.wp P Q a w:=by
 intro c
 induction c with
 |skip=>
  intro an s Q5 hd env a w Kn Kx Kr Q hh h hn hx hr
  simp only[sN,anE,Prod.mk.injEq]at hd
  obtain⟨rfl,rfl⟩:=hd
  exact wp_skip (hn env a w (bZ.refl w) hh h)
 |region id ops draw=>
  intro an s Q5 hd env a w Kn Kx Kr Q hh h hn hx hr
  unfold sN at hd
  split at hd
  ·cases hd
  ·rename_i aM q x tr an0
   split at hd
   ·cases hd
   ·rename_i ss hss
    split at hd
    ·rename_i t ht
     split at hd
     ·rename_i hc
      obtain⟨rfl,h1,h2,h3⟩:=hc
      cases hts:attach ss t with
      |none=>rw[hts]at hd;cases hd
      |some ts=>
       rw[hts]at hd
       simp only[Option.map_some,anE,Prod.mk.injEq]at hd
       obtain⟨rfl,rfl⟩:=hd
       have hl:∀k,ops.toList[k]? =ops[0+k]? :=fun k=>by simp
       have hQ:∀a' w',bZ w w'→(∃aT,Holds aT a' n∧Kn (Env.aM aT aM) w'.heap)→Q .normal a' w':=fun a' w' hs ⟨aT,nY,hk⟩=>hn _ a' w' hs (nY.aM aM) hk
       have bW:=MD (P:=P) (ops:=ops) (n:=n) ops.toList 0 ss hl hss
       obtain⟨Inv,hI,h⟩:=h
       have h4:=Kz (P:=P) (ops:=ops) (n:=n) (q:=q) (Inv:=Inv) (ss:=ss) (fun k s hk=>by have:=bW k s hk;simpa using this) t ts hts env a w.heap hh h
       exact Fc (K:=fun a' H'=>∃aT,Holds aT a' n∧Kn (Env.aM aT aM) H') hm h1 h2 h3 hI hQ (by simpa[ME]using h4)
     ·cases hd
    ·cases hd
  ·rename_i aM q an0
   split at hd
   ·cases hd
   ·rename_i ss hss
    split at hd
    ·rename_i Z7
     simp only[anE,Prod.mk.injEq]at hd
     obtain⟨rfl,rfl⟩:=hd
     have hl:∀k,ops.toList[k]? =ops[0+k]? :=fun k=>by simp
     have hQ:∀a' w',bZ w w'→(∃aT,Holds aT a' n∧Kn (Env.aM aT aM) w'.heap)→Q .normal a' w':=fun a' w' hs ⟨aT,nY,hk⟩=>hn _ a' w' hs (nY.aM aM) hk
     cases draw with
     |false=>
      have h1:=MB (P:=P) (ops:=ops) (n:=n) ops.toList 0 ss hl hss env a w.heap hh h
      refine Fe (K:=fun a' H'=>∃aT,Holds aT a' n∧Kn (Env.aM aT aM) H') hQ ?_
      rw[List.range_eq_range']
      simpa[ME]using h1
     |true=>
      obtain⟨h1,h2,h3⟩:=Z7.resolve_left (by simp)
      have h4:=MC (P:=P) (ops:=ops) (n:=n) (cls:=Q2 ss) ops.toList 0 ss hl hss (fun k s hk=>by simp[Q2,hk]) env a w.heap hh h
      refine Ff (K:=fun a' H'=>∃aT,Holds aT a' n∧Kn (Env.aM aT aM) H') hm h1 h2 h3 hQ ?_
      rw[List.range_eq_range']
      simpa[ME]using h4
    ·cases hd
 |seq x y Z8 Z9=>
  intro an s Q5 hd env a w Kn Kx Kr Q hh h hn hx hr
  unfold sN at hd
  split at hd
  ·cases hd
  ·rename_i sx V7 V8
   split at hd
   ·cases hd
   ·rename_i sy an2 hdy
    simp only[anE,Prod.mk.injEq]at hd
    obtain⟨rfl,rfl⟩:=hd
    refine wp_seq (Z8 an sx V7 V8 env a w _ Kx Kr _ hh h ?_ ?_ ?_)
    ·intro aT a' w' hs nY hk
     exact Z9 V7 sy _ hdy aT a' w' Kn Kx Kr Q nY hk (fun e b v Dz=>hn e b v (hs.trans Dz)) (fun i e b v Dz=>hx i e b v (hs.trans Dz)) (fun e b v Dz=>hr e b v (hs.trans Dz))
    ·intro i aT a' w' hs nY hk;exact hx i aT a' w' hs nY hk
    ·intro aT a' w' hs nY hk;exact hr aT a' w' hs nY hk
 |cond c x y Z8 Z9=>
  intro an s Q5 hd env a w Kn Kx Kr Q hh h hn hx hr
  unfold sN at hd
  split at hd
  ·cases hd
  ·rename_i sx V7 V8
   split at hd
   ·cases hd
   ·rename_i sy an2 hdy
    simp only[anE,Prod.mk.injEq]at hd
    obtain⟨rfl,rfl⟩:=hd
    rw[Tu]at h
    unfold Fa at h
    split at h
    ·rename_i v hv
     obtain⟨b,hb,h2⟩:=yb h
     subst hb
     have hc:=hh.tN _ _ hv
     refine wp_cond_split hc (fun hb=>?_) (fun hb=>?_)
     ·subst hb;exact Z8 an sx V7 V8 env a w Kn Kx Kr Q hh h2 hn hx hr
     ·subst hb;exact Z9 V7 sy _ hdy env a w Kn Kx Kr Q hh h2 hn hx hr
    ·exact h.elim
 |block id x ih=>
  intro an s Q5 hd env a w Kn Kx Kr Q hh h hn hx hr
  unfold sN at hd
  split at hd
  ·cases hd
  ·rename_i sx V7 V8
   simp only[anE,Prod.mk.injEq]at hd
   obtain⟨rfl,rfl⟩:=hd
   refine wp_block (ih an sx _ V8 env a w Kn _ Kr _ hh h (fun e b v hs nY hk=>hn e b v hs nY hk) ?_ (fun e b v hs nY hk=>hr e b v hs nY hk))
   intro i aT a' w' hs nY hk
   show if i=id then Q .normal a' w' else Q (.exit i) a' w'
   by_cases e:i=id
   ·subst e
    simp only[beq_self_eq_true,E9]at hk
    rw[if_pos rfl]
    exact hn aT a' w' hs nY hk
   ·have:(i==id)=false:=by simpa using e
    simp only[this,E9]at hk
    rw[if_neg e]
    exact hx i aT a' w' hs nY hk
 |loop x ih=>
  intro an s Q5 hd env a w Kn Kx Kr Q hh h hn hx hr
  unfold sN at hd
  split at hd
  ·cases hd
  ·rename_i L q tr an0
   split at hd
   ·cases hd
   ·rename_i sx V7 V8
    simp only[anE,Prod.mk.injEq]at hd
    obtain⟨rfl,rfl⟩:=hd
    obtain⟨I,⟨m,h0⟩,round⟩:=h
    refine wp_loop_ghost (fun m a' w'=>bZ w w'∧∃aT,Holds aT a' n∧I m aT w'.heap) ⟨bZ.refl w,_,hh.aM L,h0⟩ ?_
    rintro m a' w' ⟨hs,aT,nY,hI⟩
    refine ih an0 sx _ V8 aT a' w' _ Kx Kr _ nY (round m aT w'.heap hI) ?_ ?_ ?_
    ·rintro e b v Dz hb ⟨m',aO,Tv⟩
     exact⟨m',aO,hs.trans Dz,_,hb.aM L,Tv⟩
    ·intro i e b v Dz hb hk;exact hx i e b v (hs.trans Dz) hb hk
    ·intro e b v Dz hb hk;exact hr e b v (hs.trans Dz) hb hk
 |exit id=>
  intro an s Q5 hd env a w Kn Kx Kr Q hh h hn hx hr
  simp only[sN,anE,Prod.mk.injEq]at hd
  obtain⟨rfl,rfl⟩:=hd
  exact wp_exit (hx id env a w (bZ.refl w) hh h)
 |ret=>
  intro an s Q5 hd env a w Kn Kx Kr Q hh h hn hx hr
  simp only[sN,anE,Prod.mk.injEq]at hd
  obtain⟨rfl,rfl⟩:=hd
  exact wp_ret (hr env a w (bZ.refl w) hh h)
 |refuse r=>
  intro an s Q5 hd env a w Kn Kx Kr Q hh h hn hx hr
  simp only[sN,anE,Prod.mk.injEq]at hd
  obtain⟨rfl,rfl⟩:=hd
  exact h.elim
 |_=>intro an s Q5 hd;simp[sN]at hd
inductive V9 where
 |tmp(t:Nat)
 |one(t:Nat)
 |agg(t n:Nat)
 deriving Inhabited
structure Fn where
 np:Nat
 Yz:List V9
 body:S
 deriving Inhabited
def qN(env:Env)(H:Hp):List V9→(List Value→Prop)→Prop
 | [],F=>F []
 | .tmp t::r,F=>aC (Env.find env t) fun v=>qN env H r fun vs=>F (v::vs)
 | .one t::r,F=>aC (Env.find env t) fun p=>vD p fun b o=>aC (H.rd b) fun l=>aC l[o]? fun v=>qN env H r fun vs=>F (v::vs)
 | .agg t n::r,F=>aC (Env.find env t) fun p=>vD p fun b o=>aC (H.rd b) fun l=>dm (o+n≤l.length) (qN env H r fun vs=>F (.agg ((l.drop o).take n).toArray::vs))
@[go_sem ↓] theorem aaa(env:Env)(H:Hp)(F:List Value→Prop):qN env H [] F=F []:=(rfl)
@[go_sem ↓] theorem aab(env:Env)(H:Hp)(t:Nat)(r:List V9)(F:List Value→Prop):qN env H (.tmp t::r) F=aC (Env.find env t) fun v=>qN env H r fun vs=>F (v::vs):=(rfl)
@[go_sem ↓] theorem aac(env:Env)(H:Hp)(t:Nat)(r:List V9)(F:List Value→Prop):
  qN env H (.one t::r) F=aC (Env.find env t) fun p=>vD p fun b o=>aC (H.rd b) fun l=>aC l[o]? fun v=>qN env H r fun vs=>F (v::vs):=(rfl)
@[go_sem ↓] theorem aad(env:Env)(H:Hp)(t n:Nat)(r:List V9)(F:List Value→Prop):
  qN env H (.agg t n::r) F=aC (Env.find env t) fun p=>vD p fun b o=>aC (H.rd b) fun l=>dm (o+n≤l.length) (qN env H r fun vs=>F (.agg ((l.drop o).take n).toArray::vs)):=(rfl)
def KE:List Value→Value
 | [v]=>v
 |vs=>.tuple vs.toArray
@[go_sem] theorem acY(v:Value):KE [v]=v:=(rfl)
@[go_sem] theorem acZ:KE []= .tuple [].toArray:=(rfl)
@[go_sem] theorem ac0(v u:Value)(r:List Value):KE (v::u::r)= .tuple (v::u::r).toArray:=(rfl)
def iN:Nat→List Value→Env
 |_,[]=>[]
 |i,v::r=>(i,v)::iN (i+1) r
@[go_sem] theorem UU(i:Nat):iN i []=[]:=(rfl)
@[go_sem] theorem Tw(i:Nat)(v:Value)(r:List Value):iN i (v::r)=(i,v)::iN (i+1) r:=(rfl)
def Fn.vc(P:Program)(F:Fn)(args:List Value)(H:Hp)(K:Value→Hp→Prop):Prop:=
 args.length=F.np∧Go.Vc.vc P F.body (iN 0 args) H (fun env H=>qN env H F.Yz fun vs=>K (KE vs) H) (fun _ _ _=>False) (fun env H=>qN env H F.Yz fun vs=>K (KE vs) H)
def mS(P:Program):List ResultVar→Option (List V9)
 | []=>some []
 | .tmp t::r=>(mS P r).map (.tmp t:: ·)
 | .cell t T::r=>if(P.info? T).isSome∧(P.underlying T).isSome then(mS P r).map ((if eG P T then .agg t (P.cellsOf T)else .one t):: ·)else none
def dY(P:Program)(f:FuncId)(an:List EC):Option Fn:=
 match P.funcs[f]? with
 |none=>none
 |some fn=>
  match fn.body with
  |none=>none
  |some c=>
   match sN P fn.ntmps c an with
   |some (s,[])=>if fn.params.size≤fn.ntmps then(mS P fn.results.toList).map fun rs=>⟨fn.params.size,rs,s⟩else none
   |_=>none
def BP(tmps:Array Value):ResultVar→Sem Value
 | .tmp t=>pure (tmps.getD t undef)
 | .cell p t=>do loadVar t (←asAddr (tmps.getD p undef))
theorem zX{P:Program}{w:World}{env:Env}{a:Act}{n:Nat}(hh:Holds env a n):∀ (rs:List ResultVar) (l:List V9) (F:List Value→Prop),mS P rs=some l→qN env w.heap l F→
  ∃vs,F vs∧(rs.mapM (BP a.tmps)).run P w= .ok vs w:=by
 intro rs
 induction rs with
 |nil=>intro l F hl h;simp only[mS,anE]at hl;subst hl;exact⟨[],h,rfl⟩
 |cons r rs ih=>
  intro l F hl h
  cases r with
  |tmp t=>
   unfold mS at hl
   cases hr:mS P rs with
   |none=>rw[hr]at hl;cases hl
   |some l'=>
    rw[hr]at hl
    simp only[Option.map_some,anE]at hl
    subst hl
    obtain⟨v,hv,h⟩:=az h
    obtain⟨vs,hF,Du⟩:=ih l' _ hr h
    have e:a.tmps.getD t undef=v:=by simp[hh.zS t v hv]
    exact⟨v::vs,hF,by rw[List.mapM_cons];simp only[BP,Sem.run_bind,Sem.run_pure,Result.andThen_ok,e,Du]⟩
  |cell t T=>
   unfold mS at hl
   split at hl
   ·rename_i hc
    cases hr:mS P rs with
    |none=>rw[hr]at hl;cases hl
    |some l'=>
     rw[hr]at hl
     simp only[Option.map_some,anE]at hl
     subst hl
     cases hb:eG P T
     ·rw[hb]at h
      obtain⟨p,hp,h⟩:=az h
      obtain⟨b,o,rfl,h⟩:=eX h
      obtain⟨lb,Dc,h⟩:=az h
      obtain⟨v,hv,h⟩:=az h
      obtain⟨vs,hF,Du⟩:=ih l' _ hr h
      have e:a.tmps.getD t undef= .pointer (some ⟨b,o,none⟩):=by simp[hh.zS t _ hp]
      exact⟨v::vs,hF,by rw[List.mapM_cons];simp only[BP,Sem.run_bind,Sem.run_pure,Result.andThen_ok,e,asAddr,(iK hc.1 hc.2 Dc).2 hb v hv,Du]⟩
     ·rw[hb]at h
      obtain⟨p,hp,h⟩:=az h
      obtain⟨b,o,rfl,h⟩:=eX h
      obtain⟨lb,Dc,h⟩:=az h
      obtain⟨hn,h⟩:=h.out
      obtain⟨vs,hF,Du⟩:=ih l' _ hr h
      have e:a.tmps.getD t undef= .pointer (some ⟨b,o,none⟩):=by simp[hh.zS t _ hp]
      exact⟨_,hF,by rw[List.mapM_cons];simp only[BP,Sem.run_bind,Sem.run_pure,Result.andThen_ok,e,asAddr,(iK hc.1 hc.2 Dc).1 hb hn,Du]⟩
   ·cases hl
theorem Ii:∀ (args:List Value) (i k:Nat) (v:Value),Env.find (iN i args) k=some v→i≤k∧args[k - i]? =some v:=by
 intro args
 induction args with
 |nil=>intro i k v h;cases h
 |cons x r ih=>
  intro i k v h
  simp only[iN,Env.find]at h
  by_cases e:i=k
  ·subst e
   simp at h
   subst h
   exact⟨anG _,by simp⟩
  ·have:(i==k)=false:=by simpa using e
   rw[this]at h
   obtain⟨h1,h2⟩:=ih (i+1) k v h
   refine⟨by omega,?_⟩
   rw[show k - i=(k - (i+1))+1 by omega,aov]
   exact h2
theorem KF{P:Program}(hm:P.follows .mixedOrders=true){f:FuncId}{an:List EC}{F:Fn}(hd:dY P f an=some F){args:List Value}{H:Hp}{K:Value→Hp→Prop}
  (h:F.vc P args H K):af P f args H K:=by
 unfold dY at hd
 split at hd
 ·cases hd
 ·rename_i fn hf
  split at hd
  ·cases hd
  ·rename_i c hb
   split at hd
   ·rename_i s hs
    split at hd
    ·rename_i oY
     cases hr:mS P fn.results.toList with
     |none=>rw[hr]at hd;cases hd
     |some rs=>
      rw[hr]at hd
      simp only[Option.map_some,anE]at hd
      subst hd
      obtain⟨aX,h⟩:=h
      simp only at aX h
      intro w hw
      subst hw
      refine calls_of_wp hf hb ?_
      have hh:Holds (iN 0 args) {tmps:=args.toArray++Array.replicate (fn.ntmps - args.toArray.size) undef,defers:=[]} fn.ntmps:=by
       refine⟨by simp;omega,rfl,fun k v hk=>?_⟩
       obtain⟨_,h2⟩:=Ii args 0 k v hk
       have aO:k<args.length:=by
        rcases aoL k args.length with h'|h'
        ·exact h'
        ·simp[anK h']at h2
       rw[aoY (by simpa using aO)]
       simpa using h2
      have Fg:∀aT a' w',bZ w w'→Holds aT a' fn.ntmps→qN aT w'.heap rs (fun vs=>K (KE vs) w'.heap)→
        a'.defers=[]∧∃v,(results fn a'.tmps).run P w'= .ok v w'∧(∃v_1,Ending.returned v=Ending.returned v_1∧bZ w w'∧K v_1 w'.heap):=by
       intro aT a' w' Ms nY hk
       obtain⟨vs,hF,Du⟩:=zX (P:=P) nY fn.results.toList rs _ hr hk
       refine⟨nY.defers,KE vs,?_,_,rfl,Ms,hF⟩
       change (do let vs ←fn.results.mapM (BP a'.tmps);pure (if h:vs.size=1 then vs[0]else .tuple vs):Sem Value).run P w'=_
       rw[Array.mapM_eq_mapM_toList]
       simp only[Sem.run_bind,Sem.run_map,Du,Result.andThen_ok,Sem.run_pure]
       congr 1
       cases vs with
       |nil=>rfl
       |cons x r=>cases r with
        |nil=>rfl
        |cons y r=>simp[KE]
      refine KD hm c an s [] hs _ _ w _ _ _ _ hh h ?_ ?_ ?_
      ·exact fun aT a' w' Ms nY hk=>Fg aT a' w' Ms nY hk
      ·exact fun _ _ _ _ _ _ hk=>hk.elim
      ·exact fun aT a' w' Ms nY hk=>Fg aT a' w' Ms nY hk
    ·cases hd
   ·cases hd
end Go.Vc

namespace Go.Vc
theorem wrap64{n:Int}(h0: -9223372036854775808≤n)(h1:n≤9223372036854775807):IntKind.i64.wrap n=n:=by
 have e:(2^IntKind.i64.bits:Int)=18446744073709551616:=rfl
 have e':(2^ (IntKind.i64.bits - 1):Int)=9223372036854775808:=rfl
 unfold IntKind.wrap
 simp only[e,e',IntKind.signed,aoO,anU]
 split<;>omega
theorem Tx{n:Int}(h0:0≤n)(h1:n≤18446744073709551615):IntKind.u64.wrap n=n:=by
 have e:(2^IntKind.u64.bits:Int)=18446744073709551616:=rfl
 unfold IntKind.wrap
 simp only[e,IntKind.signed,apr]
 rw[if_neg (by simp)];omega
theorem Ty{n:Int}(h0:0≤n)(h1:n≤4294967295):IntKind.u32.wrap n=n:=by
 have e:(2^IntKind.u32.bits:Int)=4294967296:=rfl
 unfold IntKind.wrap
 simp only[e,IntKind.signed,apr]
 rw[if_neg (by simp)];omega
def Sl(H:Hp)(size:Nat)(v:Value)(n:Nat)(xs:List Value)(fp:Option Nat):Prop:=
 xs.length=n*size∧
 match fp with
 |none=>n=0∧v= .slice none 0 0
 |some b=>∃l c,v= .slice (some ⟨b,0,none⟩) n c∧H.own b=some l∧n≤c∧c*size≤l.length∧l.take (n*size)=xs
theorem Sl.nil(H:Hp)(size:Nat):Sl H size (.slice none 0 0) 0 [] none:=⟨by simp,rfl,rfl⟩
theorem Sl.ext{H H':Hp}{size n:Nat}{v:Value}{xs:List Value}{fp:Option Nat}{S:Nat→Prop}(h:Sl H size v n xs fp)(e:ag S H H')(hs:∀b,fp=some b→¬S b):Sl H' size v n xs fp:=by
 obtain⟨hl,h⟩:=h
 refine⟨hl,?_⟩
 cases fp with
 |none=>exact h
 |some b=>
  obtain⟨l,c,h1,h2,h3⟩:=h
  exact⟨l,c,h1,e.own h2 (hs b rfl),h3⟩
theorem Sl.lt{H:Hp}{size n:Nat}{v:Value}{xs:List Value}{b:Nat}(h:Sl H size v n xs (some b)):b<H.size:=by
 obtain⟨_,l,c,_,h2,_⟩:=h
 exact aA h2
theorem Sl.lit(H:Hp)(T:TypeId)(size n:Nat)(xs:List Value)(hx:xs.length=n*size):Sl (H.new T xs) size (.slice (some ⟨H.size,0,none⟩) n n) n xs (some H.size):=
 ⟨hx,xs,n,rfl,aB H T xs,anG _,by omega,by rw[←hx];simp⟩
theorem Sl.cf{H:Hp}{T:TypeId}{size n b:Nat}{xs:List Value}(hx:xs.length=n*size)(hb:b=H.size):Sl (H.new T xs) size (.slice (some ⟨b,0,none⟩) n n) n xs (some b):=
 hb▸Sl.lit H T size n xs hx
def dc(H:Hp)(size:Nat)(v:Value)(n:Nat)(xs:List Value):Prop:=
 xs.length=n*size∧((n=0∧∃a c,v= .slice a 0 c)∨∃b o c l,v= .slice (some ⟨b,o,none⟩) n c∧H.rd b=some l∧o+n*size≤l.length∧(l.drop o).take (n*size)=xs)
theorem Sl.rd{H:Hp}{size n:Nat}{v:Value}{xs:List Value}{fp:Option Nat}(h:Sl H size v n xs fp):dc H size v n xs:=by
 obtain⟨hl,h⟩:=h
 refine⟨hl,?_⟩
 cases fp with
 |none=>exact .inl ⟨h.1,none,0,h.2⟩
 |some b=>
  obtain⟨l,c,h1,h2,h3,h4,h5⟩:=h
  refine .inr ⟨b,0,c,l,h1,ae h2,?_,by simpa using h5⟩
  have:=aoT size h3
  omega
theorem dc.rowOf{H:Hp}{size n:Nat}{v:Value}{xs:List Value}{F:Nat→List Value→Prop}(h:dc H size v n xs)(hf:F n xs):rowOf H size v F:=by
 obtain⟨hl,⟨rfl,a,c,rfl⟩| ⟨b,o,c,l,rfl,h2,h3,h4⟩⟩:=h
 ·have:xs=[]:=an5.1 (by omega)
  subst this
  exact hf
 ·by_cases hn:n=0
  ·subst hn
   have:xs=[]:=an5.1 (by omega)
   subst this
   exact hf
  ·have e0:(n==0)=false:=by simpa using hn
   show E9 (n==0) _ _
   rw[e0]
   show aC (H.rd b) _
   rw[h2]
   exact⟨h3,by rw[h4];exact hf⟩
theorem dc.ext{H H':Hp}{size n:Nat}{v:Value}{xs:List Value}{S:Nat→Prop}(h:dc H size v n xs)(e:ag S H H')(hs:∀b,b<H.size→¬S b):dc H' size v n xs:=by
 obtain⟨hl,h| ⟨b,o,c,l,rfl,h2,h3⟩⟩:=h
 ·exact⟨hl,.inl h⟩
 ·exact⟨hl,.inr ⟨b,o,c,l,rfl,e.rd h2 (hs b (NY h2)),h3⟩⟩
theorem dc.fresh{H H':Hp}{size n:Nat}{v:Value}{xs:List Value}(h:dc H size v n xs)(e:ai H H'):dc H' size v n xs:=h.ext e fun _ _ h=>h
theorem KG{l xs new:List Value}{p:Nat}(hx:l.take p=xs)(hp:xs.length=p)(hn:p+new.length≤l.length):(bh l p new).take (p+new.length)=xs++new:=by
 apply aoo
 intro i
 by_cases hi:i<p+new.length
 ·rw[an3 hi,getElem?_splice new l p i hn]
  by_cases h1:p≤i
  ·rw[if_pos ⟨h1,hi⟩,anX (by omega),hp]
  ·rw[if_neg (fun h=>h1 h.1),anJ (by omega),←hx,an3 (by omega)]
 ·rw[anK (by simp;omega),anK (by simp;omega)]
theorem Sl.append{H:Hp}{T size bytes n m:Nat}{z:List Value}{s x:Value}{xs ys:List Value}{fp:Option Nat}{K:Value→Hp→Prop}(h:Sl H size s n xs fp)(hx:dc H size x m ys)
  (hz:z.length=size)(h1:gz ys)(hb:(n+m)*bytes≤2^47)
  (hk:∀v' H' cO,Sl H' size v' (n+m) (xs++ys) cO→ag (fun b=>fp=some b) H H'→(cO=fp∨∃b,cO=some b∧H.size≤b∧b<H'.size)→K v' H'):
  fW T size bytes z s x H K:=by
 obtain⟨hl,h⟩:=h
 have key:∀base c,s= .slice base n c→(∀b,base=some b→fp≠none)→fW T size bytes z s x H K:=by
  intro base c hs aha
  subst hs
  refine dc.rowOf hx (F:=fun m new=>(n+m≤c→m=0→K (.slice base n c) H)∧
   (n+m≤c→m≠0→tM base fun b o=>aC (I0 (H.own b) (H.BD b)) fun l=>dm (o+(n+m)*size≤l.length∧gz new) (K (.slice base (n+m) c) (H.wr b (bh l (o+n*size) new))))∧
   (c<n+m→Builtin.nextslicecap (n+m) c*bytes≤2^48∧
    rowOf H size (.slice base n c) fun _ QZ=>∀c',n+m≤c'→K (.slice (some ⟨H.size,0,none⟩) (n+m) c') (H.new T (QZ++new++cA z (c' - (n+m)))))) ?_
  refine⟨fun oY hm=>?_,fun oY hm=>?_,fun aO=>⟨?_,?_⟩⟩
  ·subst hm
   have hy:ys=[]:=an5.1 (by have:=hx.1;omega)
   subst hy
   exact hk _ _ fp (by rw[aon];exact⟨by simpa using hl,h⟩) (ag.refl _ _) (.inl rfl)
  ·cases fp with
   |none=>
    obtain⟨rfl,hv⟩:=h
    injection hv with e1 e2 e3
    omega
   |some b=>
    obtain⟨l,c',hv,h2,h3,h4,h5⟩:=h
    injection hv with e1 e2 e3
    subst e1;subst e3
    show aC (I0 (H.own b) (H.BD b)) _
    rw[h2]
    have h6:=aoT size oY
    refine⟨⟨by omega,h1⟩,?_⟩
    rw[ant]
    refine hk _ _ (some b) ⟨by simp[hl,hx.1,aoM],_,c,rfl,ah h2,oY,by rw[ke];exact h4,?_⟩ ((ag.refl (fun x=>some b=some x) H).wr (fun _=>rfl) _) (.inl rfl)
    have:=KG (new:=ys) h5 hl (by rw[hx.1];rw[aoM]at h6;omega)
    rw[hx.1]at this
    rw[aoM];exact this
  ·have h2:Builtin.nextslicecap (n+m) c≤2*(n+m):=nextslicecap_le aO
   have h3:=aoT bytes h2
   rw[Nat.mul_assoc]at h3
   omega
  ·refine dc.rowOf (n:=n) (xs:=xs) (Sl.rd (fp:=fp) ⟨hl,h⟩) ?_
   intro c' Kl
   refine hk _ _ (some H.size) ⟨by simp[hl,hx.1,aoM],_,c',rfl,aB _ _ _,Kl,?_,?_⟩ ((ag.refl _ _).new _ _) (.inr ⟨_,rfl,anG _,by rw[aq];omega⟩)
   ·simp only[anD,hl,hx.1,C7,hz]
    rw[←aoM,←aoM]
    exact Nat.le_of_eq (by congr 1;omega)
   ·rw[show(n+m)*size=(xs++ys).length by simp[hl,hx.1,aoM]]
    exact List.take_left
 cases fp with
 |none=>exact key none 0 (by obtain⟨rfl,hv⟩:=h;exact hv) (fun b hb=>by cases hb)
 |some b=>
  obtain⟨l,c,hv,_⟩:=h
  exact key (some ⟨b,0,none⟩) c hv (fun _ _=>by simp)
theorem vj(l:List Value)(i n:Nat)(x:Value):(l.set i x).take n=(l.take n).set i x:=by
 apply aoo
 intro k
 by_cases hk:k<n
 ·rw[an3 hk]
  by_cases h:i=k
  ·subst h
   by_cases hl:i<l.length
   ·rw[anB hl,anB (by simp;omega)]
   ·rw[anK (by simp;omega),anK (by simp;omega)]
  ·rw[anA h,anA h,an3 hk]
 ·rw[anK (by simp;omega),anK (by simp;omega)]
theorem Sl.tQ{H:Hp}{n c s:Nat}{xs l:List Value}(h:Sl H 1 (.slice (some ⟨s,0,none⟩) n c) n xs (some s))(hl:H.own s=some l)(i:Nat)(x:Value):
  Sl (H.wr s (l.set i x)) 1 (.slice (some ⟨s,0,none⟩) n c) n (xs.set i x) (some s):=by
 obtain⟨h1,l',c',hv,h2,h3,h4,h5⟩:=h
 rw[hl]at h2
 injection h2 with h2
 subst h2
 injection hv with _ _ hc
 subst hc
 exact⟨by simpa using h1,_,c,rfl,ah hl,h3,by simpa using h4,by rw[vj,h5]⟩
theorem Sl.get{H:Hp}{n c s size:Nat}{xs l:List Value}(h:Sl H size (.slice (some ⟨s,0,none⟩) n c) n xs (some s))(hl:H.own s=some l){i:Nat}{x:Value}(hx:xs[i]? =some x):l[i]? =some x:=by
 obtain⟨h1,l',c',hv,h2,h3,h4,h5⟩:=h
 rw[hl]at h2
 injection h2 with h2
 subst h2
 rw[←h5,an9]at hx
 split at hx
 ·exact hx
 ·cases hx
def qO(es:List MapEntry)(i:Int):Option Value:=(es.find? fun e=>match e.key with| .int .i64 j=>i==j|_=>false).map (·.val)
def zY(es:List MapEntry):Prop:=∃ks:List Int,es.map (·.key)=ks.map (Value.int .i64)∧ks.Nodup
def ly(H:Hp)(b:Nat)(f:Int→Option Value):Prop:=∃es k,H.mp b=some (es,k)∧zY es∧∀i,qO es i=f i
theorem ly.new(H:Hp):ly H.iI H.size (fun _=>none):=⟨[],0,NZ H,⟨[],rfl,aoG⟩,fun _=>rfl⟩
theorem ly.ext{H H':Hp}{b:Nat}{f:Int→Option Value}{S:Nat→Prop}(h:ly H b f)(e:ag S H H')(hs:¬S b):ly H' b f:=by
 obtain⟨es,k,h1,h2⟩:=h
 exact⟨es,k,e.mp h1 hs,h2⟩
theorem ly.lt{H:Hp}{b:Nat}{f:Int→Option Value}(h:ly H b f):b<H.size:=by
 obtain⟨es,k,h1,h2⟩:=h
 exact N0 h1
theorem fX(e:MapEntry)(es:List MapEntry)(j i:Int)(he:e.key= .int .i64 j):qO (e::es) i=if i=j then some e.val else qO es i:=by
 unfold qO
 rw[List.find?_cons]
 simp only[he]
 by_cases h:i=j
 ·simp[h]
 ·have:(i==j)=false:=by simpa using h
  rw[this,if_neg h]
theorem yd{e:MapEntry}{es:List MapEntry}(h:zY (e::es)):∃j,e.key= .int .i64 j∧zY es∧∀x∈es,x.key≠ .int .i64 j:=by
 obtain⟨ks,h1,h2⟩:=h
 cases ks with
 |nil=>simp at h1
 |cons j ks=>
  simp only[aom,List.cons.injEq]at h1
  rw[anN]at h2
  refine⟨j,h1.1,⟨ks,h1.2,h2.2⟩,fun x hx hk=>h2.1 ?_⟩
  have hm:x.key∈es.map (·.key):=anS.2 ⟨x,hx,rfl⟩
  rw[h1.2,hk]at hm
  obtain⟨y,hy,e⟩:=anS.1 hm
  injection e with _ e
  exact e▸hy
theorem BQ(i:Int):∀ (es:List MapEntry),zY es→∀n:Nat,
  (qO es i=none∧fC .int (.int .i64 i) es n=some none)∨
  ∃j e,es[j]? =some e∧e.key= .int .i64 i∧qO es i=some e.val∧fC .int (.int .i64 i) es n=some (some (n+j,e.val)):=by
 intro es
 induction es with
 |nil=>intro _ n;exact .inl ⟨rfl,rfl⟩
 |cons e es ih=>
  intro h n
  obtain⟨j,hj,Tz,aP⟩:=yd h
  have hq:qA .int (.int .i64 i) e.key=some (decide (i=j)):=by rw[hj];simp[qA,bB]
  by_cases JT:i=j
  ·subst JT
   refine .inr ⟨0,e,rfl,hj,by rw[fX e es i i hj,if_pos rfl],?_⟩
   unfold fC
   rw[hq];simp
  ·have h2:fC .int (.int .i64 i) (e::es) n=fC .int (.int .i64 i) es (n+1):=by
    rw[fC,hq,anV JT]
   have h3:qO (e::es) i=qO es i:=by rw[fX e es j i hj,if_neg JT]
   rw[h2,h3]
   rcases ih Tz (n+1)with ⟨h4,h5⟩| ⟨k,e',h4,h5,h6,h7⟩
   ·exact .inl ⟨h4,h5⟩
   ·exact .inr ⟨k+1,e',by simpa using h4,h5,h6,by rw[h7];congr 3;omega⟩
theorem ly.look{H:Hp}{b:Nat}{f:Int→Option Value}(h:ly H b f)(i:Int)(F:Option Value→Prop):xt H .int (some b) (.int .i64 i) F=F (f i):=by
 obtain⟨es,k,h1,h2,h3⟩:=h
 unfold xt
 simp only[h1,mT]
 rcases BQ i es h2 0 with ⟨h4,h5⟩| ⟨j,e,h4,h5,h6,h7⟩
 ·rw[h5,←h3 i,h4];rfl
 ·rw[h7,←h3 i,h6];rfl
def I1(f:Int→Option Value)(i:Int)(v:Value):Int→Option Value:=fun j=>if j=i then some v else f j
def MF(f:Int→Option Value)(i:Int):Int→Option Value:=fun j=>if j=i then none else f j
theorem KH(es:List MapEntry)(e:MapEntry)(i j:Int)(hj:e.key= .int .i64 j)(hn:qO es j=none):qO (es++[e]) i=if i=j then some e.val else qO es i:=by
 unfold qO at*
 rw[List.find?_append]
 by_cases h:i=j
 ·subst h
  have hx:(es.find? fun e=>match e.key with| .int .i64 j=>i==j|_=>false)=none:=by simpa using hn
  rw[hx]
  simp[hj]
 ·rw[if_neg h]
  have:([e].find? fun e=>match e.key with| .int .i64 j=>i==j|_=>false)=none:=by simp[hj,h]
  rw[this]
  simp
theorem Pb{es:List MapEntry}{i:Int}(h:qO es i=none):∀e∈es,e.key≠ .int .i64 i:=by
 intro e he hk
 unfold qO at h
 simp only[Option.map_eq_none_iff,List.find?_eq_none]at h
 have:=h e he
 simp[hk]at this
theorem I2{es:List MapEntry}(h:zY es)(j:Nat)(e:MapEntry)(hj:es[j]? =some e)(v:Value)(i:Int)(hk:e.key= .int .i64 i):
  zY (es.modify j fun x=>{x with key:=.int .i64 i,val:=v}):=by
 obtain⟨ks,h1,h2⟩:=h
 refine⟨ks,?_,h2⟩
 rw[←h1]
 apply aoo
 intro n
 rw[anR,anR,List.getElem?_modify]
 by_cases hn:j=n
 ·subst hn;simp[hj,hk]
 ·simp[hn]
theorem KI:∀ (es:List MapEntry),zY es→∀ (j:Nat) (e:MapEntry) (v:Value) (i:Int),es[j]? =some e→e.key= .int .i64 i→∀n,
  qO (es.modify j fun x=>{x with key:=.int .i64 i,val:=v}) n=if n=i then some v else qO es n:=by
 intro es
 induction es with
 |nil=>intro _ j e v i hj;simp at hj
 |cons x es ih=>
  intro h j e v i hj hk n
  obtain⟨q,hq,Tz,aP⟩:=yd h
  cases j with
  |zero=>
   simp only[anY,anE]at hj
   subst hj
   have:q=i:=by rw[hq]at hk;injection hk
   subst this
   rw[List.modify_zero_cons,fX _ es q n rfl,fX x es q n hq]
   split<;>rfl
  |succ j=>
   rw[List.modify_succ_cons,fX x _ q n hq,fX x es q n hq,ih Tz j e v i (by simpa using hj) hk n]
   by_cases h1:n=q
   ·subst h1
    have hm:e∈es:=anz (by simpa using hj)
    have:n≠i:=fun e'=>aP e hm (by rw[hk,e'])
    simp[this]
   ·simp[h1]
theorem MG:∀ (es:List MapEntry),zY es→∀ (j:Nat) (e:MapEntry) (i:Int),es[j]? =some e→e.key= .int .i64 i→zY (es.eraseIdx j)∧∀n,qO (es.eraseIdx j) n=if n=i then none else qO es n:=by
 intro es
 induction es with
 |nil=>intro _ j e i hj;simp at hj
 |cons x es ih=>
  intro h j e i hj hk
  have h':=h
  obtain⟨q,hq,Tz,aP⟩:=yd h
  cases j with
  |zero=>
   simp only[anY,anE]at hj
   subst hj
   have:q=i:=by rw[hq]at hk;injection hk
   subst this
   refine⟨Tz,fun n=>?_⟩
   rw[List.eraseIdx_zero,List.tail_cons,fX x es q n hq]
   by_cases hn:n=q
   ·subst hn
    rw[if_pos rfl]
    unfold qO
    simp only[Option.map_eq_none_iff,List.find?_eq_none]
    intro e' ir
    obtain⟨ks,h1,_⟩:=Tz
    have hm:e'.key∈es.map (·.key):=anS.2 ⟨e',ir,rfl⟩
    rw[h1]at hm
    obtain⟨y,_,ey⟩:=anS.1 hm
    have:=aP e' ir
    rw[←ey]at this ⊢
    simp only[beq_iff_eq]
    intro e2
    exact this (by rw[e2])
   ·simp[hn]
  |succ j=>
   obtain⟨h1,h2⟩:=ih Tz j e i (by simpa using hj) hk
   have hm:e∈es:=anz (by simpa using hj)
   have hqi:q≠i:=fun e'=>aP e hm (by rw[hk,e'])
   refine⟨?_,fun n=>?_⟩
   ·obtain⟨ks,e1,e2⟩:=h1
    refine⟨q::ks,by rw[List.eraseIdx_cons_succ,aom,aom,hq,e1],?_⟩
    rw[anN]
    refine⟨fun bL=>?_,e2⟩
    have:Value.int .i64 q∈(es.eraseIdx j).map (·.key):=by rw[e1];exact anS.2 ⟨q,bL,rfl⟩
    obtain⟨y,hy,ey⟩:=anS.1 this
    exact aP y (List.mem_of_mem_eraseIdx hy) ey
   ·rw[List.eraseIdx_cons_succ,fX x _ q n hq,fX x es q n hq,h2 n]
    by_cases h3:n=q
    ·subst h3;simp[hqi]
    ·simp[h3]
theorem I3(n:Nat)(i:Int):Instr.sameBits (n+1) (.int .i64 i) (.int .i64 i)=true:=by simp[Instr.sameBits]
theorem ly.YA{H:Hp}{b:Nat}{f:Int→Option Value}(h:ly H b f){i:Int}{v:Value}{F:Hp→Prop}(hk:∀H',ly H' b (I1 f i v)→ag (fun x=>x=b) H H'→F H'):
  Q6 H .int b (.int .i64 i) v F:=by
 obtain⟨es,k,h1,h2,h3⟩:=h
 unfold Q6
 simp only[h1,mT]
 have sM:∀UQ k',ag (fun x=>x=b) H (H.C9 b UQ k'):=fun UQ k'=>(ag.refl (fun x=>x=b) H).C9 (fun _=>rfl) _ _
 rcases BQ i es h2 0 with ⟨h4,h5⟩| ⟨j,e,h4,h5,h6,h7⟩
 ·rw[h5]
  refine⟨rfl,hk _ ⟨_,_,kF h1,?_,fun n=>?_⟩ (sM _ _)⟩
  ·obtain⟨ks,e1,e2⟩:=h2
   refine⟨ks++[i],by simp[Ke,e1],?_⟩
   rw[aof]
   refine⟨e2,by simp,fun a ha c hc Yt=>?_⟩
   simp only[anC]at hc
   subst hc;subst Yt
   have:Value.int .i64 a∈es.map (·.key):=by rw[e1];exact anS.2 ⟨a,ha,rfl⟩
   obtain⟨y,hy,ey⟩:=anS.1 this
   exact Pb h4 y hy ey
  ·rw[Ke,KH es _ n i rfl h4]
   unfold I1
   split<;>first|rfl|exact h3 n
 ·rw[h7]
  refine⟨?_,hk _ ⟨_,_,kF h1,I2 h2 _ e (by simpa using h4) _ _ h5,fun n=>?_⟩ (sM _ _)⟩
  ·simp only[Ey,ant,h4,Option.map_some,Option.getD_some,h5]
   exact I3 9999 i
  ·rw[Ke,ant,KI es h2 j e v i h4 h5 n]
   unfold I1
   split<;>first|rfl|exact h3 n
theorem ly.del{H:Hp}{b:Nat}{f:Int→Option Value}(h:ly H b f){i:Int}{F:Hp→Prop}(hk:∀H',ly H' b (MF f i)→ag (fun x=>x=b) H H'→F H'):
  Wa H .int b (.int .i64 i) F:=by
 obtain⟨es,k,h1,h2,h3⟩:=h
 unfold Wa
 simp only[h1,mT]
 have sM:∀UQ k',ag (fun x=>x=b) H (H.C9 b UQ k'):=fun UQ k'=>(ag.refl (fun x=>x=b) H).C9 (fun _=>rfl) _ _
 rcases BQ i es h2 0 with ⟨h4,h5⟩| ⟨j,e,h4,h5,h6,h7⟩
 ·rw[h5]
  refine hk _ ⟨_,_,kF h1,h2,fun n=>?_⟩ (sM _ _)
  rw[E0,h3 n]
  unfold MF
  by_cases hn:n=i
  ·subst hn;rw[if_pos rfl,←h3 n];exact h4
  ·rw[if_neg hn]
 ·rw[h7]
  obtain⟨e1,e2⟩:=MG es h2 j e i h4 h5
  refine hk _ ⟨_,_,kF h1,by rw[E0,ant];exact e1,fun n=>?_⟩ (sM _ _)
  rw[E0,ant,e2 n]
  unfold MF
  split<;>first|rfl|exact h3 n
end Go.Vc

namespace Go.Vc
section
variable {P : Program} {ev : Ev} {H : Hp} {K K' : Value → Hp → Prop}
theorem MH{s:Shape}{r:Option Nat}{k:Value}{F G:Option Value→Prop}(h:xt H s r k F)(hk:∀x,F x→G x):xt H s r k G:=by
 unfold xt at*
 cases r with
 |none=>exact hk _ h
 |some b=>exact ak h fun m h=>ak h fun x=>hk _
theorem I4{T size bytes:Nat}{z:List Value}{s x:Value}(h:fW T size bytes z s x H K)(hk:∀v H',K v H'→K' v H'):fW T size bytes z s x H K':=by
 refine kC h fun base n c h=>ya h fun m new h=>?_
 obtain⟨h1,h2,h3⟩:=h
 exact⟨fun a b=>hk _ _ (h1 a b),fun a b=>xZ (h2 a b) fun b o h=>ak h fun l h=>bM h (hk _ _),fun a=>⟨(h3 a).1,ya (h3 a).2 fun n l h c' hc=>hk _ _ (h c' hc)⟩⟩
theorem Fh(i:da)(h:i.vc P ev H K)(hk:∀v H',K v H'→K' v H'):i.vc P ev H K':=by
 cases hc:i.cls with
 |pure=>exact NW i hc h hk
 |quiet=>
  cases i<;>simp[da.cls]at hc<;>simp only[da.vc]at h ⊢
  ·exact ak h fun v h=>pD h fun b o h=>ak h fun l h=>ak h fun v=>hk _ _
  ·exact ak h fun v h=>pD h fun b o h=>ak h fun l h=>bM h (hk _ _)
  ·exact ak h fun v h=>ak h fun v h=>vh h fun r h=>bM h fun h=>MH h fun x=>hk _ _
  ·refine ak h fun v h=>vh h fun r h=>?_
   unfold Kt at*
   cases r with
   |none=>exact hk _ _ h
   |some b=>exact ak h fun m=>hk _ _
  ·exact ak h fun v h=>Da h fun l=>hk _ _
 |GG=>
  cases i<;>simp[da.cls]at hc<;>simp only[da.vc]at h ⊢
  ·exact ak h fun v=>hk _ _
  ·exact hk _ _ h
  ·exact E8 h fun l=>hk _ _
  ·exact ak h fun v h=>pD h fun b o h=>ak h fun v h=>ak h fun l h=>bM h fun h=>bM h fun h=>bM h (hk _ _)
  ·exact hk _ _ h
  ·exact ak h fun v h=>ak h fun v h=>jW h fun n h=>jW h fun c h=>bM h (hk _ _)
  ·exact ak h fun v h=>ak h fun v h=>ak h fun v h=>vh h fun r h=>ak h fun b h=>bM h fun h=>ak h fun es h=>ak h fun x h=>bM h (hk _ _)
  ·exact kB h fun l h=>af.mono h hk
  ·refine ak h fun v h=>kB h fun l h=>?_
   unfold VS at*
   split at h
   ·exact⟨h.1,h.2.mono hk⟩
   ·exact h.elim
  ·refine ak h fun v h=>kB h fun l h=>?_
   obtain⟨T,v,f,rv,e,hm,hc⟩:=h
   exact⟨T,v,f,rv,e,hm,hc.mono hk⟩
  ·exact ak h fun v h=>ak h fun v h=>I4 h hk
  ·exact ak h fun v h=>ak h fun v h=>vh h fun r h=>ak h fun b h=>bM h fun h=>ak h fun es h=>ak h fun x=>hk _ _
  ·exact ak h fun v h=>kC h fun a n c h=>by
    rcases h with ⟨h1,h2⟩| ⟨h1,b,o,l,h2,h3,h4,h5,h6⟩
    ·exact .inl ⟨h1,hk _ _ h2⟩
    ·exact .inr ⟨h1,b,o,l,h2,h3,h4,h5,hk _ _ h6⟩
  ·refine ak h fun v h=>?_
   unfold iM at*
   split at h
   ·exact fun c hc=>hk _ _ (h c hc)
   ·exact h.elim
  ·exact kB h fun l h=>by obtain⟨v,h1,h2⟩:=h;exact⟨v,h1,hk _ _ h2⟩
theorem KJ(s:fT)(h:s.vc P ev H K)(hk:∀v H',K v H'→K' v H'):s.vc P ev H K':=by
 unfold fT.vc at*
 cases hq:s.quiet
 ·rw[hq]at h;exact Fh s.op h hk
 ·rw[hq]at h;obtain⟨v,h1,h2⟩:=h;exact⟨v,h1,hk _ _ h2⟩
theorem N9{o:Option Value}{F F':Bool→Prop}{N N':Prop}(h:gV o F N)(hf:∀b,F b→F' b)(hn:N→N'):gV o F' N':=by
 rcases EA h with ⟨b,rfl,h⟩| ⟨vs,rfl,h⟩
 ·exact hf b h
 ·exact hn h
theorem zZ{b:Bool}{A A' B B':Prop}(h:E9 b A B)(ha:A→A')(hb:B→B'):E9 b A' B':=by
 cases b
 ·exact hb h
 ·exact ha h
theorem MI{F F':Env→Hp→Prop}(hk:∀e H,F e H→F' e H):∀ (l:List fT) (env:Env) (H:Hp),im P F l env H→im P F' l env H:=by
 intro l
 induction l with
 |nil=>intro env H h;exact hk _ _ h
 |cons s l ih=>
  intro env H h
  unfold im at h ⊢
  cases hg:s.guard with
  |none=>rw[hg]at h;exact KJ s h fun v H'=>ih _ _
  |some g=>
   rw[hg]at h
   exact N9 h (fun b h=>zZ h (fun h=>KJ s h fun v H'=>ih _ _) (ih _ _)) (ih _ _)
theorem BR{s:fT}{env:Env}{F F' N N':Env→Prop}(h:zT s env F N)(hf:∀e,F e→F' e)(hn:∀e,N e→N' e):zT s env F' N':=by
 unfold zT at*
 cases hg:s.guard with
 |none=>rw[hg]at h;exact hf _ h
 |some g=>rw[hg]at h;exact N9 h (fun b h=>zZ h (hf _) (hn _)) (hn _)
theorem Q7{Inv:Hp→Prop}{F F':Env→Hp→Prop}(hk:∀e H,F e H→F' e H):∀ (t:sn) (env:Env) (H:Hp),BO P Inv F t env H→BO P Inv F' t env H:=by
 intro t
 induction t with
 |done=>intro env H h;exact hk _ _ h
 |stop=>intro env H h;trivial
 |aS s t ih=>intro env H h;exact BR h (fun e h=>Fh s.op h fun v H'=>ih _ _) (fun e=>ih _ _)
 |zG s t ih=>intro env H h;exact BR h (fun e h=>by obtain⟨v,h1,h2⟩:=h;exact⟨v,h1,ih _ _ h2⟩) (fun e=>ih _ _)
 |aE s t r ih Z5=>intro env H h;exact⟨BR h.1 (fun e h=>Fh s.op h fun v H' h=>bM h (ih _ _)) (fun e=>ih _ _),Z5 _ _ h.2⟩
theorem Dd:∀ (s:S) (env:Env) (H:Hp) (Kn Qq:Env→Hp→Prop) (Kx Qr:Nat→Env→Hp→Prop) (Kr Qs:Env→Hp→Prop),(∀e H,Kn e H→Qq e H)→(∀i e H,Kx i e H→Qr i e H)→(∀e H,Kr e H→Qs e H)→
  vc P s env H Kn Kx Kr→vc P s env H Qq Qr Qs:=by
 intro s
 induction s with
 |skip=>intro env H Kn Qq Kx Qr Kr Qs hn hx hr h;exact hn _ _ h
 |bb ops aM=>intro env H Kn Qq Kx Qr Kr Qs hn hx hr h;exact MI (fun e H h=>hn _ _ h) ops env H h
 |nP t aM=>intro env H Kn Qq Kx Qr Kr Qs hn hx hr h;obtain⟨Inv,hI,h⟩:=h;exact⟨Inv,hI,Q7 (fun e H h=>hn _ _ h) t env H h⟩
 |seq a b iha ihb=>intro env H Kn Qq Kx Qr Kr Qs hn hx hr h;exact iha env H _ _ _ _ _ _ (fun e H h=>ihb e H _ _ _ _ _ _ hn hx hr h) hx hr h
 |cond c x y Z8 Z9=>
  intro env H Kn Qq Kx Qr Kr Qs hn hx hr h
  simp only[vc]at*
  unfold Fa at*
  split at h
  ·exact E7 h fun b h=>zZ h (Z8 _ _ _ _ _ _ _ _ hn hx hr) (Z9 _ _ _ _ _ _ _ _ hn hx hr)
  ·exact h.elim
 |Dy id b ih=>intro env H Kn Qq Kx Qr Kr Qs hn hx hr h;exact ih env H _ _ _ _ _ _ hn (fun i e H h=>zZ h (hn _ _) (hx _ _ _)) hr h
 |loop L b ih=>
  intro env H Kn Qq Kx Qr Kr Qs hn hx hr h
  obtain⟨I,h0,round⟩:=h
  exact⟨I,h0,fun m env H hI=>ih env H _ _ _ _ _ _ (fun e H h=>h) hx hr (round m env H hI)⟩
 |exit id=>intro env H Kn Qq Kx Qr Kr Qs hn hx hr h;exact hx _ _ _ h
 |ret=>intro env H Kn Qq Kx Qr Kr Qs hn hx hr h;exact hr _ _ h
 |bad=>intro env H Kn Qq Kx Qr Kr Qs hn hx hr h;exact h.elim
def Pd(a b:S):S:=.seq a b
theorem TA(a b:S)(env:Env)(H:Hp)(Kn:Env→Hp→Prop)(Kx:Nat→Env→Hp→Prop)(Kr:Env→Hp→Prop):vc P (Pd a b) env H Kn Kx Kr=vc P a env H (fun aT H'=>vc P b aT H' Kn Kx Kr) Kx Kr:=rfl
theorem MJ{a b:S}{env:Env}{H:Hp}{Kn:Env→Hp→Prop}{Kx:Nat→Env→Hp→Prop}{Kr:Env→Hp→Prop}(M:Env→Hp→Prop)(h1:vc P a env H M Kx Kr)(h2:∀e H',M e H'→vc P b e H' Kn Kx Kr):vc P (Pd a b) env H Kn Kx Kr:=
 Dd a env H _ _ _ _ _ _ h2 (fun _ _ _ h=>h) (fun _ _ h=>h) h1
end
end Go.Vc

namespace Go.Vc
def I5(P:Program)(T:TypeId)(name:String):Option (List FieldStep×Option (FuncId×Bool)):=
 ((P.info? T).bind fun i=>i.methods.find? (·.name==name)).map fun m=>(m.path.toList,m.func)
theorem tR{P:Program}{T:TypeId}{name:String}{p:List FieldStep}{f:Option (FuncId×Bool)}(h:I5 P T name=some (p,f)):
  ∃i m,P.info? T=some i∧i.methods.find? (·.name==name)=some m∧m.path.toList=p∧m.func=f:=by
 unfold I5 at h
 cases hi:P.info? T with
 |none=>rw[hi]at h;cases h
 |some i=>
  rw[hi]at h
  simp only[Option.bind_some]at h
  cases hm:i.methods.find? (·.name==name)with
  |none=>rw[hm]at h;cases h
  |some m=>
   rw[hm]at h
   simp only[Option.map_some,anE,Prod.mk.injEq]at h
   exact⟨i,m,rfl,hm,h.1,h.2⟩
def UV(P:Program)(T:TypeId)(name:String):Option FuncId:=
 match I5 P T name,P.underlying T with
 |some ([],some (f,true)),some (.pointer _)=>if ef P f then some f else none
 |_,_=>none
theorem bC{P:Program}{H:Hp}{T:TypeId}{v:Value}{name:String}{f:FuncId}(h:UV P T name=some f):Q8 P H T v name f v:=by
 unfold UV at h
 split at h
 ·rename_i f' e h1 hu
  split at h
  ·rename_i hc
   injection h with h
   subst h
   refine⟨hc,fun w hw=>?_⟩
   obtain⟨i,m,g1,g2,g3,g4⟩:=tR h1
   show(method ((P.types.size+99)+1) T v name).run P w=_
   unfold method
   simp[dW g1,g2,g3,g4,follow,receiverAt,run_underlying hu,Place.get]
  ·cases h
 ·cases h
def Oa(P:Program)(T:TypeId)(name:String):Option (Nat×FuncId):=
 match I5 P T name with
 |some ([s],some (f,true))=>
  match s.deref,P.underlying s.struct with
  |true,some (.struct fs)=>
   match fs[s.index]? with
   |some fd=>match P.underlying fd.type with
    |some (.pointer _)=>if(P.info? fd.type).isSome∧P.cellsOf fd.type≠0∧ef P f=true then some (fd.offset,f)else none
    |_=>none
   |none=>none
  |_,_=>none
 |_=>none
theorem DA{P:Program}{fd:Field}(hi:(P.info? fd.type).isSome=true)(h0:P.cellsOf fd.type≠0)(a:Addr)(w:World):(fieldPlace a fd).run P w= .ok (a.add fd.offset) w:=by
 simp[fieldPlace,bI hi,h0]
theorem fD{P:Program}{H:Hp}{T:TypeId}{b o off:Nat}{l:List Value}{rv:Value}{name:String}{f:FuncId}(h:Oa P T name=some (off,f))(hr:H.rd b=some l)(hv:l[o+off]? =some rv):
  Q8 P H T (.pointer (some ⟨b,o,none⟩)) name f rv:=by
 unfold Oa at h
 split at h
 ·rename_i s f' h1
  split at h
  ·rename_i fs hd hs
   split at h
   ·rename_i fd hf
    split at h
    ·rename_i e hu
     split at h
     ·rename_i hc
      simp only[anE,Prod.mk.injEq]at h
      obtain⟨rfl,rfl⟩:=h
      refine⟨hc.2.2,fun w hw=>?_⟩
      subst hw
      obtain⟨i,m,g1,g2,g3,g4⟩:=tR h1
      have hus:(P.underlying fd.type).isSome=true:=by rw[hu];rfl
      have hag:eG P fd.type=false:=by unfold eG;rw[hu]
      have aaf:=(iK (P:=P) (w:=w) (t:=fd.type) hc.1 hus hr).2 hag rv hv
      show(method ((P.types.size+99)+1) T _ name).run P w=_
      unfold method
      simp[dW g1,g2,g3,g4,follow,run_underlying hs,hf,hd,Place.get,asAddr,DA hc.1 hc.2.1,receiverAt,run_underlying hu,xY,aaf]
     ·cases h
    ·cases h
   ·cases h
  ·cases h
 ·cases h
theorem aag{P:Program}{T:TypeId}{a:Addr}{name:String}{x:Nat×FuncId}{cap:Array Value}(h:Oa P T name=some x):Pe P (.func (.method name) #[.iface T (.pointer (some a))] cap):=by
 unfold Oa at h
 split at h
 ·rename_i s f' h1
  split at h
  ·rename_i fs hd hs
   split at h
   ·rename_i fd hf
    refine .inr ⟨name,T,_,cap,rfl,fun w=>?_⟩
    obtain⟨i,m,g1,g2,g3,g4⟩:=tR h1
    show(nilAhead ((P.types.size+99)+1) T _ name).run P w=_
    unfold nilAhead
    simp[dW g1,g2,g3,g4,followBlind,run_underlying hs,hf,hd]
   ·cases h
  ·cases h
 ·cases h
theorem gI.mono{P:Program}{recv:Value}{name:String}{args:List Value}{H:Hp}{K K':Value→Hp→Prop}(h:gI P recv name args H K)(hk:∀v H',K v H'→K' v H'):gI P recv name args H K':=by
 obtain⟨T,v,f,rv,h1,h2,h3⟩:=h
 exact⟨T,v,f,rv,h1,h2,h3.mono hk⟩
end Go.Vc

namespace Go.Vc
end Go.Vc
