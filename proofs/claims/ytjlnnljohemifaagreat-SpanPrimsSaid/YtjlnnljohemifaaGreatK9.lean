/- Texts put behind each other. -/
import Derived.Test.YtjlnnljohemifaaGreatK98
import Derived.Test.YtjlnnljohemifaaGreatK8
set_option maxRecDepth 100000
set_option maxHeartbeats 8000000
set_option linter.unusedVariables false
set_option linter.unusedSimpArgs false
namespace Go.Vc
abbrev tt(n:Nat):Operand:=.tmp n
abbrev ki(n:Int):Operand:=.const (.int .i64 n)
abbrev kb(b:Bool):Operand:=.const (.bool b)
abbrev s1(d:Nat)(op:c7):jn:=⟨false,none,some d,op⟩
abbrev s0(op:c7):jn:=⟨false,none,none,op⟩
abbrev sg(g:Nat)(w:Bool)(d:Nat)(op:c7):jn:=⟨false,some (g,w),some d,op⟩
abbrev sq(d:Nat)(op:c7):jn:=⟨true,none,some d,op⟩
abbrev sqg(g:Nat)(w:Bool)(d:Nat)(op:c7):jn:=⟨true,some (g,w),some d,op⟩
inductive S where
 |skip
 |reg(ops:List jn)(aI:List Nat)
 |TU(t:RN)(aI:List Nat)
 |seq(a b:S)
 |cond(c:Operand)(x y:S)
 |Sa(id:Nat)(b:S)
 |loop(aiA:List Nat)(b:S)
 |exit(id:Nat)
 |ret
 |bad
 deriving Inhabited
def aT(F:Env→Hp→(Env→Hp→Prop)→Prop)(env:Env)(H:Hp)(_t:Tag F:=⟨⟩):Prop:=
 ∃I:Nat→Env→Hp→Prop,(∃m,I m env H)∧∀m env H,I m env H→F env H fun aR H'=>∃m',m'<m∧I m' aR H'
theorem aT.intro{F:Env→Hp→(Env→Hp→Prop)→Prop}{env:Env}{H:Hp}(I:Nat→Env→Hp→Prop)(m:Nat)(h0:I m env H)
  (round:∀m env H,I m env H→F env H fun aR H'=>∃m',m'<m∧I m' aR H'):aT F env H:=⟨I,⟨m,h0⟩,round⟩
def vc(P:Program):S→Env→Hp→(Env→Hp→Prop)→(Nat→Env→Hp→Prop)→(Env→Hp→Prop)→Prop
 | .skip,env,H,Kn,_,_=>Kn env H
 | .reg ops aI,env,H,Kn,_,_=>iy P (fun aR H'=>now (Env.aI aR aI) fun e=>Kn e H') ops env H
 | .TU t aI,env,H,Kn,_,_=>jk H fun Inv=>B9 P Inv (fun aR H'=>now (Env.aI aR aI) fun e=>Kn e H') t env H
 | .seq a b,env,H,Kn,Kx,Kr=>vc P a env H (fun aR H'=>vc P b aR H' Kn Kx Kr) Kx Kr
 | .cond c x y,env,H,Kn,Kx,Kr=>Fs (Env.ev env c) fun t=>E8 t (vc P x env H Kn Kx Kr) (vc P y env H Kn Kx Kr)
 | .Sa id b,env,H,Kn,Kx,Kr=>vc P b env H Kn (fun i aR H'=>E8 (i==id) (Kn aR H') (Kx i aR H')) Kr
 | .loop L b,env,H,_,Kx,Kr=>aT (fun aR H' again=>vc P b aR H' (fun e h=>again (Env.aI e L) h) Kx Kr) (Env.aI env L) H
 | .exit id,env,H,_,Kx,_=>Kx id env H
 | .ret,env,H,_,_,Kr=>Kr env H
 | .bad,_,_,_,_,_=>False
section
variable (P : Program) (env : Env) (H : Hp) (Kn : Env → Hp → Prop) (Kx : Nat → Env → Hp → Prop) (Kr : Env → Hp → Prop)
@[go_sem ↓] theorem Th:vc P .skip env H Kn Kx Kr=Kn env H:=(rfl)
@[go_sem ↓] theorem agt(ops:List jn)(aI:List Nat):vc P (.reg ops aI) env H Kn Kx Kr=iy P (fun aR H'=>now (Env.aI aR aI) fun e=>Kn e H') ops env H:=(rfl)
@[go_sem ↓] theorem adP(t:RN)(aI:List Nat):vc P (.TU t aI) env H Kn Kx Kr=jk H fun Inv=>B9 P Inv (fun aR H'=>now (Env.aI aR aI) fun e=>Kn e H') t env H:=(rfl)
@[go_sem ↓] theorem Wp(a b:S):vc P (.seq a b) env H Kn Kx Kr=vc P a env H (fun aR H'=>vc P b aR H' Kn Kx Kr) Kx Kr:=(rfl)
@[go_sem ↓] theorem TV(c:Operand)(x y:S):vc P (.cond c x y) env H Kn Kx Kr=Fs (Env.ev env c) fun t=>E8 t (vc P x env H Kn Kx Kr) (vc P y env H Kn Kx Kr):=(rfl)
@[go_sem ↓] theorem Wq(id:Nat)(b:S):vc P (.Sa id b) env H Kn Kx Kr=vc P b env H Kn (fun i aR H'=>E8 (i==id) (Kn aR H') (Kx i aR H')) Kr:=(rfl)
@[go_sem ↓] theorem adQ(L:List Nat)(b:S):vc P (.loop L b) env H Kn Kx Kr=aT (fun aR H' again=>vc P b aR H' (fun e h=>again (Env.aI e L) h) Kx Kr) (Env.aI env L) H:=(rfl)
@[go_sem ↓] theorem adR(id:Nat):vc P (.exit id) env H Kn Kx Kr=Kx id env H:=(rfl)
@[go_sem ↓] theorem agu:vc P .bad env H Kn Kx Kr=False:=(rfl)
@[go_sem ↓] theorem agv:vc P .ret env H Kn Kx Kr=Kr env H:=(rfl)
end
attribute [go_sem] cond_true cond_false
abbrev pj:=List Nat×List Nat×List Nat
def IX:Nat→List Nat→Option (Ot×List Nat)
 |0,_=>none
 |_+1,0::r=>some (.done,r)
 |f+1,1::i::r=>match IX f r with
  |some (t,r)=>some (.step i t,r)
  |none=>none
 |f+1,2::i::r=>match IX f r with
  |some (t,r)=>match IX f r with
   |some (u,r)=>some (.zG i t u,r)
   |none=>none
  |none=>none
 |_+1,3::r=>some (.stop,r)
 |_+1,_=>none
def si(P:Program)(n:Nat):Code→List pj→Option (S×List pj)
 | .skip,an=>some (.skip,an)
 | .region _ ops draw,an=>
  match an with
  | []=>none
  | (aI,q,x::tr)::an=>
   match gX P n ops q 0 ops.toList with
   |none=>none
   |some ss=>
    match IX (tr.length+2) (x::tr)with
    |some (t,[])=>
     if draw=true∧zE ops (Region.before ops)=true∧RV ops (Region.before ops) (KV ss) t (Array.replicate ops.size false) []=true∧Region.noSelect ops=true then(attach ss t).map fun ts=>(.TU ts aI,an)else none
    |_=>none
  | (aI,q,[])::an=>
   match gX P n ops q 0 ops.toList with
   |none=>none
   |some ss=>
    if draw=false∨(zE ops (Region.before ops)=true∧zF ops (Region.before ops) (RL ss)=true∧Region.noSelect ops=true)then some (.reg ss aI,an)else none
 | .seq a b,an=>
  match si P n a an with
  |none=>none
  |some (x,an)=>match si P n b an with
   |none=>none
   |some (y,an)=>some (.seq x y,an)
 | .cond c a b,an=>
  match si P n a an with
  |none=>none
  |some (x,an)=>match si P n b an with
   |none=>none
   |some (y,an)=>some (.cond c x y,an)
 | .block id a,an=>match si P n a an with
  |none=>none
  |some (x,an)=>some (.Sa id x,an)
 | .loop a,an=>
  match an with
  | []=>none
  | (L,_,_)::an=>match si P n a an with
   |none=>none
   |some (x,an)=>some (.loop L x,an)
 | .exit id,an=>some (.exit id,an)
 | .ret,an=>some (.ret,an)
 | .refuse _,an=>some (.bad,an)
 |_,_=>none
theorem wp_loop_ghost{P:Program}{Q:Exit→Act→World→Prop}{a:Act}{w:World}{c:Code}(I:Nat→Act→World→Prop){m:Nat}(h₀:I m a w)
  (round:∀m a w,I m a w→c.wp P (Exit.then (fun a' w'=>∃m',m'<m∧I m' a' w') Q) a w):(Code.loop c).wp P Q a w:=by
 intro b k cs
 have key:∀n a w,I n a w→∃e a' w',Q e a' w'∧Arrives P (lone (b.at a (.code c:: .inLoop c::k)) cs w) b k cs e a' w':=by
  intro n
  induction n using Nat.strongRecOn with
  |_ n ih=>
   intro a w hI
   obtain⟨e,a₁,w₁,hq,KX⟩:=round n a w hI b (.inLoop c::k) cs
   cases e with
   |normal=>
    obtain⟨m',aK,hI₁⟩:=hq
    obtain⟨e₂,a₂,w₂,hq₂,abX⟩:=ih m' aK a₁ w₁ hI₁
    exact⟨e₂,a₂,w₂,hq₂,.of_steps (Steps.trans KX (.one step_inLoop)) abX⟩
   |exit id=>exact⟨_,a₁,w₁,hq,.pass (x:=.inLoop c) rfl (fun _ _=>.inl (by simp)) KX⟩
   |goto l=>exact⟨_,a₁,w₁,hq,.pass (x:=.inLoop c) rfl (fun _ _=>.inl (by simp)) KX⟩
   |ret=>exact⟨_,a₁,w₁,hq,.pass (x:=.inLoop c) rfl (fun _ _=>.inl (by simp)) KX⟩
   |panic ch=>exact⟨_,a₁,w₁,hq,.pass (x:=.inLoop c) rfl (fun _ _=>.inl (by simp)) KX⟩
   |outgrown=>exact⟨_,a₁,w₁,hq,.pass (x:=.inLoop c) rfl (fun _ _=>.inl (by simp)) KX⟩
 obtain⟨e,a',w',hq,KX⟩:=key _ a w h₀
 exact⟨e,a',w',hq,.of_steps (.one step_loop) KX⟩
theorem JJ{P:Program}{n:Nat}(hm:P.follows .mixedOrders=true):∀ (c:Code) (an:List pj) (s:S) (RO:List pj),si P n c an=some (s,RO)→
  ∀ (env:Env) (a:Act) (w:World) (Kn:Env→Hp→Prop) (Kx:Nat→Env→Hp→Prop) (Kr:Env→Hp→Prop) (Q:Exit→Act→World→Prop),Holds env a n→vc P s env w.heap Kn Kx Kr→
   (∀aR a' w',bX w w'→Holds aR a' n→Kn aR w'.heap→Q .normal a' w')→
   (∀i aR a' w',bX w w'→Holds aR a' n→Kx i aR w'.heap→Q (.exit i) a' w')→
   (∀aR a' w',bX w w'→Holds aR a' n→Kr aR w'.heap→Q .ret a' w')→c.wp P Q a w:=by
 intro c
 induction c with
 |skip=>
  intro an s RO hd env a w Kn Kx Kr Q hh h hn hx hr
  simp only[si,anl,Prod.mk.injEq]at hd
  obtain⟨rfl,rfl⟩:=hd
  exact wp_skip (hn env a w (bX.refl w) hh h)
 |region id ops draw=>
  intro an s RO hd env a w Kn Kx Kr Q hh h hn hx hr
  unfold si at hd
  split at hd
  ·cases hd
  ·rename_i aI q x tr an0
   split at hd
   ·cases hd
   ·rename_i ss hss
    split at hd
    ·rename_i t ht
     split at hd
     ·rename_i hc
      obtain⟨rfl,h1,h2,h3⟩:=hc
      cases hts:attach ss t with
      |none=>rw[hts]at hd;cases hd
      |some ts=>
       rw[hts]at hd
       simp only[Option.map_some,anl,Prod.mk.injEq]at hd
       obtain⟨rfl,rfl⟩:=hd
       have hl:∀k,ops.toList[k]? =ops[0+k]? :=fun k=>by simp
       have hQ:∀a' w',bX w w'→(∃aR,Holds aR a' n∧Kn (Env.aI aR aI) w'.heap)→Q .normal a' w':=fun a' w' hs ⟨aR,mS,hk⟩=>hn _ a' w' hs (mS.aI aI) hk
       have bV:=MZ (P:=P) (ops:=ops) (n:=n) ops.toList 0 ss hl hss
       obtain⟨Inv,hI,h⟩:=h
       have h4:=KW (P:=P) (ops:=ops) (n:=n) (q:=q) (Inv:=Inv) (ss:=ss) (fun k s hk=>by have:=bV k s hk;simpa using this) t ts hts env a w.heap hh h
       exact Ef (K:=fun a' H'=>∃aR,Holds aR a' n∧Kn (Env.aI aR aI) H') hm h1 h2 h3 hI hQ (by simpa[MC]using h4)
     ·cases hd
    ·cases hd
  ·rename_i aI q an0
   split at hd
   ·cases hd
   ·rename_i ss hss
    split at hd
    ·rename_i abY
     simp only[anl,Prod.mk.injEq]at hd
     obtain⟨rfl,rfl⟩:=hd
     have hl:∀k,ops.toList[k]? =ops[0+k]? :=fun k=>by simp
     have hQ:∀a' w',bX w w'→(∃aR,Holds aR a' n∧Kn (Env.aI aR aI) w'.heap)→Q .normal a' w':=fun a' w' hs ⟨aR,mS,hk⟩=>hn _ a' w' hs (mS.aI aI) hk
     cases draw with
     |false=>
      have h1:=MX (P:=P) (ops:=ops) (n:=n) ops.toList 0 ss hl hss env a w.heap hh h
      refine Ec (K:=fun a' H'=>∃aR,Holds aR a' n∧Kn (Env.aI aR aI) H') hQ ?_
      rw[List.range_eq_range']
      simpa[MC]using h1
     |true=>
      obtain⟨h1,h2,h3⟩:=abY.resolve_left (by simp)
      have h4:=MY (P:=P) (ops:=ops) (n:=n) (cls:=RL ss) ops.toList 0 ss hl hss (fun k s hk=>by simp[RL,hk]) env a w.heap hh h
      refine Eb (K:=fun a' H'=>∃aR,Holds aR a' n∧Kn (Env.aI aR aI) H') hm h1 h2 h3 hQ ?_
      rw[List.range_eq_range']
      simpa[MC]using h4
    ·cases hd
 |seq x y ihx ihy=>
  intro an s RO hd env a w Kn Kx Kr Q hh h hn hx hr
  unfold si at hd
  split at hd
  ·cases hd
  ·rename_i sx Xn Xo
   split at hd
   ·cases hd
   ·rename_i sy an2 hdy
    simp only[anl,Prod.mk.injEq]at hd
    obtain⟨rfl,rfl⟩:=hd
    refine wp_seq (ihx an sx Xn Xo env a w _ Kx Kr _ hh h ?_ ?_ ?_)
    ·intro aR a' w' hs mS hk
     exact ihy Xn sy _ hdy aR a' w' Kn Kx Kr Q mS hk (fun e b v CU=>hn e b v (hs.trans CU)) (fun i e b v CU=>hx i e b v (hs.trans CU)) (fun e b v CU=>hr e b v (hs.trans CU))
    ·intro i aR a' w' hs mS hk;exact hx i aR a' w' hs mS hk
    ·intro aR a' w' hs mS hk;exact hr aR a' w' hs mS hk
 |cond c x y ihx ihy=>
  intro an s RO hd env a w Kn Kx Kr Q hh h hn hx hr
  unfold si at hd
  split at hd
  ·cases hd
  ·rename_i sx Xn Xo
   split at hd
   ·cases hd
   ·rename_i sy an2 hdy
    simp only[anl,Prod.mk.injEq]at hd
    obtain⟨rfl,rfl⟩:=hd
    rw[TV]at h
    unfold Fs at h
    split at h
    ·rename_i v hv
     obtain⟨b,hb,h2⟩:=yw h
     subst hb
     have hc:=hh.tQ _ _ hv
     refine wp_cond_split hc (fun hb=>?_) (fun hb=>?_)
     ·subst hb;exact ihx an sx Xn Xo env a w Kn Kx Kr Q hh h2 hn hx hr
     ·subst hb;exact ihy Xn sy _ hdy env a w Kn Kx Kr Q hh h2 hn hx hr
    ·exact h.elim
 |block id x ih=>
  intro an s RO hd env a w Kn Kx Kr Q hh h hn hx hr
  unfold si at hd
  split at hd
  ·cases hd
  ·rename_i sx Xn Xo
   simp only[anl,Prod.mk.injEq]at hd
   obtain⟨rfl,rfl⟩:=hd
   refine wp_block (ih an sx _ Xo env a w Kn _ Kr _ hh h (fun e b v hs mS hk=>hn e b v hs mS hk) ?_ (fun e b v hs mS hk=>hr e b v hs mS hk))
   intro i aR a' w' hs mS hk
   show if i=id then Q .normal a' w' else Q (.exit i) a' w'
   by_cases e:i=id
   ·subst e
    simp only[beq_self_eq_true,E8]at hk
    rw[if_pos rfl]
    exact hn aR a' w' hs mS hk
   ·have:(i==id)=false:=by simpa using e
    simp only[this,E8]at hk
    rw[if_neg e]
    exact hx i aR a' w' hs mS hk
 |loop x ih=>
  intro an s RO hd env a w Kn Kx Kr Q hh h hn hx hr
  unfold si at hd
  split at hd
  ·cases hd
  ·rename_i L q tr an0
   split at hd
   ·cases hd
   ·rename_i sx Xn Xo
    simp only[anl,Prod.mk.injEq]at hd
    obtain⟨rfl,rfl⟩:=hd
    obtain⟨I,⟨m,h0⟩,round⟩:=h
    refine wp_loop_ghost (fun m a' w'=>bX w w'∧∃aR,Holds aR a' n∧I m aR w'.heap) ⟨bX.refl w,_,hh.aI L,h0⟩ ?_
    rintro m a' w' ⟨hs,aR,mS,hI⟩
    refine ih an0 sx _ Xo aR a' w' _ Kx Kr _ mS (round m aR w'.heap hI) ?_ ?_ ?_
    ·rintro e b v CU hb ⟨m',aK,SF⟩
     exact⟨m',aK,hs.trans CU,_,hb.aI L,SF⟩
    ·intro i e b v CU hb hk;exact hx i e b v (hs.trans CU) hb hk
    ·intro e b v CU hb hk;exact hr e b v (hs.trans CU) hb hk
 |exit id=>
  intro an s RO hd env a w Kn Kx Kr Q hh h hn hx hr
  simp only[si,anl,Prod.mk.injEq]at hd
  obtain⟨rfl,rfl⟩:=hd
  exact wp_exit (hx id env a w (bX.refl w) hh h)
 |ret=>
  intro an s RO hd env a w Kn Kx Kr Q hh h hn hx hr
  simp only[si,anl,Prod.mk.injEq]at hd
  obtain⟨rfl,rfl⟩:=hd
  exact wp_ret (hr env a w (bX.refl w) hh h)
 |refuse r=>
  intro an s RO hd env a w Kn Kx Kr Q hh h hn hx hr
  simp only[si,anl,Prod.mk.injEq]at hd
  obtain⟨rfl,rfl⟩:=hd
  exact h.elim
 |_=>intro an s RO hd;simp[si]at hd
inductive Xp where
 |tmp(t:Nat)
 |one(t:Nat)
 |agg(t n:Nat)
 deriving Inhabited
structure Fn where
 np:Nat
 XR:List Xp
 body:S
 deriving Inhabited
def pk(env:Env)(H:Hp):List Xp→(List Value→Prop)→Prop
 | [],F=>F []
 | .tmp t::r,F=>aA (Env.find env t) fun v=>pk env H r fun vs=>F (v::vs)
 | .one t::r,F=>aA (Env.find env t) fun p=>wk p fun b o=>aA (H.rd b) fun l=>aA l[o]? fun v=>pk env H r fun vs=>F (v::vs)
 | .agg t n::r,F=>aA (Env.find env t) fun p=>wk p fun b o=>aA (H.rd b) fun l=>dt (o+n≤l.length) (pk env H r fun vs=>F (.agg ((l.drop o).take n).toArray::vs))
@[go_sem ↓] theorem ab1(env:Env)(H:Hp)(F:List Value→Prop):pk env H [] F=F []:=(rfl)
@[go_sem ↓] theorem ab2(env:Env)(H:Hp)(t:Nat)(r:List Xp)(F:List Value→Prop):pk env H (.tmp t::r) F=aA (Env.find env t) fun v=>pk env H r fun vs=>F (v::vs):=(rfl)
@[go_sem ↓] theorem ab3(env:Env)(H:Hp)(t:Nat)(r:List Xp)(F:List Value→Prop):
  pk env H (.one t::r) F=aA (Env.find env t) fun p=>wk p fun b o=>aA (H.rd b) fun l=>aA l[o]? fun v=>pk env H r fun vs=>F (v::vs):=(rfl)
@[go_sem ↓] theorem ab4(env:Env)(H:Hp)(t n:Nat)(r:List Xp)(F:List Value→Prop):
  pk env H (.agg t n::r) F=aA (Env.find env t) fun p=>wk p fun b o=>aA (H.rd b) fun l=>dt (o+n≤l.length) (pk env H r fun vs=>F (.agg ((l.drop o).take n).toArray::vs)):=(rfl)
def Jn:List Value→Value
 | [v]=>v
 |vs=>.tuple vs.toArray
@[go_sem] theorem adT(v:Value):Jn [v]=v:=(rfl)
@[go_sem] theorem adU:Jn []= .tuple [].toArray:=(rfl)
@[go_sem] theorem adV(v u:Value)(r:List Value):Jn (v::u::r)= .tuple (v::u::r).toArray:=(rfl)
def iG:Nat→List Value→Env
 |_,[]=>[]
 |i,v::r=>(i,v)::iG (i+1) r
@[go_sem] theorem UP(i:Nat):iG i []=[]:=(rfl)
@[go_sem] theorem TW(i:Nat)(v:Value)(r:List Value):iG i (v::r)=(i,v)::iG (i+1) r:=(rfl)
def Fn.vc(P:Program)(F:Fn)(args:List Value)(H:Hp)(K:Value→Hp→Prop):Prop:=
 args.length=F.np∧Go.Vc.vc P F.body (iG 0 args) H (fun env H=>pk env H F.XR fun vs=>K (Jn vs) H) (fun _ _ _=>False) (fun env H=>pk env H F.XR fun vs=>K (Jn vs) H)
def mh(P:Program):List ResultVar→Option (List Xp)
 | []=>some []
 | .tmp t::r=>(mh P r).map (.tmp t:: ·)
 | .cell t T::r=>if(P.info? T).isSome∧(P.underlying T).isSome then(mh P r).map ((if eE P T then .agg t (P.cellsOf T)else .one t):: ·)else none
def Jo(P:Program)(f:FuncId)(an:List pj):Option Fn:=
 match P.funcs[f]? with
 |none=>none
 |some fn=>
  match fn.body with
  |none=>none
  |some c=>
   match si P fn.ntmps c an with
   |some (s,[])=>if fn.params.size≤fn.ntmps then(mh P fn.results.toList).map fun rs=>⟨fn.params.size,rs,s⟩else none
   |_=>none
def Bn(tmps:Array Value):ResultVar→Sem Value
 | .tmp t=>pure (tmps.getD t undef)
 | .cell p t=>do loadVar t (←asAddr (tmps.getD p undef))
theorem zA{P:Program}{w:World}{env:Env}{a:Act}{n:Nat}(hh:Holds env a n):∀ (rs:List ResultVar) (l:List Xp) (F:List Value→Prop),mh P rs=some l→pk env w.heap l F→
  ∃vs,F vs∧(rs.mapM (Bn a.tmps)).run P w= .ok vs w:=by
 intro rs
 induction rs with
 |nil=>intro l F hl h;simp only[mh,anl]at hl;subst hl;exact⟨[],h,rfl⟩
 |cons r rs ih=>
  intro l F hl h
  cases r with
  |tmp t=>
   unfold mh at hl
   cases hr:mh P rs with
   |none=>rw[hr]at hl;cases hl
   |some l'=>
    rw[hr]at hl
    simp only[Option.map_some,anl]at hl
    subst hl
    obtain⟨v,hv,h⟩:=ay h
    obtain⟨vs,hF,Cz⟩:=ih l' _ hr h
    have e:a.tmps.getD t undef=v:=by simp[hh.Ay t v hv]
    exact⟨v::vs,hF,by rw[List.mapM_cons];simp only[Bn,Sem.run_bind,Sem.run_pure,Result.andThen_ok,e,Cz]⟩
  |cell t T=>
   unfold mh at hl
   split at hl
   ·rename_i hc
    cases hr:mh P rs with
    |none=>rw[hr]at hl;cases hl
    |some l'=>
     rw[hr]at hl
     simp only[Option.map_some,anl]at hl
     subst hl
     cases hb:eE P T
     ·rw[hb]at h
      obtain⟨p,hp,h⟩:=ay h
      obtain⟨b,o,rfl,h⟩:=eQ h
      obtain⟨lb,Cm,h⟩:=ay h
      obtain⟨v,hv,h⟩:=ay h
      obtain⟨vs,hF,Cz⟩:=ih l' _ hr h
      have e:a.tmps.getD t undef= .pointer (some ⟨b,o,none⟩):=by simp[hh.Ay t _ hp]
      exact⟨v::vs,hF,by rw[List.mapM_cons];simp only[Bn,Sem.run_bind,Sem.run_pure,Result.andThen_ok,e,asAddr,(je hc.1 hc.2 Cm).2 hb v hv,Cz]⟩
     ·rw[hb]at h
      obtain⟨p,hp,h⟩:=ay h
      obtain⟨b,o,rfl,h⟩:=eQ h
      obtain⟨lb,Cm,h⟩:=ay h
      obtain⟨hn,h⟩:=h.out
      obtain⟨vs,hF,Cz⟩:=ih l' _ hr h
      have e:a.tmps.getD t undef= .pointer (some ⟨b,o,none⟩):=by simp[hh.Ay t _ hp]
      exact⟨_,hF,by rw[List.mapM_cons];simp only[Bn,Sem.run_bind,Sem.run_pure,Result.andThen_ok,e,asAddr,(je hc.1 hc.2 Cm).1 hb hn,Cz]⟩
   ·cases hl
theorem G4:∀ (args:List Value) (i k:Nat) (v:Value),Env.find (iG i args) k=some v→i≤k∧args[k - i]? =some v:=by
 intro args
 induction args with
 |nil=>intro i k v h;cases h
 |cons x r ih=>
  intro i k v h
  simp only[iG,Env.find]at h
  by_cases e:i=k
  ·subst e
   simp at h
   subst h
   exact⟨ano _,by simp⟩
  ·have:(i==k)=false:=by simpa using e
   rw[this]at h
   obtain⟨h1,h2⟩:=ih (i+1) k v h
   refine⟨by omega,?_⟩
   rw[show k - i=(k - (i+1))+1 by omega,aod]
   exact h2
theorem PV{P:Program}(hm:P.follows .mixedOrders=true){f:FuncId}{an:List pj}{F:Fn}(hd:Jo P f an=some F){args:List Value}{H:Hp}{K:Value→Hp→Prop}
  (h:F.vc P args H K):af P f args H K:=by
 unfold Jo at hd
 split at hd
 ·cases hd
 ·rename_i fn hf
  split at hd
  ·cases hd
  ·rename_i c hb
   split at hd
   ·rename_i s hs
    split at hd
    ·rename_i mJ
     cases hr:mh P fn.results.toList with
     |none=>rw[hr]at hd;cases hd
     |some rs=>
      rw[hr]at hd
      simp only[Option.map_some,anl]at hd
      subst hd
      obtain⟨aV,h⟩:=h
      simp only at aV h
      intro w hw
      subst hw
      refine calls_of_wp hf hb ?_
      have hh:Holds (iG 0 args) {tmps:=args.toArray++Array.replicate (fn.ntmps - args.toArray.size) undef,defers:=[]} fn.ntmps:=by
       refine⟨by simp;omega,rfl,fun k v hk=>?_⟩
       obtain⟨_,h2⟩:=G4 args 0 k v hk
       have aK:k<args.length:=by
        rcases aow k args.length with h'|h'
        ·exact h'
        ·simp[ans h']at h2
       rw[aoJ (by simpa using aK)]
       simpa using h2
      have DO:∀aR a' w',bX w w'→Holds aR a' fn.ntmps→pk aR w'.heap rs (fun vs=>K (Jn vs) w'.heap)→
        a'.defers=[]∧∃v,(results fn a'.tmps).run P w'= .ok v w'∧(∃Zj,Ending.returned v=Ending.returned Zj∧bX w w'∧K Zj w'.heap):=by
       intro aR a' w' LG mS hk
       obtain⟨vs,hF,Cz⟩:=zA (P:=P) mS fn.results.toList rs _ hr hk
       refine⟨mS.defers,Jn vs,?_,_,rfl,LG,hF⟩
       change (do let vs ←fn.results.mapM (Bn a'.tmps);pure (if h:vs.size=1 then vs[0]else .tuple vs):Sem Value).run P w'=_
       rw[Array.mapM_eq_mapM_toList]
       simp only[Sem.run_bind,Sem.run_map,Cz,Result.andThen_ok,Sem.run_pure]
       congr 1
       cases vs with
       |nil=>rfl
       |cons x r=>cases r with
        |nil=>rfl
        |cons y r=>simp[Jn]
      refine JJ hm c an s [] hs _ _ w _ _ _ _ hh h ?_ ?_ ?_
      ·exact fun aR a' w' LG mS hk=>DO aR a' w' LG mS hk
      ·exact fun _ _ _ _ _ _ hk=>hk.elim
      ·exact fun aR a' w' LG mS hk=>DO aR a' w' LG mS hk
    ·cases hd
   ·cases hd
end Go.Vc

namespace Go.Vc
theorem wrap64{n:Int}(h0: -9223372036854775808≤n)(h1:n≤9223372036854775807):IntKind.i64.wrap n=n:=by
 have e:(2^IntKind.i64.bits:Int)=18446744073709551616:=rfl
 have e':(2^ (IntKind.i64.bits - 1):Int)=9223372036854775808:=rfl
 unfold IntKind.wrap
 simp only[e,e',IntKind.signed,aov,anF]
 split<;>omega
theorem qn{n:Int}(h0:0≤n)(h1:n≤18446744073709551615):IntKind.u64.wrap n=n:=by
 have e:(2^IntKind.u64.bits:Int)=18446744073709551616:=rfl
 unfold IntKind.wrap
 simp only[e,IntKind.signed,aoX]
 rw[if_neg (by simp)];omega
theorem SP{n:Int}(h0:0≤n)(h1:n≤4294967295):IntKind.u32.wrap n=n:=by
 have e:(2^IntKind.u32.bits:Int)=4294967296:=rfl
 unfold IntKind.wrap
 simp only[e,IntKind.signed,aoX]
 rw[if_neg (by simp)];omega
def Sl(H:Hp)(size:Nat)(v:Value)(n:Nat)(xs:List Value)(fp:Option Nat):Prop:=
 xs.length=n*size∧
 match fp with
 |none=>n=0∧v= .slice none 0 0
 |some b=>∃l c,v= .slice (some ⟨b,0,none⟩) n c∧H.own b=some l∧n≤c∧c*size≤l.length∧l.take (n*size)=xs
theorem Sl.nil(H:Hp)(size:Nat):Sl H size (.slice none 0 0) 0 [] none:=⟨by simp,rfl,rfl⟩
theorem Sl.ext{H H':Hp}{size n:Nat}{v:Value}{xs:List Value}{fp:Option Nat}{S:Nat→Prop}(h:Sl H size v n xs fp)(e:ag S H H')(hs:∀b,fp=some b→¬S b):Sl H' size v n xs fp:=by
 obtain⟨hl,h⟩:=h
 refine⟨hl,?_⟩
 cases fp with
 |none=>exact h
 |some b=>
  obtain⟨l,c,h1,h2,h3⟩:=h
  exact⟨l,c,h1,e.own h2 (hs b rfl),h3⟩
theorem Sl.lt{H:Hp}{size n:Nat}{v:Value}{xs:List Value}{b:Nat}(h:Sl H size v n xs (some b)):b<H.size:=by
 obtain⟨_,l,c,_,h2,_⟩:=h
 exact az h2
theorem Sl.lit(H:Hp)(T:TypeId)(size n:Nat)(xs:List Value)(hx:xs.length=n*size):Sl (H.new T xs) size (.slice (some ⟨H.size,0,none⟩) n n) n xs (some H.size):=
 ⟨hx,xs,n,rfl,ax H T xs,ano _,by omega,by rw[←hx];simp⟩
theorem Sl.bP{H:Hp}{T:TypeId}{size n b:Nat}{xs:List Value}(hx:xs.length=n*size)(hb:b=H.size):Sl (H.new T xs) size (.slice (some ⟨b,0,none⟩) n n) n xs (some b):=
 hb▸Sl.lit H T size n xs hx
def cI(H:Hp)(size:Nat)(v:Value)(n:Nat)(xs:List Value):Prop:=
 xs.length=n*size∧((n=0∧∃a c,v= .slice a 0 c)∨∃b o c l,v= .slice (some ⟨b,o,none⟩) n c∧H.rd b=some l∧o+n*size≤l.length∧(l.drop o).take (n*size)=xs)
theorem Sl.rd{H:Hp}{size n:Nat}{v:Value}{xs:List Value}{fp:Option Nat}(h:Sl H size v n xs fp):cI H size v n xs:=by
 obtain⟨hl,h⟩:=h
 refine⟨hl,?_⟩
 cases fp with
 |none=>exact .inl ⟨h.1,none,0,h.2⟩
 |some b=>
  obtain⟨l,c,h1,h2,h3,h4,h5⟩:=h
  refine .inr ⟨b,0,c,l,h1,ae h2,?_,by simpa using h5⟩
  have:=aoF size h3
  omega
theorem cI.rowOf{H:Hp}{size n:Nat}{v:Value}{xs:List Value}{F:Nat→List Value→Prop}(h:cI H size v n xs)(hf:F n xs):rowOf H size v F:=by
 obtain⟨hl,⟨rfl,a,c,rfl⟩| ⟨b,o,c,l,rfl,h2,h3,h4⟩⟩:=h
 ·have:xs=[]:=anL.1 (by omega)
  subst this
  exact hf
 ·by_cases hn:n=0
  ·subst hn
   have:xs=[]:=anL.1 (by omega)
   subst this
   exact hf
  ·have e0:(n==0)=false:=by simpa using hn
   show E8 (n==0) _ _
   rw[e0]
   show aA (H.rd b) _
   rw[h2]
   exact⟨h3,by rw[h4];exact hf⟩
theorem cI.ext{H H':Hp}{size n:Nat}{v:Value}{xs:List Value}{S:Nat→Prop}(h:cI H size v n xs)(e:ag S H H')(hs:∀b,b<H.size→¬S b):cI H' size v n xs:=by
 obtain⟨hl,h| ⟨b,o,c,l,rfl,h2,h3⟩⟩:=h
 ·exact⟨hl,.inl h⟩
 ·exact⟨hl,.inr ⟨b,o,c,l,rfl,e.rd h2 (hs b (ND h2)),h3⟩⟩
theorem cI.fresh{H H':Hp}{size n:Nat}{v:Value}{xs:List Value}(h:cI H size v n xs)(e:ah H H'):cI H' size v n xs:=h.ext e fun _ _ h=>h
theorem KY{l xs new:List Value}{p:Nat}(hx:l.take p=xs)(hp:xs.length=p)(hn:p+new.length≤l.length):(bf l p new).take (p+new.length)=xs++new:=by
 apply an5
 intro i
 by_cases hi:i<p+new.length
 ·rw[anI hi,getElem?_splice new l p i hn]
  by_cases h1:p≤i
  ·rw[if_pos ⟨h1,hi⟩,anE (by omega),hp]
  ·rw[if_neg (fun h=>h1 h.1),anq (by omega),←hx,anI (by omega)]
 ·rw[ans (by simp;omega),ans (by simp;omega)]
theorem Sl.append{H:Hp}{T size bytes n m:Nat}{z:List Value}{s x:Value}{xs ys:List Value}{fp:Option Nat}{K:Value→Hp→Prop}(h:Sl H size s n xs fp)(hx:cI H size x m ys)
  (hz:z.length=size)(h1:gv ys)(hb:(n+m)*bytes≤2^47)
  (hk:∀v' H' cJ,Sl H' size v' (n+m) (xs++ys) cJ→ag (fun b=>fp=some b) H H'→(cJ=fp∨∃b,cJ=some b∧H.size≤b∧b<H'.size)→K v' H'):
  fQ T size bytes z s x H K:=by
 obtain⟨hl,h⟩:=h
 have key:∀base c,s= .slice base n c→(∀b,base=some b→fp≠none)→fQ T size bytes z s x H K:=by
  intro base c hs aiB
  subst hs
  refine cI.rowOf hx (F:=fun m new=>(n+m≤c→m=0→K (.slice base n c) H)∧
   (n+m≤c→m≠0→tH base fun b o=>aA (ID (H.own b) (H.AH b)) fun l=>dt (o+(n+m)*size≤l.length∧gv new) (K (.slice base (n+m) c) (H.wr b (bf l (o+n*size) new))))∧
   (c<n+m→Builtin.nextslicecap (n+m) c*bytes≤2^48∧
    rowOf H size (.slice base n c) fun _ Q4=>∀c',n+m≤c'→K (.slice (some ⟨H.size,0,none⟩) (n+m) c') (H.new T (Q4++new++cz z (c' - (n+m)))))) ?_
  refine⟨fun mJ hm=>?_,fun mJ hm=>?_,fun aK=>⟨?_,?_⟩⟩
  ·subst hm
   have hy:ys=[]:=anL.1 (by have:=hx.1;omega)
   subst hy
   exact hk _ _ fp (by rw[an7];exact⟨by simpa using hl,h⟩) (ag.refl _ _) (.inl rfl)
  ·cases fp with
   |none=>
    obtain⟨rfl,hv⟩:=h
    injection hv with e1 e2 e3
    omega
   |some b=>
    obtain⟨l,c',hv,h2,h3,h4,h5⟩:=h
    injection hv with e1 e2 e3
    subst e1;subst e3
    show aA (ID (H.own b) (H.AH b)) _
    rw[h2]
    have h6:=aoF size mJ
    refine⟨⟨by omega,h1⟩,?_⟩
    rw[am9]
    refine hk _ _ (some b) ⟨by simp[hl,hx.1,aox],_,c,rfl,ai h2,mJ,by rw[jL];exact h4,?_⟩ ((ag.refl (fun x=>some b=some x) H).wr (fun _=>rfl) _) (.inl rfl)
    have:=KY (new:=ys) h5 hl (by rw[hx.1];rw[aox]at h6;omega)
    rw[hx.1]at this
    rw[aox];exact this
  ·have h2:Builtin.nextslicecap (n+m) c≤2*(n+m):=nextslicecap_le aK
   have h3:=aoF bytes h2
   rw[Nat.mul_assoc]at h3
   omega
  ·refine cI.rowOf (n:=n) (xs:=xs) (Sl.rd (fp:=fp) ⟨hl,h⟩) ?_
   intro c' HJ
   refine hk _ _ (some H.size) ⟨by simp[hl,hx.1,aox],_,c',rfl,ax _ _ _,HJ,?_,?_⟩ ((ag.refl _ _).new _ _) (.inr ⟨_,rfl,ano _,by rw[am];omega⟩)
   ·simp only[ank,hl,hx.1,Cs,hz]
    rw[←aox,←aox]
    exact Nat.le_of_eq (by congr 1;omega)
   ·rw[show(n+m)*size=(xs++ys).length by simp[hl,hx.1,aox]]
    exact List.take_left
 cases fp with
 |none=>exact key none 0 (by obtain⟨rfl,hv⟩:=h;exact hv) (fun b hb=>by cases hb)
 |some b=>
  obtain⟨l,c,hv,_⟩:=h
  exact key (some ⟨b,0,none⟩) c hv (fun _ _=>by simp)
theorem ui(l:List Value)(i n:Nat)(x:Value):(l.set i x).take n=(l.take n).set i x:=by
 apply an5
 intro k
 by_cases hk:k<n
 ·rw[anI hk]
  by_cases h:i=k
  ·subst h
   by_cases hl:i<l.length
   ·rw[ani hl,ani (by simp;omega)]
   ·rw[ans (by simp;omega),ans (by simp;omega)]
  ·rw[anh h,anh h,anI hk]
 ·rw[ans (by simp;omega),ans (by simp;omega)]
theorem Sl.sW{H:Hp}{n c s:Nat}{xs l:List Value}(h:Sl H 1 (.slice (some ⟨s,0,none⟩) n c) n xs (some s))(hl:H.own s=some l)(i:Nat)(x:Value):
  Sl (H.wr s (l.set i x)) 1 (.slice (some ⟨s,0,none⟩) n c) n (xs.set i x) (some s):=by
 obtain⟨h1,l',c',hv,h2,h3,h4,h5⟩:=h
 rw[hl]at h2
 injection h2 with h2
 subst h2
 injection hv with _ _ hc
 subst hc
 exact⟨by simpa using h1,_,c,rfl,ai hl,h3,by simpa using h4,by rw[ui,h5]⟩
theorem Sl.get{H:Hp}{n c s size:Nat}{xs l:List Value}(h:Sl H size (.slice (some ⟨s,0,none⟩) n c) n xs (some s))(hl:H.own s=some l){i:Nat}{x:Value}(hx:xs[i]? =some x):l[i]? =some x:=by
 obtain⟨h1,l',c',hv,h2,h3,h4,h5⟩:=h
 rw[hl]at h2
 injection h2 with h2
 subst h2
 rw[←h5,anP]at hx
 split at hx
 ·exact hx
 ·cases hx
def qI(es:List MapEntry)(i:Int):Option Value:=(es.find? fun e=>match e.key with| .int .i64 j=>i==j|_=>false).map (·.val)
def AA(es:List MapEntry):Prop:=∃ks:List Int,es.map (·.key)=ks.map (Value.int .i64)∧ks.Nodup
def kM(H:Hp)(b:Nat)(f:Int→Option Value):Prop:=∃es k,H.mp b=some (es,k)∧AA es∧∀i,qI es i=f i
theorem kM.new(H:Hp):kM H.gS H.size (fun _=>none):=⟨[],0,Iy H,⟨[],rfl,aoo⟩,fun _=>rfl⟩
theorem kM.ext{H H':Hp}{b:Nat}{f:Int→Option Value}{S:Nat→Prop}(h:kM H b f)(e:ag S H H')(hs:¬S b):kM H' b f:=by
 obtain⟨es,k,h1,h2⟩:=h
 exact⟨es,k,e.mp h1 hs,h2⟩
theorem kM.lt{H:Hp}{b:Nat}{f:Int→Option Value}(h:kM H b f):b<H.size:=by
 obtain⟨es,k,h1,h2⟩:=h
 exact NA h1
theorem fV(e:MapEntry)(es:List MapEntry)(j i:Int)(he:e.key= .int .i64 j):qI (e::es) i=if i=j then some e.val else qI es i:=by
 unfold qI
 rw[List.find?_cons]
 simp only[he]
 by_cases h:i=j
 ·simp[h]
 ·have:(i==j)=false:=by simpa using h
  rw[this,if_neg h]
theorem yA{e:MapEntry}{es:List MapEntry}(h:AA (e::es)):∃j,e.key= .int .i64 j∧AA es∧∀x∈es,x.key≠ .int .i64 j:=by
 obtain⟨ks,h1,h2⟩:=h
 cases ks with
 |nil=>simp at h1
 |cons j ks=>
  simp only[an3,List.cons.injEq]at h1
  rw[anu]at h2
  refine⟨j,h1.1,⟨ks,h1.2,h2.2⟩,fun x hx hk=>h2.1 ?_⟩
  have hm:x.key∈es.map (·.key):=anv.2 ⟨x,hx,rfl⟩
  rw[h1.2,hk]at hm
  obtain⟨y,hy,e⟩:=anv.1 hm
  injection e with _ e
  exact e▸hy
theorem Ca(i:Int):∀ (es:List MapEntry),AA es→∀n:Nat,
  (qI es i=none∧fL .int (.int .i64 i) es n=some none)∨
  ∃j e,es[j]? =some e∧e.key= .int .i64 i∧qI es i=some e.val∧fL .int (.int .i64 i) es n=some (some (n+j,e.val)):=by
 intro es
 induction es with
 |nil=>intro _ n;exact .inl ⟨rfl,rfl⟩
 |cons e es ih=>
  intro h n
  obtain⟨j,hj,Tz,aM⟩:=yA h
  have hq:mO .int (.int .i64 i) e.key=some (decide (i=j)):=by rw[hj];simp[mO,bc]
  by_cases I5:i=j
  ·subst I5
   refine .inr ⟨0,e,rfl,hj,by rw[fV e es i i hj,if_pos rfl],?_⟩
   unfold fL
   rw[hq];simp
  ·have h2:fL .int (.int .i64 i) (e::es) n=fL .int (.int .i64 i) es (n+1):=by
    rw[fL,hq,anD I5]
   have h3:qI (e::es) i=qI es i:=by rw[fV e es j i hj,if_neg I5]
   rw[h2,h3]
   rcases ih Tz (n+1)with ⟨h4,h5⟩| ⟨k,e',h4,h5,h6,h7⟩
   ·exact .inl ⟨h4,h5⟩
   ·exact .inr ⟨k+1,e',by simpa using h4,h5,h6,by rw[h7];congr 3;omega⟩
theorem kM.look{H:Hp}{b:Nat}{f:Int→Option Value}(h:kM H b f)(i:Int)(F:Option Value→Prop):wM H .int (some b) (.int .i64 i) F=F (f i):=by
 obtain⟨es,k,h1,h2,h3⟩:=h
 unfold wM
 simp only[h1,mE]
 rcases Ca i es h2 0 with ⟨h4,h5⟩| ⟨j,e,h4,h5,h6,h7⟩
 ·rw[h5,←h3 i,h4];rfl
 ·rw[h7,←h3 i,h6];rfl
def Ij(f:Int→Option Value)(i:Int)(v:Value):Int→Option Value:=fun j=>if j=i then some v else f j
def LL(f:Int→Option Value)(i:Int):Int→Option Value:=fun j=>if j=i then none else f j
theorem KZ(es:List MapEntry)(e:MapEntry)(i j:Int)(hj:e.key= .int .i64 j)(hn:qI es j=none):qI (es++[e]) i=if i=j then some e.val else qI es i:=by
 unfold qI at*
 rw[List.find?_append]
 by_cases h:i=j
 ·subst h
  have hx:(es.find? fun e=>match e.key with| .int .i64 j=>i==j|_=>false)=none:=by simpa using hn
  rw[hx]
  simp[hj]
 ·rw[if_neg h]
  have:([e].find? fun e=>match e.key with| .int .i64 j=>i==j|_=>false)=none:=by simp[hj,h]
  rw[this]
  simp
theorem Ps{es:List MapEntry}{i:Int}(h:qI es i=none):∀e∈es,e.key≠ .int .i64 i:=by
 intro e he hk
 unfold qI at h
 simp only[Option.map_eq_none_iff,List.find?_eq_none]at h
 have:=h e he
 simp[hk]at this
theorem IY{es:List MapEntry}(h:AA es)(j:Nat)(e:MapEntry)(hj:es[j]? =some e)(v:Value)(i:Int)(hk:e.key= .int .i64 i):
  AA (es.modify j fun x=>{x with key:=.int .i64 i,val:=v}):=by
 obtain⟨ks,h1,h2⟩:=h
 refine⟨ks,?_,h2⟩
 rw[←h1]
 apply an5
 intro n
 rw[anA,anA,List.getElem?_modify]
 by_cases hn:j=n
 ·subst hn;simp[hj,hk]
 ·simp[hn]
theorem K4:∀ (es:List MapEntry),AA es→∀ (j:Nat) (e:MapEntry) (v:Value) (i:Int),es[j]? =some e→e.key= .int .i64 i→∀n,
  qI (es.modify j fun x=>{x with key:=.int .i64 i,val:=v}) n=if n=i then some v else qI es n:=by
 intro es
 induction es with
 |nil=>intro _ j e v i hj;simp at hj
 |cons x es ih=>
  intro h j e v i hj hk n
  obtain⟨q,hq,Tz,aM⟩:=yA h
  cases j with
  |zero=>
   simp only[anG,anl]at hj
   subst hj
   have:q=i:=by rw[hq]at hk;injection hk
   subst this
   rw[List.modify_zero_cons,fV _ es q n rfl,fV x es q n hq]
   split<;>rfl
  |succ j=>
   rw[List.modify_succ_cons,fV x _ q n hq,fV x es q n hq,ih Tz j e v i (by simpa using hj) hk n]
   by_cases h1:n=q
   ·subst h1
    have hm:e∈es:=ang (by simpa using hj)
    have:n≠i:=fun e'=>aM e hm (by rw[hk,e'])
    simp[this]
   ·simp[h1]
theorem M0:∀ (es:List MapEntry),AA es→∀ (j:Nat) (e:MapEntry) (i:Int),es[j]? =some e→e.key= .int .i64 i→AA (es.eraseIdx j)∧∀n,qI (es.eraseIdx j) n=if n=i then none else qI es n:=by
 intro es
 induction es with
 |nil=>intro _ j e i hj;simp at hj
 |cons x es ih=>
  intro h j e i hj hk
  have h':=h
  obtain⟨q,hq,Tz,aM⟩:=yA h
  cases j with
  |zero=>
   simp only[anG,anl]at hj
   subst hj
   have:q=i:=by rw[hq]at hk;injection hk
   subst this
   refine⟨Tz,fun n=>?_⟩
   rw[List.eraseIdx_zero,List.tail_cons,fV x es q n hq]
   by_cases hn:n=q
   ·subst hn
    rw[if_pos rfl]
    unfold qI
    simp only[Option.map_eq_none_iff,List.find?_eq_none]
    intro e' im
    obtain⟨ks,h1,_⟩:=Tz
    have hm:e'.key∈es.map (·.key):=anv.2 ⟨e',im,rfl⟩
    rw[h1]at hm
    obtain⟨y,_,ey⟩:=anv.1 hm
    have:=aM e' im
    rw[←ey]at this ⊢
    simp only[beq_iff_eq]
    intro e2
    exact this (by rw[e2])
   ·simp[hn]
  |succ j=>
   obtain⟨h1,h2⟩:=ih Tz j e i (by simpa using hj) hk
   have hm:e∈es:=ang (by simpa using hj)
   have hqi:q≠i:=fun e'=>aM e hm (by rw[hk,e'])
   refine⟨?_,fun n=>?_⟩
   ·obtain⟨ks,e1,e2⟩:=h1
    refine⟨q::ks,by rw[List.eraseIdx_cons_succ,an3,an3,hq,e1],?_⟩
    rw[anu]
    refine⟨fun bF=>?_,e2⟩
    have:Value.int .i64 q∈(es.eraseIdx j).map (·.key):=by rw[e1];exact anv.2 ⟨q,bF,rfl⟩
    obtain⟨y,hy,ey⟩:=anv.1 this
    exact aM y (List.mem_of_mem_eraseIdx hy) ey
   ·rw[List.eraseIdx_cons_succ,fV x _ q n hq,fV x es q n hq,h2 n]
    by_cases h3:n=q
    ·subst h3;simp[hqi]
    ·simp[h3]
theorem IZ(n:Nat)(i:Int):Instr.sameBits (n+1) (.int .i64 i) (.int .i64 i)=true:=by simp[Instr.sameBits]
theorem kM.XV{H:Hp}{b:Nat}{f:Int→Option Value}(h:kM H b f){i:Int}{v:Value}{F:Hp→Prop}(hk:∀H',kM H' b (Ij f i v)→ag (fun x=>x=b) H H'→F H'):
  QU H .int b (.int .i64 i) v F:=by
 obtain⟨es,k,h1,h2,h3⟩:=h
 unfold QU
 simp only[h1,mE]
 have r7:∀UL k',ag (fun x=>x=b) H (H.Ch b UL k'):=fun UL k'=>(ag.refl (fun x=>x=b) H).Ch (fun _=>rfl) _ _
 rcases Ca i es h2 0 with ⟨h4,h5⟩| ⟨j,e,h4,h5,h6,h7⟩
 ·rw[h5]
  refine⟨rfl,hk _ ⟨_,_,kB h1,?_,fun n=>?_⟩ (r7 _ _)⟩
  ·obtain⟨ks,e1,e2⟩:=h2
   refine⟨ks++[i],by simp[Kk,e1],?_⟩
   rw[anW]
   refine⟨e2,by simp,fun a ha c hc RR=>?_⟩
   simp only[anj]at hc
   subst hc;subst RR
   have:Value.int .i64 a∈es.map (·.key):=by rw[e1];exact anv.2 ⟨a,ha,rfl⟩
   obtain⟨y,hy,ey⟩:=anv.1 this
   exact Ps h4 y hy ey
  ·rw[Kk,KZ es _ n i rfl h4]
   unfold Ij
   split<;>first|rfl|exact h3 n
 ·rw[h7]
  refine⟨?_,hk _ ⟨_,_,kB h1,IY h2 _ e (by simpa using h4) _ _ h5,fun n=>?_⟩ (r7 _ _)⟩
  ·simp only[DA,am9,h4,Option.map_some,Option.getD_some,h5]
   exact IZ 9999 i
  ·rw[Kk,am9,K4 es h2 j e v i h4 h5 n]
   unfold Ij
   split<;>first|rfl|exact h3 n
theorem kM.del{H:Hp}{b:Nat}{f:Int→Option Value}(h:kM H b f){i:Int}{F:Hp→Prop}(hk:∀H',kM H' b (LL f i)→ag (fun x=>x=b) H H'→F H'):
  W8 H .int b (.int .i64 i) F:=by
 obtain⟨es,k,h1,h2,h3⟩:=h
 unfold W8
 simp only[h1,mE]
 have r7:∀UL k',ag (fun x=>x=b) H (H.Ch b UL k'):=fun UL k'=>(ag.refl (fun x=>x=b) H).Ch (fun _=>rfl) _ _
 rcases Ca i es h2 0 with ⟨h4,h5⟩| ⟨j,e,h4,h5,h6,h7⟩
 ·rw[h5]
  refine hk _ ⟨_,_,kB h1,h2,fun n=>?_⟩ (r7 _ _)
  rw[Fa,h3 n]
  unfold LL
  by_cases hn:n=i
  ·subst hn;rw[if_pos rfl,←h3 n];exact h4
  ·rw[if_neg hn]
 ·rw[h7]
  obtain⟨e1,e2⟩:=M0 es h2 j e i h4 h5
  refine hk _ ⟨_,_,kB h1,by rw[Fa,am9];exact e1,fun n=>?_⟩ (r7 _ _)
  rw[Fa,am9,e2 n]
  unfold LL
  split<;>first|rfl|exact h3 n
end Go.Vc

namespace Go.Vc
section
variable {P : Program} {ev : Ev} {H : Hp} {K K' : Value → Hp → Prop}
theorem M1{s:Shape}{r:Option Nat}{k:Value}{F G:Option Value→Prop}(h:wM H s r k F)(hk:∀x,F x→G x):wM H s r k G:=by
 unfold wM at*
 cases r with
 |none=>exact hk _ h
 |some b=>exact aj h fun m h=>aj h fun x=>hk _
theorem I0{T size bytes:Nat}{z:List Value}{s x:Value}(h:fQ T size bytes z s x H K)(hk:∀v H',K v H'→K' v H'):fQ T size bytes z s x H K':=by
 refine kI h fun base n c h=>yz h fun m new h=>?_
 obtain⟨h1,h2,h3⟩:=h
 exact⟨fun a b=>hk _ _ (h1 a b),fun a b=>yy (h2 a b) fun b o h=>aj h fun l h=>bI h (hk _ _),fun a=>⟨(h3 a).1,yz (h3 a).2 fun n l h c' hc=>hk _ _ (h c' hc)⟩⟩
theorem Fu(i:c7)(h:i.vc P ev H K)(hk:∀v H',K v H'→K' v H'):i.vc P ev H K':=by
 cases hc:i.cls with
 |pure=>exact NM i hc h hk
 |quiet=>
  cases i<;>simp[c7.cls]at hc<;>simp only[c7.vc]at h ⊢
  ·exact aj h fun v h=>oZ h fun b o h=>aj h fun l h=>aj h fun v=>hk _ _
  ·exact aj h fun v h=>oZ h fun b o h=>aj h fun l h=>bI h (hk _ _)
  ·exact aj h fun v h=>aj h fun v h=>uB h fun r h=>bI h fun h=>M1 h fun x=>hk _ _
  ·refine aj h fun v h=>uB h fun r h=>?_
   unfold KG at*
   cases r with
   |none=>exact hk _ _ h
   |some b=>exact aj h fun m=>hk _ _
  ·exact aj h fun v h=>Cy h fun l=>hk _ _
 |Gj=>
  cases i<;>simp[c7.cls]at hc<;>simp only[c7.vc]at h ⊢
  ·exact aj h fun v=>hk _ _
  ·exact hk _ _ h
  ·exact Fq h fun l=>hk _ _
  ·exact aj h fun v h=>oZ h fun b o h=>aj h fun v h=>aj h fun l h=>bI h fun h=>bI h fun h=>bI h (hk _ _)
  ·exact hk _ _ h
  ·exact aj h fun v h=>aj h fun v h=>jI h fun n h=>jI h fun c h=>bI h (hk _ _)
  ·exact aj h fun v h=>aj h fun v h=>aj h fun v h=>uB h fun r h=>aj h fun b h=>bI h fun h=>aj h fun es h=>aj h fun x h=>bI h (hk _ _)
  ·exact kH h fun l h=>af.mono h hk
  ·refine aj h fun v h=>kH h fun l h=>?_
   unfold Xa at*
   split at h
   ·exact⟨h.1,h.2.mono hk⟩
   ·exact h.elim
  ·refine aj h fun v h=>kH h fun l h=>?_
   obtain⟨T,v,f,rv,e,hm,hc⟩:=h
   exact⟨T,v,f,rv,e,hm,hc.mono hk⟩
  ·exact aj h fun v h=>aj h fun v h=>I0 h hk
  ·exact aj h fun v h=>aj h fun v h=>uB h fun r h=>aj h fun b h=>bI h fun h=>aj h fun es h=>aj h fun x=>hk _ _
  ·exact aj h fun v h=>kI h fun a n c h=>by
    rcases h with ⟨h1,h2⟩| ⟨h1,b,o,l,h2,h3,h4,h5,h6⟩
    ·exact .inl ⟨h1,hk _ _ h2⟩
    ·exact .inr ⟨h1,b,o,l,h2,h3,h4,h5,hk _ _ h6⟩
  ·refine aj h fun v h=>?_
   unfold jd at*
   split at h
   ·exact fun c hc=>hk _ _ (h c hc)
   ·exact h.elim
  ·exact kH h fun l h=>by obtain⟨v,h1,h2⟩:=h;exact⟨v,h1,hk _ _ h2⟩
theorem K5(s:jn)(h:s.vc P ev H K)(hk:∀v H',K v H'→K' v H'):s.vc P ev H K':=by
 unfold jn.vc at*
 cases hq:s.quiet
 ·rw[hq]at h;exact Fu s.op h hk
 ·rw[hq]at h;obtain⟨v,h1,h2⟩:=h;exact⟨v,h1,hk _ _ h2⟩
theorem NO{o:Option Value}{F F':Bool→Prop}{N N':Prop}(h:gV o F N)(hf:∀b,F b→F' b)(hn:N→N'):gV o F' N':=by
 rcases DC h with ⟨b,rfl,h⟩| ⟨vs,rfl,h⟩
 ·exact hf b h
 ·exact hn h
theorem AB{b:Bool}{A A' B B':Prop}(h:E8 b A B)(ha:A→A')(hb:B→B'):E8 b A' B':=by
 cases b
 ·exact hb h
 ·exact ha h
theorem M2{F F':Env→Hp→Prop}(hk:∀e H,F e H→F' e H):∀ (l:List jn) (env:Env) (H:Hp),iy P F l env H→iy P F' l env H:=by
 intro l
 induction l with
 |nil=>intro env H h;exact hk _ _ h
 |cons s l ih=>
  intro env H h
  unfold iy at h ⊢
  cases hg:s.guard with
  |none=>rw[hg]at h;exact K5 s h fun v H'=>ih _ _
  |some g=>
   rw[hg]at h
   exact NO h (fun b h=>AB h (fun h=>K5 s h fun v H'=>ih _ _) (ih _ _)) (ih _ _)
theorem Cb{s:jn}{env:Env}{F F' N N':Env→Prop}(h:Az s env F N)(hf:∀e,F e→F' e)(hn:∀e,N e→N' e):Az s env F' N':=by
 unfold Az at*
 cases hg:s.guard with
 |none=>rw[hg]at h;exact hf _ h
 |some g=>rw[hg]at h;exact NO h (fun b h=>AB h (hf _) (hn _)) (hn _)
theorem RP{Inv:Hp→Prop}{F F':Env→Hp→Prop}(hk:∀e H,F e H→F' e H):∀ (t:RN) (env:Env) (H:Hp),B9 P Inv F t env H→B9 P Inv F' t env H:=by
 intro t
 induction t with
 |done=>intro env H h;exact hk _ _ h
 |stop=>intro env H h;trivial
 |pur s t ih=>intro env H h;exact Cb h (fun e h=>Fu s.op h fun v H'=>ih _ _) (fun e=>ih _ _)
 |stb s t ih=>intro env H h;exact Cb h (fun e h=>by obtain⟨v,h1,h2⟩:=h;exact⟨v,h1,ih _ _ h2⟩) (fun e=>ih _ _)
 |zG s t r ih Zw=>intro env H h;exact⟨Cb h.1 (fun e h=>Fu s.op h fun v H' h=>bI h (ih _ _)) (fun e=>ih _ _),Zw _ _ h.2⟩
theorem Ct:∀ (s:S) (env:Env) (H:Hp) (Kn PF:Env→Hp→Prop) (Kx PG:Nat→Env→Hp→Prop) (Kr PH:Env→Hp→Prop),(∀e H,Kn e H→PF e H)→(∀i e H,Kx i e H→PG i e H)→(∀e H,Kr e H→PH e H)→
  vc P s env H Kn Kx Kr→vc P s env H PF PG PH:=by
 intro s
 induction s with
 |skip=>intro env H Kn PF Kx PG Kr PH hn hx hr h;exact hn _ _ h
 |reg ops aI=>intro env H Kn PF Kx PG Kr PH hn hx hr h;exact M2 (fun e H h=>hn _ _ h) ops env H h
 |TU t aI=>intro env H Kn PF Kx PG Kr PH hn hx hr h;obtain⟨Inv,hI,h⟩:=h;exact⟨Inv,hI,RP (fun e H h=>hn _ _ h) t env H h⟩
 |seq a b iha ihb=>intro env H Kn PF Kx PG Kr PH hn hx hr h;exact iha env H _ _ _ _ _ _ (fun e H h=>ihb e H _ _ _ _ _ _ hn hx hr h) hx hr h
 |cond c x y ihx ihy=>
  intro env H Kn PF Kx PG Kr PH hn hx hr h
  simp only[vc]at*
  unfold Fs at*
  split at h
  ·exact Fp h fun b h=>AB h (ihx _ _ _ _ _ _ _ _ hn hx hr) (ihy _ _ _ _ _ _ _ _ hn hx hr)
  ·exact h.elim
 |Sa id b ih=>intro env H Kn PF Kx PG Kr PH hn hx hr h;exact ih env H _ _ _ _ _ _ hn (fun i e H h=>AB h (hn _ _) (hx _ _ _)) hr h
 |loop L b ih=>
  intro env H Kn PF Kx PG Kr PH hn hx hr h
  obtain⟨I,h0,round⟩:=h
  exact⟨I,h0,fun m env H hI=>ih env H _ _ _ _ _ _ (fun e H h=>h) hx hr (round m env H hI)⟩
 |exit id=>intro env H Kn PF Kx PG Kr PH hn hx hr h;exact hx _ _ _ h
 |ret=>intro env H Kn PF Kx PG Kr PH hn hx hr h;exact hr _ _ h
 |bad=>intro env H Kn PF Kx PG Kr PH hn hx hr h;exact h.elim
def ab5(a b:S):S:=.seq a b
theorem Tv(a b:S)(env:Env)(H:Hp)(Kn:Env→Hp→Prop)(Kx:Nat→Env→Hp→Prop)(Kr:Env→Hp→Prop):vc P (ab5 a b) env H Kn Kx Kr=vc P a env H (fun aR H'=>vc P b aR H' Kn Kx Kr) Kx Kr:=rfl
theorem Ma{a b:S}{env:Env}{H:Hp}{Kn:Env→Hp→Prop}{Kx:Nat→Env→Hp→Prop}{Kr:Env→Hp→Prop}(M:Env→Hp→Prop)(h1:vc P a env H M Kx Kr)(h2:∀e H',M e H'→vc P b e H' Kn Kx Kr):vc P (ab5 a b) env H Kn Kx Kr:=
 Ct a env H _ _ _ _ _ _ h2 (fun _ _ _ h=>h) (fun _ _ h=>h) h1
end
end Go.Vc

namespace Go.Vc
def I1(P:Program)(T:TypeId)(name:String):Option (List FieldStep×Option (FuncId×Bool)):=
 ((P.info? T).bind fun i=>i.methods.find? (·.name==name)).map fun m=>(m.path.toList,m.func)
theorem tT{P:Program}{T:TypeId}{name:String}{p:List FieldStep}{f:Option (FuncId×Bool)}(h:I1 P T name=some (p,f)):
  ∃i m,P.info? T=some i∧i.methods.find? (·.name==name)=some m∧m.path.toList=p∧m.func=f:=by
 unfold I1 at h
 cases hi:P.info? T with
 |none=>rw[hi]at h;cases h
 |some i=>
  rw[hi]at h
  simp only[Option.bind_some]at h
  cases hm:i.methods.find? (·.name==name)with
  |none=>rw[hm]at h;cases h
  |some m=>
   rw[hm]at h
   simp only[Option.map_some,anl,Prod.mk.injEq]at h
   exact⟨i,m,rfl,hm,h.1,h.2⟩
def UQ(P:Program)(T:TypeId)(name:String):Option FuncId:=
 match I1 P T name,P.underlying T with
 |some ([],some (f,true)),some (.pointer _)=>if ee P f then some f else none
 |_,_=>none
theorem bv{P:Program}{H:Hp}{T:TypeId}{v:Value}{name:String}{f:FuncId}(h:UQ P T name=some f):Ry P H T v name f v:=by
 unfold UQ at h
 split at h
 ·rename_i f' e h1 hu
  split at h
  ·rename_i hc
   injection h with h
   subst h
   refine⟨hc,fun w hw=>?_⟩
   obtain⟨i,m,g1,g2,g3,g4⟩:=tT h1
   show(method ((P.types.size+99)+1) T v name).run P w=_
   unfold method
   simp[dQ g1,g2,g3,g4,follow,receiverAt,run_underlying hu,Place.get]
  ·cases h
 ·cases h
def NP(P:Program)(T:TypeId)(name:String):Option (Nat×FuncId):=
 match I1 P T name with
 |some ([s],some (f,true))=>
  match s.deref,P.underlying s.struct with
  |true,some (.struct fs)=>
   match fs[s.index]? with
   |some fd=>match P.underlying fd.type with
    |some (.pointer _)=>if(P.info? fd.type).isSome∧P.cellsOf fd.type≠0∧ee P f=true then some (fd.offset,f)else none
    |_=>none
   |none=>none
  |_,_=>none
 |_=>none
theorem Dr{P:Program}{fd:Field}(hi:(P.info? fd.type).isSome=true)(h0:P.cellsOf fd.type≠0)(a:Addr)(w:World):(fieldPlace a fd).run P w= .ok (a.add fd.offset) w:=by
 simp[fieldPlace,bG hi,h0]
theorem fI{P:Program}{H:Hp}{T:TypeId}{b o off:Nat}{l:List Value}{rv:Value}{name:String}{f:FuncId}(h:NP P T name=some (off,f))(hr:H.rd b=some l)(hv:l[o+off]? =some rv):
  Ry P H T (.pointer (some ⟨b,o,none⟩)) name f rv:=by
 unfold NP at h
 split at h
 ·rename_i s f' h1
  split at h
  ·rename_i fs hd hs
   split at h
   ·rename_i fd hf
    split at h
    ·rename_i e hu
     split at h
     ·rename_i hc
      simp only[anl,Prod.mk.injEq]at h
      obtain⟨rfl,rfl⟩:=h
      refine⟨hc.2.2,fun w hw=>?_⟩
      subst hw
      obtain⟨i,m,g1,g2,g3,g4⟩:=tT h1
      have hus:(P.underlying fd.type).isSome=true:=by rw[hu];rfl
      have hag:eE P fd.type=false:=by unfold eE;rw[hu]
      have ab6:=(je (P:=P) (w:=w) (t:=fd.type) hc.1 hus hr).2 hag rv hv
      show(method ((P.types.size+99)+1) T _ name).run P w=_
      unfold method
      simp[dQ g1,g2,g3,g4,follow,run_underlying hs,hf,hd,Place.get,asAddr,Dr hc.1 hc.2.1,receiverAt,run_underlying hu,xS,ab6]
     ·cases h
    ·cases h
   ·cases h
  ·cases h
 ·cases h
theorem ZX{P:Program}{T:TypeId}{a:Addr}{name:String}{x:Nat×FuncId}{cap:Array Value}(h:NP P T name=some x):Ow P (.func (.method name) #[.iface T (.pointer (some a))] cap):=by
 unfold NP at h
 split at h
 ·rename_i s f' h1
  split at h
  ·rename_i fs hd hs
   split at h
   ·rename_i fd hf
    refine .inr ⟨name,T,_,cap,rfl,fun w=>?_⟩
    obtain⟨i,m,g1,g2,g3,g4⟩:=tT h1
    show(nilAhead ((P.types.size+99)+1) T _ name).run P w=_
    unfold nilAhead
    simp[dQ g1,g2,g3,g4,followBlind,run_underlying hs,hf,hd]
   ·cases h
  ·cases h
 ·cases h
theorem gC.mono{P:Program}{recv:Value}{name:String}{args:List Value}{H:Hp}{K K':Value→Hp→Prop}(h:gC P recv name args H K)(hk:∀v H',K v H'→K' v H'):gC P recv name args H K':=by
 obtain⟨T,v,f,rv,h1,h2,h3⟩:=h
 exact⟨T,v,f,rv,h1,h2,h3.mono hk⟩
end Go.Vc

namespace Go.Vc
end Go.Vc
