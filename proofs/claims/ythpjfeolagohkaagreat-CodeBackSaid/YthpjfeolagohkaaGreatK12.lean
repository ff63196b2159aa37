/- Texts put behind each other. -/
import Derived.Test.YthpjfeolagohkaaGreatK98
import Derived.Test.YthpjfeolagohkaaGreatK11
set_option maxRecDepth 100000
set_option maxHeartbeats 8000000
set_option linter.unusedVariables false
set_option linter.unusedSimpArgs false
namespace Go.Vc
abbrev tt(n:Nat):Operand:=.tmp n
abbrev ki(n:Int):Operand:=.const (.int .i64 n)
abbrev kb(b:Bool):Operand:=.const (.bool b)
abbrev s1(d:Nat)(op:de):gO:=⟨false,none,some d,op⟩
abbrev s0(op:de):gO:=⟨false,none,none,op⟩
abbrev sg(g:Nat)(w:Bool)(d:Nat)(op:de):gO:=⟨false,some (g,w),some d,op⟩
abbrev sq(d:Nat)(op:de):gO:=⟨true,none,some d,op⟩
inductive S where
 |skip
 |ci(ops:List gO)(aG:List Nat)
 |tO(t:GY)(aG:List Nat)
 |seq(a b:S)
 |cond(c:Operand)(x y:S)
 |Hc(id:Nat)(b:S)
 |loop(ahV:List Nat)(b:S)
 |exit(id:Nat)
 |ret
 |bad
 deriving Inhabited
def aS(F:Env→Hp→(Env→Hp→Prop)→Prop)(env:Env)(H:Hp)(_t:Tag F:=⟨⟩):Prop:=
 ∃I:Nat→Env→Hp→Prop,(∃m,I m env H)∧∀m env H,I m env H→F env H fun aU H'=>∃m',m'<m∧I m' aU H'
theorem aS.intro{F:Env→Hp→(Env→Hp→Prop)→Prop}{env:Env}{H:Hp}(I:Nat→Env→Hp→Prop)(m:Nat)(h0:I m env H)
  (round:∀m env H,I m env H→F env H fun aU H'=>∃m',m'<m∧I m' aU H'):aS F env H:=⟨I,⟨m,h0⟩,round⟩
def vc(P:Program):S→Env→Hp→(Env→Hp→Prop)→(Nat→Env→Hp→Prop)→(Env→Hp→Prop)→Prop
 | .skip,env,H,Kn,_,_=>Kn env H
 | .ci ops aG,env,H,Kn,_,_=>gY P (fun aU H'=>now (Env.aG aU aG) fun e=>Kn e H') ops env H
 | .tO t aG,env,H,Kn,_,_=>oC H fun Inv=>B3 P Inv (fun aU H'=>now (Env.aG aU aG) fun e=>Kn e H') t env H
 | .seq a b,env,H,Kn,Kx,Kr=>vc P a env H (fun aU H'=>vc P b aU H' Kn Kx Kr) Kx Kr
 | .cond c x y,env,H,Kn,Kx,Kr=>Fq (Env.ev env c) fun t=>DV t (vc P x env H Kn Kx Kr) (vc P y env H Kn Kx Kr)
 | .Hc id b,env,H,Kn,Kx,Kr=>vc P b env H Kn (fun i aU H'=>DV (i==id) (Kn aU H') (Kx i aU H')) Kr
 | .loop L b,env,H,_,Kx,Kr=>aS (fun aU H' again=>vc P b aU H' (fun e h=>again (Env.aG e L) h) Kx Kr) (Env.aG env L) H
 | .exit id,env,H,_,Kx,_=>Kx id env H
 | .ret,env,H,_,_,Kr=>Kr env H
 | .bad,_,_,_,_,_=>False
section
variable (P : Program) (env : Env) (H : Hp) (Kn : Env → Hp → Prop) (Kx : Nat → Env → Hp → Prop) (Kr : Env → Hp → Prop)
@[go_sem ↓] theorem Uo:vc P .skip env H Kn Kx Kr=Kn env H:=(rfl)
@[go_sem ↓] theorem afi(ops:List gO)(aG:List Nat):vc P (.ci ops aG) env H Kn Kx Kr=gY P (fun aU H'=>now (Env.aG aU aG) fun e=>Kn e H') ops env H:=(rfl)
@[go_sem ↓] theorem adQ(t:GY)(aG:List Nat):vc P (.tO t aG) env H Kn Kx Kr=oC H fun Inv=>B3 P Inv (fun aU H'=>now (Env.aG aU aG) fun e=>Kn e H') t env H:=(rfl)
@[go_sem ↓] theorem Xs(a b:S):vc P (.seq a b) env H Kn Kx Kr=vc P a env H (fun aU H'=>vc P b aU H' Kn Kx Kr) Kx Kr:=(rfl)
@[go_sem ↓] theorem Up(c:Operand)(x y:S):vc P (.cond c x y) env H Kn Kx Kr=Fq (Env.ev env c) fun t=>DV t (vc P x env H Kn Kx Kr) (vc P y env H Kn Kx Kr):=(rfl)
@[go_sem ↓] theorem Xt(id:Nat)(b:S):vc P (.Hc id b) env H Kn Kx Kr=vc P b env H Kn (fun i aU H'=>DV (i==id) (Kn aU H') (Kx i aU H')) Kr:=(rfl)
@[go_sem ↓] theorem adR(L:List Nat)(b:S):vc P (.loop L b) env H Kn Kx Kr=aS (fun aU H' again=>vc P b aU H' (fun e h=>again (Env.aG e L) h) Kx Kr) (Env.aG env L) H:=(rfl)
@[go_sem ↓] theorem adS(id:Nat):vc P (.exit id) env H Kn Kx Kr=Kx id env H:=(rfl)
@[go_sem ↓] theorem afj:vc P .bad env H Kn Kx Kr=False:=(rfl)
@[go_sem ↓] theorem afk:vc P .ret env H Kn Kx Kr=Kr env H:=(rfl)
end
attribute [go_sem] cond_true cond_false
abbrev GZ:=List Nat×List Nat×List Nat
def Jl:Nat→List Nat→Option (Ot×List Nat)
 |0,_=>none
 |_+1,0::r=>some (.done,r)
 |f+1,1::i::r=>match Jl f r with
  |some (t,r)=>some (.step i t,r)
  |none=>none
 |f+1,2::i::r=>match Jl f r with
  |some (t,r)=>match Jl f r with
   |some (u,r)=>some (.bc i t u,r)
   |none=>none
  |none=>none
 |_+1,3::r=>some (.stop,r)
 |_+1,_=>none
def sH(P:Program)(n:Nat):Code→List GZ→Option (S×List GZ)
 | .skip,an=>some (.skip,an)
 | .region _ ops draw,an=>
  match an with
  | []=>none
  | (aG,q,x::tr)::an=>
   match gP P n ops q 0 ops.toList with
   |none=>none
   |some ss=>
    match Jl (tr.length+2) (x::tr)with
    |some (t,[])=>
     if draw=true∧zU ops (Region.before ops)=true∧TS ops (Region.before ops) (Lb ss) t (Array.replicate ops.size false) []=true∧Region.noSelect ops=true then(attach ss t).map fun ts=>(.tO ts aG,an)else none
    |_=>none
  | (aG,q,[])::an=>
   match gP P n ops q 0 ops.toList with
   |none=>none
   |some ss=>
    if draw=false∨(zU ops (Region.before ops)=true∧zV ops (Region.before ops) (RY ss)=true∧Region.noSelect ops=true)then some (.ci ss aG,an)else none
 | .seq a b,an=>
  match sH P n a an with
  |none=>none
  |some (x,an)=>match sH P n b an with
   |none=>none
   |some (y,an)=>some (.seq x y,an)
 | .cond c a b,an=>
  match sH P n a an with
  |none=>none
  |some (x,an)=>match sH P n b an with
   |none=>none
   |some (y,an)=>some (.cond c x y,an)
 | .block id a,an=>match sH P n a an with
  |none=>none
  |some (x,an)=>some (.Hc id x,an)
 | .loop a,an=>
  match an with
  | []=>none
  | (L,_,_)::an=>match sH P n a an with
   |none=>none
   |some (x,an)=>some (.loop L x,an)
 | .exit id,an=>some (.exit id,an)
 | .ret,an=>some (.ret,an)
 | .refuse _,an=>some (.bad,an)
 |_,_=>none
theorem wp_loop_ghost{P:Program}{Q:Exit→Act→World→Prop}{a:Act}{w:World}{c:Code}(I:Nat→Act→World→Prop){m:Nat}(h₀:I m a w)
  (round:∀m a w,I m a w→c.wp P (Exit.then (fun a' w'=>∃m',m'<m∧I m' a' w') Q) a w):(Code.loop c).wp P Q a w:=by
 intro b k cs
 have key:∀n a w,I n a w→∃e a' w',Q e a' w'∧Arrives P (lone (b.at a (.code c:: .inLoop c::k)) cs w) b k cs e a' w':=by
  intro n
  induction n using Nat.strongRecOn with
  |_ n ih=>
   intro a w hI
   obtain⟨e,a₁,w₁,hq,Ld⟩:=round n a w hI b (.inLoop c::k) cs
   cases e with
   |normal=>
    obtain⟨m',aK,hI₁⟩:=hq
    obtain⟨e₂,a₂,w₂,hq₂,aa9⟩:=ih m' aK a₁ w₁ hI₁
    exact⟨e₂,a₂,w₂,hq₂,.of_steps (Steps.trans Ld (.one step_inLoop)) aa9⟩
   |exit id=>exact⟨_,a₁,w₁,hq,.pass (x:=.inLoop c) rfl (fun _ _=>.inl (by simp)) Ld⟩
   |goto l=>exact⟨_,a₁,w₁,hq,.pass (x:=.inLoop c) rfl (fun _ _=>.inl (by simp)) Ld⟩
   |ret=>exact⟨_,a₁,w₁,hq,.pass (x:=.inLoop c) rfl (fun _ _=>.inl (by simp)) Ld⟩
   |panic ch=>exact⟨_,a₁,w₁,hq,.pass (x:=.inLoop c) rfl (fun _ _=>.inl (by simp)) Ld⟩
   |outgrown=>exact⟨_,a₁,w₁,hq,.pass (x:=.inLoop c) rfl (fun _ _=>.inl (by simp)) Ld⟩
 obtain⟨e,a',w',hq,Ld⟩:=key _ a w h₀
 exact⟨e,a',w',hq,.of_steps (.one step_loop) Ld⟩
theorem Le{P:Program}{n:Nat}(hm:P.follows .mixedOrders=true):∀ (c:Code) (an:List GZ) (s:S) (R2:List GZ),sH P n c an=some (s,R2)→
  ∀ (env:Env) (a:Act) (w:World) (Kn:Env→Hp→Prop) (Kx:Nat→Env→Hp→Prop) (Kr:Env→Hp→Prop) (Q:Exit→Act→World→Prop),Holds env a n→vc P s env w.heap Kn Kx Kr→
   (∀aU a' w',bW w w'→Holds aU a' n→Kn aU w'.heap→Q .normal a' w')→
   (∀i aU a' w',bW w w'→Holds aU a' n→Kx i aU w'.heap→Q (.exit i) a' w')→
   (∀aU a' w',bW w w'→Holds aU a' n→Kr aU w'.heap→Q .ret a' w')→c.wp P Q a w:=by
 intro c
 induction c with
 |skip=>
  intro an s R2 hd env a w Kn Kx Kr Q hh h hn hx hr
  simp only[sH,aoz,Prod.mk.injEq]at hd
  obtain⟨rfl,rfl⟩:=hd
  exact wp_skip (hn env a w (bW.refl w) hh h)
 |region id ops draw=>
  intro an s R2 hd env a w Kn Kx Kr Q hh h hn hx hr
  unfold sH at hd
  split at hd
  ·cases hd
  ·rename_i aG q x tr an0
   split at hd
   ·cases hd
   ·rename_i ss hss
    split at hd
    ·rename_i t ht
     split at hd
     ·rename_i hc
      obtain⟨rfl,h1,h2,h3⟩:=hc
      cases VX:attach ss t with
      |none=>rw[VX]at hd;cases hd
      |some ts=>
       rw[VX]at hd
       simp only[Option.map_some,aoz,Prod.mk.injEq]at hd
       obtain⟨rfl,rfl⟩:=hd
       have hl:∀k,ops.toList[k]? =ops[0+k]? :=fun k=>by simp
       have hQ:∀a' w',bW w w'→(∃aU,Holds aU a' n∧Kn (Env.aG aU aG) w'.heap)→Q .normal a' w':=fun a' w' hs ⟨aU,nV,hk⟩=>hn _ a' w' hs (nV.aG aG) hk
       have bQ:=Nd (P:=P) (ops:=ops) (n:=n) ops.toList 0 ss hl hss
       obtain⟨Inv,hI,h⟩:=h
       have h4:=Lc (P:=P) (ops:=ops) (n:=n) (q:=q) (Inv:=Inv) (ss:=ss) (fun k s hk=>by have:=bQ k s hk;simpa using this) t ts VX env a w.heap hh h
       exact Ft (K:=fun a' H'=>∃aU,Holds aU a' n∧Kn (Env.aG aU aG) H') hm h1 h2 h3 hI hQ (by simpa[Nf]using h4)
     ·cases hd
    ·cases hd
  ·rename_i aG q an0
   split at hd
   ·cases hd
   ·rename_i ss hss
    split at hd
    ·rename_i aba
     simp only[aoz,Prod.mk.injEq]at hd
     obtain⟨rfl,rfl⟩:=hd
     have hl:∀k,ops.toList[k]? =ops[0+k]? :=fun k=>by simp
     have hQ:∀a' w',bW w w'→(∃aU,Holds aU a' n∧Kn (Env.aG aU aG) w'.heap)→Q .normal a' w':=fun a' w' hs ⟨aU,nV,hk⟩=>hn _ a' w' hs (nV.aG aG) hk
     cases draw with
     |false=>
      have h1:=Nb (P:=P) (ops:=ops) (n:=n) ops.toList 0 ss hl hss env a w.heap hh h
      refine Fu (K:=fun a' H'=>∃aU,Holds aU a' n∧Kn (Env.aG aU aG) H') hQ ?_
      rw[List.range_eq_range']
      simpa[Nf]using h1
     |true=>
      obtain⟨h1,h2,h3⟩:=aba.resolve_left (by simp)
      have h4:=Nc (P:=P) (ops:=ops) (n:=n) (cls:=RY ss) ops.toList 0 ss hl hss (fun k s hk=>by simp[RY,hk]) env a w.heap hh h
      refine Fv (K:=fun a' H'=>∃aU,Holds aU a' n∧Kn (Env.aG aU aG) H') hm h1 h2 h3 hQ ?_
      rw[List.range_eq_range']
      simpa[Nf]using h4
    ·cases hd
 |seq x y ihx ihy=>
  intro an s R2 hd env a w Kn Kx Kr Q hh h hn hx hr
  unfold sH at hd
  split at hd
  ·cases hd
  ·rename_i sx Xu Xv
   split at hd
   ·cases hd
   ·rename_i sy an2 hdy
    simp only[aoz,Prod.mk.injEq]at hd
    obtain⟨rfl,rfl⟩:=hd
    refine wp_seq (ihx an sx Xu Xv env a w _ Kx Kr _ hh h ?_ ?_ ?_)
    ·intro aU a' w' hs nV hk
     exact ihy Xu sy _ hdy aU a' w' Kn Kx Kr Q nV hk (fun e b v BO=>hn e b v (hs.trans BO)) (fun i e b v BO=>hx i e b v (hs.trans BO)) (fun e b v BO=>hr e b v (hs.trans BO))
    ·intro i aU a' w' hs nV hk;exact hx i aU a' w' hs nV hk
    ·intro aU a' w' hs nV hk;exact hr aU a' w' hs nV hk
 |cond c x y ihx ihy=>
  intro an s R2 hd env a w Kn Kx Kr Q hh h hn hx hr
  unfold sH at hd
  split at hd
  ·cases hd
  ·rename_i sx Xu Xv
   split at hd
   ·cases hd
   ·rename_i sy an2 hdy
    simp only[aoz,Prod.mk.injEq]at hd
    obtain⟨rfl,rfl⟩:=hd
    rw[Up]at h
    unfold Fq at h
    split at h
    ·rename_i v hv
     obtain⟨b,hb,h2⟩:=xQ h
     subst hb
     have hc:=hh.tL _ _ hv
     refine wp_cond_split hc (fun hb=>?_) (fun hb=>?_)
     ·subst hb;exact ihx an sx Xu Xv env a w Kn Kx Kr Q hh h2 hn hx hr
     ·subst hb;exact ihy Xu sy _ hdy env a w Kn Kx Kr Q hh h2 hn hx hr
    ·exact h.elim
 |block id x ih=>
  intro an s R2 hd env a w Kn Kx Kr Q hh h hn hx hr
  unfold sH at hd
  split at hd
  ·cases hd
  ·rename_i sx Xu Xv
   simp only[aoz,Prod.mk.injEq]at hd
   obtain⟨rfl,rfl⟩:=hd
   refine wp_block (ih an sx _ Xv env a w Kn _ Kr _ hh h (fun e b v hs nV hk=>hn e b v hs nV hk) ?_ (fun e b v hs nV hk=>hr e b v hs nV hk))
   intro i aU a' w' hs nV hk
   show if i=id then Q .normal a' w' else Q (.exit i) a' w'
   by_cases e:i=id
   ·subst e
    simp only[beq_self_eq_true,DV]at hk
    rw[if_pos rfl]
    exact hn aU a' w' hs nV hk
   ·have:(i==id)=false:=by simpa using e
    simp only[this,DV]at hk
    rw[if_neg e]
    exact hx i aU a' w' hs nV hk
 |loop x ih=>
  intro an s R2 hd env a w Kn Kx Kr Q hh h hn hx hr
  unfold sH at hd
  split at hd
  ·cases hd
  ·rename_i L q tr an0
   split at hd
   ·cases hd
   ·rename_i sx Xu Xv
    simp only[aoz,Prod.mk.injEq]at hd
    obtain⟨rfl,rfl⟩:=hd
    obtain⟨I,⟨m,h0⟩,round⟩:=h
    refine wp_loop_ghost (fun m a' w'=>bW w w'∧∃aU,Holds aU a' n∧I m aU w'.heap) ⟨bW.refl w,_,hh.aG L,h0⟩ ?_
    rintro m a' w' ⟨hs,aU,nV,hI⟩
    refine ih an0 sx _ Xv aU a' w' _ Kx Kr _ nV (round m aU w'.heap hI) ?_ ?_ ?_
    ·rintro e b v BO hb ⟨m',aK,Uq⟩
     exact⟨m',aK,hs.trans BO,_,hb.aG L,Uq⟩
    ·intro i e b v BO hb hk;exact hx i e b v (hs.trans BO) hb hk
    ·intro e b v BO hb hk;exact hr e b v (hs.trans BO) hb hk
 |exit id=>
  intro an s R2 hd env a w Kn Kx Kr Q hh h hn hx hr
  simp only[sH,aoz,Prod.mk.injEq]at hd
  obtain⟨rfl,rfl⟩:=hd
  exact wp_exit (hx id env a w (bW.refl w) hh h)
 |ret=>
  intro an s R2 hd env a w Kn Kx Kr Q hh h hn hx hr
  simp only[sH,aoz,Prod.mk.injEq]at hd
  obtain⟨rfl,rfl⟩:=hd
  exact wp_ret (hr env a w (bW.refl w) hh h)
 |refuse r=>
  intro an s R2 hd env a w Kn Kx Kr Q hh h hn hx hr
  simp only[sH,aoz,Prod.mk.injEq]at hd
  obtain⟨rfl,rfl⟩:=hd
  exact h.elim
 |_=>intro an s R2 hd;simp[sH]at hd
inductive Xw where
 |tmp(t:Nat)
 |one(t:Nat)
 |agg(t n:Nat)
 deriving Inhabited
structure Fn where
 np:Nat
 Zw:List Xw
 body:S
 deriving Inhabited
def qF(env:Env)(H:Hp):List Xw→(List Value→Prop)→Prop
 | [],F=>F []
 | .tmp t::r,F=>aA (Env.find env t) fun v=>qF env H r fun vs=>F (v::vs)
 | .one t::r,F=>aA (Env.find env t) fun p=>vH p fun b o=>aA (H.rd b) fun l=>aA l[o]? fun v=>qF env H r fun vs=>F (v::vs)
 | .agg t n::r,F=>aA (Env.find env t) fun p=>vH p fun b o=>aA (H.rd b) fun l=>dW (o+n≤l.length) (qF env H r fun vs=>F (.agg ((l.drop o).take n).toArray::vs))
@[go_sem ↓] theorem abd(env:Env)(H:Hp)(F:List Value→Prop):qF env H [] F=F []:=(rfl)
@[go_sem ↓] theorem abe(env:Env)(H:Hp)(t:Nat)(r:List Xw)(F:List Value→Prop):qF env H (.tmp t::r) F=aA (Env.find env t) fun v=>qF env H r fun vs=>F (v::vs):=(rfl)
@[go_sem ↓] theorem abf(env:Env)(H:Hp)(t:Nat)(r:List Xw)(F:List Value→Prop):
  qF env H (.one t::r) F=aA (Env.find env t) fun p=>vH p fun b o=>aA (H.rd b) fun l=>aA l[o]? fun v=>qF env H r fun vs=>F (v::vs):=(rfl)
@[go_sem ↓] theorem abg(env:Env)(H:Hp)(t n:Nat)(r:List Xw)(F:List Value→Prop):
  qF env H (.agg t n::r) F=aA (Env.find env t) fun p=>vH p fun b o=>aA (H.rd b) fun l=>dW (o+n≤l.length) (qF env H r fun vs=>F (.agg ((l.drop o).take n).toArray::vs)):=(rfl)
def Lg:List Value→Value
 | [v]=>v
 |vs=>.tuple vs.toArray
@[go_sem] theorem adU(v:Value):Lg [v]=v:=(rfl)
@[go_sem] theorem adV:Lg []= .tuple [].toArray:=(rfl)
@[go_sem] theorem adW(v u:Value)(r:List Value):Lg (v::u::r)= .tuple (v::u::r).toArray:=(rfl)
def iy:Nat→List Value→Env
 |_,[]=>[]
 |i,v::r=>(i,v)::iy (i+1) r
@[go_sem] theorem VY(i:Nat):iy i []=[]:=(rfl)
@[go_sem] theorem Ur(i:Nat)(v:Value)(r:List Value):iy i (v::r)=(i,v)::iy (i+1) r:=(rfl)
def Fn.vc(P:Program)(F:Fn)(args:List Value)(H:Hp)(K:Value→Hp→Prop):Prop:=
 args.length=F.np∧Go.Vc.vc P F.body (iy 0 args) H (fun env H=>qF env H F.Zw fun vs=>K (Lg vs) H) (fun _ _ _=>False) (fun env H=>qF env H F.Zw fun vs=>K (Lg vs) H)
def mH(P:Program):List ResultVar→Option (List Xw)
 | []=>some []
 | .tmp t::r=>(mH P r).map (.tmp t:: ·)
 | .cell t T::r=>if(P.info? T).isSome∧(P.underlying T).isSome then(mH P r).map ((if eK P T then .agg t (P.cellsOf T)else .one t):: ·)else none
def fk(P:Program)(f:FuncId)(an:List GZ):Option Fn:=
 match P.funcs[f]? with
 |none=>none
 |some fn=>
  match fn.body with
  |none=>none
  |some c=>
   match sH P fn.ntmps c an with
   |some (s,[])=>if fn.params.size≤fn.ntmps then(mH P fn.results.toList).map fun rs=>⟨fn.params.size,rs,s⟩else none
   |_=>none
def B4(tmps:Array Value):ResultVar→Sem Value
 | .tmp t=>pure (tmps.getD t undef)
 | .cell p t=>do loadVar t (←asAddr (tmps.getD p undef))
theorem zW{P:Program}{w:World}{env:Env}{a:Act}{n:Nat}(hh:Holds env a n):∀ (rs:List ResultVar) (l:List Xw) (F:List Value→Prop),mH P rs=some l→qF env w.heap l F→
  ∃vs,F vs∧(rs.mapM (B4 a.tmps)).run P w= .ok vs w:=by
 intro rs
 induction rs with
 |nil=>intro l F hl h;simp only[mH,aoz]at hl;subst hl;exact⟨[],h,rfl⟩
 |cons r rs ih=>
  intro l F hl h
  cases r with
  |tmp t=>
   unfold mH at hl
   cases hr:mH P rs with
   |none=>rw[hr]at hl;cases hl
   |some l'=>
    rw[hr]at hl
    simp only[Option.map_some,aoz]at hl
    subst hl
    obtain⟨v,hv,h⟩:=az h
    obtain⟨vs,hF,ot⟩:=ih l' _ hr h
    have e:a.tmps.getD t undef=v:=by simp[hh.zR t v hv]
    exact⟨v::vs,hF,by rw[List.mapM_cons];simp only[B4,Sem.run_bind,Sem.run_pure,Result.andThen_ok,e,ot]⟩
  |cell t T=>
   unfold mH at hl
   split at hl
   ·rename_i hc
    cases hr:mH P rs with
    |none=>rw[hr]at hl;cases hl
    |some l'=>
     rw[hr]at hl
     simp only[Option.map_some,aoz]at hl
     subst hl
     cases hb:eK P T
     ·rw[hb]at h
      obtain⟨p,hp,h⟩:=az h
      obtain⟨b,o,rfl,h⟩:=eZ h
      obtain⟨lb,Dt,h⟩:=az h
      obtain⟨v,hv,h⟩:=az h
      obtain⟨vs,hF,ot⟩:=ih l' _ hr h
      have e:a.tmps.getD t undef= .pointer (some ⟨b,o,none⟩):=by simp[hh.zR t _ hp]
      exact⟨v::vs,hF,by rw[List.mapM_cons];simp only[B4,Sem.run_bind,Sem.run_pure,Result.andThen_ok,e,asAddr,(iz hc.1 hc.2 Dt).2 hb v hv,ot]⟩
     ·rw[hb]at h
      obtain⟨p,hp,h⟩:=az h
      obtain⟨b,o,rfl,h⟩:=eZ h
      obtain⟨lb,Dt,h⟩:=az h
      obtain⟨hn,h⟩:=h.out
      obtain⟨vs,hF,ot⟩:=ih l' _ hr h
      have e:a.tmps.getD t undef= .pointer (some ⟨b,o,none⟩):=by simp[hh.zR t _ hp]
      exact⟨_,hF,by rw[List.mapM_cons];simp only[B4,Sem.run_bind,Sem.run_pure,Result.andThen_ok,e,asAddr,(iz hc.1 hc.2 Dt).1 hb hn,ot]⟩
   ·cases hl
theorem IJ:∀ (args:List Value) (i k:Nat) (v:Value),Env.find (iy i args) k=some v→i≤k∧args[k - i]? =some v:=by
 intro args
 induction args with
 |nil=>intro i k v h;cases h
 |cons x r ih=>
  intro i k v h
  simp only[iy,Env.find]at h
  by_cases e:i=k
  ·subst e
   simp at h
   subst h
   exact⟨aoB _,by simp⟩
  ·have:(i==k)=false:=by simpa using e
   rw[this]at h
   obtain⟨h1,h2⟩:=ih (i+1) k v h
   refine⟨by omega,?_⟩
   rw[show k - i=(k - (i+1))+1 by omega,api]
   exact h2
theorem Lh{P:Program}(hm:P.follows .mixedOrders=true){f:FuncId}{an:List GZ}{F:Fn}(hd:fk P f an=some F){args:List Value}{H:Hp}{K:Value→Hp→Prop}
  (h:F.vc P args H K):af P f args H K:=by
 unfold fk at hd
 split at hd
 ·cases hd
 ·rename_i fn hf
  split at hd
  ·cases hd
  ·rename_i c hb
   split at hd
   ·rename_i s hs
    split at hd
    ·rename_i rS
     cases hr:mH P fn.results.toList with
     |none=>rw[hr]at hd;cases hd
     |some rs=>
      rw[hr]at hd
      simp only[Option.map_some,aoz]at hd
      subst hd
      obtain⟨aR,h⟩:=h
      simp only at aR h
      intro w hw
      subst hw
      refine calls_of_wp hf hb ?_
      have hh:Holds (iy 0 args) {tmps:=args.toArray++Array.replicate (fn.ntmps - args.toArray.size) undef,defers:=[]} fn.ntmps:=by
       refine⟨by simp;omega,rfl,fun k v hk=>?_⟩
       obtain⟨_,h2⟩:=IJ args 0 k v hk
       have aK:k<args.length:=by
        rcases apK k args.length with h'|h'
        ·exact h'
        ·simp[aoC h']at h2
       rw[apA (by simpa using aK)]
       simpa using h2
      have Fw:∀aU a' w',bW w w'→Holds aU a' fn.ntmps→qF aU w'.heap rs (fun vs=>K (Lg vs) w'.heap)→
        a'.defers=[]∧∃v,(results fn a'.tmps).run P w'= .ok v w'∧(∃v_1,Ending.returned v=Ending.returned v_1∧bW w w'∧K v_1 w'.heap):=by
       intro aU a' w' MY nV hk
       obtain⟨vs,hF,ot⟩:=zW (P:=P) nV fn.results.toList rs _ hr hk
       refine⟨nV.defers,Lg vs,?_,_,rfl,MY,hF⟩
       change (do let vs ←fn.results.mapM (B4 a'.tmps);pure (if h:vs.size=1 then vs[0]else .tuple vs):Sem Value).run P w'=_
       rw[Array.mapM_eq_mapM_toList]
       simp only[Sem.run_bind,Sem.run_map,ot,Result.andThen_ok,Sem.run_pure]
       congr 1
       cases vs with
       |nil=>rfl
       |cons x r=>cases r with
        |nil=>rfl
        |cons y r=>simp[Lg]
      refine Le hm c an s [] hs _ _ w _ _ _ _ hh h ?_ ?_ ?_
      ·exact fun aU a' w' MY nV hk=>Fw aU a' w' MY nV hk
      ·exact fun _ _ _ _ _ _ hk=>hk.elim
      ·exact fun aU a' w' MY nV hk=>Fw aU a' w' MY nV hk
    ·cases hd
   ·cases hd
end Go.Vc

namespace Go.Vc
theorem wrap64{n:Int}(h0: -9223372036854775808≤n)(h1:n≤9223372036854775807):IntKind.i64.wrap n=n:=by
 have e:(2^IntKind.i64.bits:Int)=18446744073709551616:=rfl
 have e':(2^ (IntKind.i64.bits - 1):Int)=9223372036854775808:=rfl
 unfold IntKind.wrap
 simp only[e,e',IntKind.signed,aqD,ao0]
 split<;>omega
theorem Us{n:Int}(h0:0≤n)(h1:n≤18446744073709551615):IntKind.u64.wrap n=n:=by
 have e:(2^IntKind.u64.bits:Int)=18446744073709551616:=rfl
 unfold IntKind.wrap
 simp only[e,IntKind.signed,Bool.false_and]
 rw[if_neg (by simp)];omega
theorem Fx{n:Int}(h0:0≤n)(h1:n≤255):IntKind.u8.wrap n=n:=by
 have e:(2^IntKind.u8.bits:Int)=256:=rfl
 unfold IntKind.wrap
 simp only[e,IntKind.signed,Bool.false_and]
 rw[if_neg (by simp)];omega
theorem Ut{n:Int}(h0:0≤n)(h1:n≤4294967295):IntKind.u32.wrap n=n:=by
 have e:(2^IntKind.u32.bits:Int)=4294967296:=rfl
 unfold IntKind.wrap
 simp only[e,IntKind.signed,Bool.false_and]
 rw[if_neg (by simp)];omega
def Sl(H:Hp)(size:Nat)(v:Value)(n:Nat)(xs:List Value)(fp:Option Nat):Prop:=
 xs.length=n*size∧
 match fp with
 |none=>n=0∧v= .slice none 0 0
 |some b=>∃l c,v= .slice (some ⟨b,0,none⟩) n c∧H.own b=some l∧n≤c∧c*size≤l.length∧l.take (n*size)=xs
theorem Sl.nil(H:Hp)(size:Nat):Sl H size (.slice none 0 0) 0 [] none:=⟨by simp,rfl,rfl⟩
theorem Sl.ext{H H':Hp}{size n:Nat}{v:Value}{xs:List Value}{fp:Option Nat}{S:Nat→Prop}(h:Sl H size v n xs fp)(e:ag S H H')(hs:∀b,fp=some b→¬S b):Sl H' size v n xs fp:=by
 obtain⟨hl,h⟩:=h
 refine⟨hl,?_⟩
 cases fp with
 |none=>exact h
 |some b=>
  obtain⟨l,c,h1,h2,h3⟩:=h
  exact⟨l,c,h1,e.own h2 (hs b rfl),h3⟩
theorem Sl.lt{H:Hp}{size n:Nat}{v:Value}{xs:List Value}{b:Nat}(h:Sl H size v n xs (some b)):b<H.size:=by
 obtain⟨_,l,c,_,h2,_⟩:=h
 exact aB h2
theorem Sl.lit(H:Hp)(T:TypeId)(size n:Nat)(xs:List Value)(hx:xs.length=n*size):Sl (H.new T xs) size (.slice (some ⟨H.size,0,none⟩) n n) n xs (some H.size):=
 ⟨hx,xs,n,rfl,aD H T xs,aoB _,by omega,by rw[←hx];simp⟩
theorem Sl.cB{H:Hp}{T:TypeId}{size n b:Nat}{xs:List Value}(hx:xs.length=n*size)(hb:b=H.size):Sl (H.new T xs) size (.slice (some ⟨b,0,none⟩) n n) n xs (some b):=
 hb▸Sl.lit H T size n xs hx
def cK(H:Hp)(size:Nat)(v:Value)(n:Nat)(xs:List Value):Prop:=
 xs.length=n*size∧((n=0∧∃a c,v= .slice a 0 c)∨∃b o c l,v= .slice (some ⟨b,o,none⟩) n c∧H.rd b=some l∧o+n*size≤l.length∧(l.drop o).take (n*size)=xs)
theorem Sl.rd{H:Hp}{size n:Nat}{v:Value}{xs:List Value}{fp:Option Nat}(h:Sl H size v n xs fp):cK H size v n xs:=by
 obtain⟨hl,h⟩:=h
 refine⟨hl,?_⟩
 cases fp with
 |none=>exact .inl ⟨h.1,none,0,h.2⟩
 |some b=>
  obtain⟨l,c,h1,h2,h3,h4,h5⟩:=h
  refine .inr ⟨b,0,c,l,h1,ae h2,?_,by simpa using h5⟩
  have:=apI size h3
  omega
theorem cK.rowOf{H:Hp}{size n:Nat}{v:Value}{xs:List Value}{F:Nat→List Value→Prop}(h:cK H size v n xs)(hf:F n xs):rowOf H size v F:=by
 obtain⟨hl,⟨rfl,a,c,rfl⟩| ⟨b,o,c,l,rfl,h2,h3,h4⟩⟩:=h
 ·have:xs=[]:=ao4.1 (by omega)
  subst this
  exact hf
 ·by_cases hn:n=0
  ·subst hn
   have:xs=[]:=ao4.1 (by omega)
   subst this
   exact hf
  ·have e0:(n==0)=false:=by simpa using hn
   show DV (n==0) _ _
   rw[e0]
   show aA (H.rd b) _
   rw[h2]
   exact⟨h3,by rw[h4];exact hf⟩
theorem cK.ext{H H':Hp}{size n:Nat}{v:Value}{xs:List Value}{S:Nat→Prop}(h:cK H size v n xs)(e:ag S H H')(hs:∀b,b<H.size→¬S b):cK H' size v n xs:=by
 obtain⟨hl,h| ⟨b,o,c,l,rfl,h2,h3⟩⟩:=h
 ·exact⟨hl,.inl h⟩
 ·exact⟨hl,.inr ⟨b,o,c,l,rfl,e.rd h2 (hs b (zX h2)),h3⟩⟩
theorem cK.fresh{H H':Hp}{size n:Nat}{v:Value}{xs:List Value}(h:cK H size v n xs)(e:am H H'):cK H' size v n xs:=h.ext e fun _ _ h=>h
theorem Dy{l xs new:List Value}{p:Nat}(hx:l.take p=xs)(hp:xs.length=p)(hn:p+new.length≤l.length):(aY l p new).take (p+new.length)=xs++new:=by
 apply ao7
 intro i
 by_cases hi:i<p+new.length
 ·rw[aoT hi,getElem?_splice new l p i hn]
  by_cases h1:p≤i
  ·rw[if_pos ⟨h1,hi⟩,aoP (by omega),hp]
  ·rw[if_neg (fun h=>h1 h.1),aoF (by omega),←hx,aoT (by omega)]
 ·rw[aoC (by simp;omega),aoC (by simp;omega)]
theorem Sl.append{H:Hp}{T size bytes n m:Nat}{z:List Value}{s x:Value}{xs ys:List Value}{fp:Option Nat}{K:Value→Hp→Prop}(h:Sl H size s n xs fp)(hx:cK H size x m ys)
  (hz:z.length=size)(h1:fE ys)(hb:(n+m)*bytes≤2^47)
  (hk:∀v' H' dT,Sl H' size v' (n+m) (xs++ys) dT→ag (fun b=>fp=some b) H H'→(dT=fp∨∃b,dT=some b∧H.size≤b∧b<H'.size)→K v' H'):
  eM T size bytes z s x H K:=by
 obtain⟨hl,h⟩:=h
 have key:∀base c,s= .slice base n c→(∀b,base=some b→fp≠none)→eM T size bytes z s x H K:=by
  intro base c hs ahW
  subst hs
  refine cK.rowOf hx (F:=fun m new=>(n+m≤c→m=0→K (.slice base n c) H)∧
   (n+m≤c→m≠0→rU base fun b o=>aA (DW (H.own b) (H.nX b)) fun l=>dW (o+(n+m)*size≤l.length∧fE new) (K (.slice base (n+m) c) (H.wr b (aY l (o+n*size) new))))∧
   (c<n+m→Builtin.nextslicecap (n+m) c*bytes≤2^48∧
    rowOf H size (.slice base n c) fun _ PD=>∀c',n+m≤c'→K (.slice (some ⟨H.size,0,none⟩) (n+m) c') (H.new T (PD++new++ce z (c' - (n+m)))))) ?_
  refine⟨fun rS hm=>?_,fun rS hm=>?_,fun aK=>⟨?_,?_⟩⟩
  ·subst hm
   have hy:ys=[]:=ao4.1 (by have:=hx.1;omega)
   subst hy
   exact hk _ _ fp (by rw[ao3];exact⟨by simpa using hl,h⟩) (ag.refl _ _) (.inl rfl)
  ·cases fp with
   |none=>
    obtain⟨rfl,hv⟩:=h
    injection hv with e1 e2 e3
    omega
   |some b=>
    obtain⟨l,c',hv,h2,h3,h4,h5⟩:=h
    injection hv with e1 e2 e3
    subst e1;subst e3
    show aA (DW (H.own b) (H.nX b)) _
    rw[h2]
    have h6:=apI size rS
    refine⟨⟨by omega,h1⟩,?_⟩
    rw[aor]
    refine hk _ _ (some b) ⟨by simp[hl,hx.1,apy],_,c,rfl,ah h2,rS,by rw[fe];exact h4,?_⟩ ((ag.refl (fun x=>some b=some x) H).wr (fun _=>rfl) _) (.inl rfl)
    have:=Dy (new:=ys) h5 hl (by rw[hx.1];rw[apy]at h6;omega)
    rw[hx.1]at this
    rw[apy];exact this
  ·have h2:Builtin.nextslicecap (n+m) c≤2*(n+m):=nextslicecap_le aK
   have h3:=apI bytes h2
   rw[Nat.mul_assoc]at h3
   omega
  ·refine cK.rowOf (n:=n) (xs:=xs) (Sl.rd (fp:=fp) ⟨hl,h⟩) ?_
   intro c' GW
   refine hk _ _ (some H.size) ⟨by simp[hl,hx.1,apy],_,c',rfl,aD _ _ _,GW,?_,?_⟩ ((ag.refl _ _).new _ _) (.inr ⟨_,rfl,aoB _,by rw[aq];omega⟩)
   ·simp only[aoy,hl,hx.1,tP,hz]
    rw[←apy,←apy]
    exact Nat.le_of_eq (by congr 1;omega)
   ·rw[show(n+m)*size=(xs++ys).length by simp[hl,hx.1,apy]]
    exact List.take_left
 cases fp with
 |none=>exact key none 0 (by obtain⟨rfl,hv⟩:=h;exact hv) (fun b hb=>by cases hb)
 |some b=>
  obtain⟨l,c,hv,_⟩:=h
  exact key (some ⟨b,0,none⟩) c hv (fun _ _=>by simp)
theorem mB(l:List Value)(i n:Nat)(x:Value):(l.set i x).take n=(l.take n).set i x:=by
 apply ao7
 intro k
 by_cases hk:k<n
 ·rw[aoT hk]
  by_cases h:i=k
  ·subst h
   by_cases hl:i<l.length
   ·rw[aox hl,aox (by simp;omega)]
   ·rw[aoC (by simp;omega),aoC (by simp;omega)]
  ·rw[aov h,aov h,aoT hk]
 ·rw[aoC (by simp;omega),aoC (by simp;omega)]
theorem Sl.sI{H:Hp}{n c s:Nat}{xs l:List Value}(h:Sl H 1 (.slice (some ⟨s,0,none⟩) n c) n xs (some s))(hl:H.own s=some l)(i:Nat)(x:Value):
  Sl (H.wr s (l.set i x)) 1 (.slice (some ⟨s,0,none⟩) n c) n (xs.set i x) (some s):=by
 obtain⟨h1,l',c',hv,h2,h3,h4,h5⟩:=h
 rw[hl]at h2
 injection h2 with h2
 subst h2
 injection hv with _ _ hc
 subst hc
 exact⟨by simpa using h1,_,c,rfl,ah hl,h3,by simpa using h4,by rw[mB,h5]⟩
theorem Sl.get{H:Hp}{n c s size:Nat}{xs l:List Value}(h:Sl H size (.slice (some ⟨s,0,none⟩) n c) n xs (some s))(hl:H.own s=some l){i:Nat}{x:Value}(hx:xs[i]? =some x):l[i]? =some x:=by
 obtain⟨h1,l',c',hv,h2,h3,h4,h5⟩:=h
 rw[hl]at h2
 injection h2 with h2
 subst h2
 rw[←h5,aoU]at hx
 split at hx
 ·exact hx
 ·cases hx
def qG(es:List MapEntry)(i:Int):Option Value:=(es.find? fun e=>match e.key with| .int .i64 j=>i==j|_=>false).map (·.val)
def zY(es:List MapEntry):Prop:=∃ks:List Int,es.map (·.key)=ks.map (Value.int .i64)∧ks.Nodup
def kX(H:Hp)(b:Nat)(f:Int→Option Value):Prop:=∃es k,H.mp b=some (es,k)∧zY es∧∀i,qG es i=f i
theorem kX.new(H:Hp):kX H.fh H.size (fun _=>none):=⟨[],0,Jm H,⟨[],rfl,apT⟩,fun _=>rfl⟩
theorem kX.ext{H H':Hp}{b:Nat}{f:Int→Option Value}{S:Nat→Prop}(h:kX H b f)(e:ag S H H')(hs:¬S b):kX H' b f:=by
 obtain⟨es,k,h1,h2⟩:=h
 exact⟨es,k,e.mp h1 hs,h2⟩
theorem kX.lt{H:Hp}{b:Nat}{f:Int→Option Value}(h:kX H b f):b<H.size:=by
 obtain⟨es,k,h1,h2⟩:=h
 exact OJ h1
theorem fV(e:MapEntry)(es:List MapEntry)(j i:Int)(he:e.key= .int .i64 j):qG (e::es) i=if i=j then some e.val else qG es i:=by
 unfold qG
 rw[List.find?_cons]
 simp only[he]
 by_cases h:i=j
 ·simp[h]
 ·have:(i==j)=false:=by simpa using h
  rw[this,if_neg h]
theorem xR{e:MapEntry}{es:List MapEntry}(h:zY (e::es)):∃j,e.key= .int .i64 j∧zY es∧∀x∈es,x.key≠ .int .i64 j:=by
 obtain⟨ks,h1,h2⟩:=h
 cases ks with
 |nil=>simp at h1
 |cons j ks=>
  simp only[apg,List.cons.injEq]at h1
  rw[aoR]at h2
  refine⟨j,h1.1,⟨ks,h1.2,h2.2⟩,fun x hx hk=>h2.1 ?_⟩
  have hm:x.key∈es.map (·.key):=ao8.2 ⟨x,hx,rfl⟩
  rw[h1.2,hk]at hm
  obtain⟨y,hy,e⟩:=ao8.1 hm
  injection e with _ e
  exact e▸hy
theorem B5(i:Int):∀ (es:List MapEntry),zY es→∀n:Nat,
  (qG es i=none∧fF .int (.int .i64 i) es n=some none)∨
  ∃j e,es[j]? =some e∧e.key= .int .i64 i∧qG es i=some e.val∧fF .int (.int .i64 i) es n=some (some (n+j,e.val)):=by
 intro es
 induction es with
 |nil=>intro _ n;exact .inl ⟨rfl,rfl⟩
 |cons e es ih=>
  intro h n
  obtain⟨j,hj,Xx,aQ⟩:=xR h
  have hq:qu .int (.int .i64 i) e.key=some (decide (i=j)):=by rw[hj];simp[qu,bq]
  by_cases Hd:i=j
  ·subst Hd
   refine .inr ⟨0,e,rfl,hj,by rw[fV e es i i hj,if_pos rfl],?_⟩
   unfold fF
   rw[hq];simp
  ·have h2:fF .int (.int .i64 i) (e::es) n=fF .int (.int .i64 i) es (n+1):=by
    rw[fF,hq,aoK Hd]
   have h3:qG (e::es) i=qG es i:=by rw[fV e es j i hj,if_neg Hd]
   rw[h2,h3]
   rcases ih Xx (n+1)with ⟨h4,h5⟩| ⟨k,e',h4,h5,h6,h7⟩
   ·exact .inl ⟨h4,h5⟩
   ·exact .inr ⟨k+1,e',by simpa using h4,h5,h6,by rw[h7];congr 3;omega⟩
theorem kX.look{H:Hp}{b:Nat}{f:Int→Option Value}(h:kX H b f)(i:Int)(F:Option Value→Prop):xm H .int (some b) (.int .i64 i) F=F (f i):=by
 obtain⟨es,k,h1,h2,h3⟩:=h
 unfold xm
 simp only[h1,mI]
 rcases B5 i es h2 0 with ⟨h4,h5⟩| ⟨j,e,h4,h5,h6,h7⟩
 ·rw[h5,←h3 i,h4];rfl
 ·rw[h7,←h3 i,h6];rfl
def Jn(f:Int→Option Value)(i:Int)(v:Value):Int→Option Value:=fun j=>if j=i then some v else f j
def Ng(f:Int→Option Value)(i:Int):Int→Option Value:=fun j=>if j=i then none else f j
theorem Li(es:List MapEntry)(e:MapEntry)(i j:Int)(hj:e.key= .int .i64 j)(hn:qG es j=none):qG (es++[e]) i=if i=j then some e.val else qG es i:=by
 unfold qG at*
 rw[List.find?_append]
 by_cases h:i=j
 ·subst h
  have hx:(es.find? fun e=>match e.key with| .int .i64 j=>i==j|_=>false)=none:=by simpa using hn
  rw[hx]
  simp[hj]
 ·rw[if_neg h]
  have:([e].find? fun e=>match e.key with| .int .i64 j=>i==j|_=>false)=none:=by simp[hj,h]
  rw[this]
  simp
theorem PQ{es:List MapEntry}{i:Int}(h:qG es i=none):∀e∈es,e.key≠ .int .i64 i:=by
 intro e he hk
 unfold qG at h
 simp only[Option.map_eq_none_iff,List.find?_eq_none]at h
 have:=h e he
 simp[hk]at this
theorem Jo{es:List MapEntry}(h:zY es)(j:Nat)(e:MapEntry)(hj:es[j]? =some e)(v:Value)(i:Int)(hk:e.key= .int .i64 i):
  zY (es.modify j fun x=>{x with key:=.int .i64 i,val:=v}):=by
 obtain⟨ks,h1,h2⟩:=h
 refine⟨ks,?_,h2⟩
 rw[←h1]
 apply ao7
 intro n
 rw[aoG,aoG,List.getElem?_modify]
 by_cases hn:j=n
 ·subst hn;simp[hj,hk]
 ·simp[hn]
theorem Lj:∀ (es:List MapEntry),zY es→∀ (j:Nat) (e:MapEntry) (v:Value) (i:Int),es[j]? =some e→e.key= .int .i64 i→∀n,
  qG (es.modify j fun x=>{x with key:=.int .i64 i,val:=v}) n=if n=i then some v else qG es n:=by
 intro es
 induction es with
 |nil=>intro _ j e v i hj;simp at hj
 |cons x es ih=>
  intro h j e v i hj hk n
  obtain⟨q,hq,Xx,aQ⟩:=xR h
  cases j with
  |zero=>
   simp only[ao2,aoz]at hj
   subst hj
   have:q=i:=by rw[hq]at hk;injection hk
   subst this
   rw[List.modify_zero_cons,fV _ es q n rfl,fV x es q n hq]
   split<;>rfl
  |succ j=>
   rw[List.modify_succ_cons,fV x _ q n hq,fV x es q n hq,ih Xx j e v i (by simpa using hj) hk n]
   by_cases h1:n=q
   ·subst h1
    have hm:e∈es:=aow (by simpa using hj)
    have:n≠i:=fun e'=>aQ e hm (by rw[hk,e'])
    simp[this]
   ·simp[h1]
theorem Nh:∀ (es:List MapEntry),zY es→∀ (j:Nat) (e:MapEntry) (i:Int),es[j]? =some e→e.key= .int .i64 i→zY (es.eraseIdx j)∧∀n,qG (es.eraseIdx j) n=if n=i then none else qG es n:=by
 intro es
 induction es with
 |nil=>intro _ j e i hj;simp at hj
 |cons x es ih=>
  intro h j e i hj hk
  have h':=h
  obtain⟨q,hq,Xx,aQ⟩:=xR h
  cases j with
  |zero=>
   simp only[ao2,aoz]at hj
   subst hj
   have:q=i:=by rw[hq]at hk;injection hk
   subst this
   refine⟨Xx,fun n=>?_⟩
   rw[List.eraseIdx_zero,List.tail_cons,fV x es q n hq]
   by_cases hn:n=q
   ·subst hn
    rw[if_pos rfl]
    unfold qG
    simp only[Option.map_eq_none_iff,List.find?_eq_none]
    intro e' kY
    obtain⟨ks,h1,_⟩:=Xx
    have hm:e'.key∈es.map (·.key):=ao8.2 ⟨e',kY,rfl⟩
    rw[h1]at hm
    obtain⟨y,_,ey⟩:=ao8.1 hm
    have:=aQ e' kY
    rw[←ey]at this ⊢
    simp only[beq_iff_eq]
    intro e2
    exact this (by rw[e2])
   ·simp[hn]
  |succ j=>
   obtain⟨h1,h2⟩:=ih Xx j e i (by simpa using hj) hk
   have hm:e∈es:=aow (by simpa using hj)
   have hqi:q≠i:=fun e'=>aQ e hm (by rw[hk,e'])
   refine⟨?_,fun n=>?_⟩
   ·obtain⟨ks,e1,e2⟩:=h1
    refine⟨q::ks,by rw[List.eraseIdx_cons_succ,apg,apg,hq,e1],?_⟩
    rw[aoR]
    refine⟨fun bF=>?_,e2⟩
    have:Value.int .i64 q∈(es.eraseIdx j).map (·.key):=by rw[e1];exact ao8.2 ⟨q,bF,rfl⟩
    obtain⟨y,hy,ey⟩:=ao8.1 this
    exact aQ y (List.mem_of_mem_eraseIdx hy) ey
   ·rw[List.eraseIdx_cons_succ,fV x _ q n hq,fV x es q n hq,h2 n]
    by_cases h3:n=q
    ·subst h3;simp[hqi]
    ·simp[h3]
theorem Jp(n:Nat)(i:Int):Instr.sameBits (n+1) (.int .i64 i) (.int .i64 i)=true:=by simp[Instr.sameBits]
theorem kX.Zx{H:Hp}{b:Nat}{f:Int→Option Value}(h:kX H b f){i:Int}{v:Value}{F:Hp→Prop}(hk:∀H',kX H' b (Jn f i v)→ag (fun x=>x=b) H H'→F H'):
  R3 H .int b (.int .i64 i) v F:=by
 obtain⟨es,k,h1,h2,h3⟩:=h
 unfold R3
 simp only[h1,mI]
 have ou:∀VZ k',ag (fun x=>x=b) H (H.Du b VZ k'):=fun VZ k'=>(ag.refl (fun x=>x=b) H).Du (fun _=>rfl) _ _
 rcases B5 i es h2 0 with ⟨h4,h5⟩| ⟨j,e,h4,h5,h6,h7⟩
 ·rw[h5]
  refine⟨rfl,hk _ ⟨_,_,jX h1,?_,fun n=>?_⟩ (ou _ _)⟩
  ·obtain⟨ks,e1,e2⟩:=h2
   refine⟨ks++[i],by simp[KQ,e1],?_⟩
   rw[aph]
   refine⟨e2,by simp,fun a ha c hc hac=>?_⟩
   simp only[aoH]at hc
   subst hc;subst hac
   have:Value.int .i64 a∈es.map (·.key):=by rw[e1];exact ao8.2 ⟨a,ha,rfl⟩
   obtain⟨y,hy,ey⟩:=ao8.1 this
   exact PQ h4 y hy ey
  ·rw[KQ,Li es _ n i rfl h4]
   unfold Jn
   split<;>first|rfl|exact h3 n
 ·rw[h7]
  refine⟨?_,hk _ ⟨_,_,jX h1,Jo h2 _ e (by simpa using h4) _ _ h5,fun n=>?_⟩ (ou _ _)⟩
  ·simp only[EV,aor,h4,Option.map_some,Option.getD_some,h5]
   exact Jp 9999 i
  ·rw[KQ,aor,Lj es h2 j e v i h4 h5 n]
   unfold Jn
   split<;>first|rfl|exact h3 n
theorem kX.del{H:Hp}{b:Nat}{f:Int→Option Value}(h:kX H b f){i:Int}{F:Hp→Prop}(hk:∀H',kX H' b (Ng f i)→ag (fun x=>x=b) H H'→F H'):
  Xy H .int b (.int .i64 i) F:=by
 obtain⟨es,k,h1,h2,h3⟩:=h
 unfold Xy
 simp only[h1,mI]
 have ou:∀VZ k',ag (fun x=>x=b) H (H.Du b VZ k'):=fun VZ k'=>(ag.refl (fun x=>x=b) H).Du (fun _=>rfl) _ _
 rcases B5 i es h2 0 with ⟨h4,h5⟩| ⟨j,e,h4,h5,h6,h7⟩
 ·rw[h5]
  refine hk _ ⟨_,_,jX h1,h2,fun n=>?_⟩ (ou _ _)
  rw[Fg,h3 n]
  unfold Ng
  by_cases hn:n=i
  ·subst hn;rw[if_pos rfl,←h3 n];exact h4
  ·rw[if_neg hn]
 ·rw[h7]
  obtain⟨e1,e2⟩:=Nh es h2 j e i h4 h5
  refine hk _ ⟨_,_,jX h1,by rw[Fg,aor];exact e1,fun n=>?_⟩ (ou _ _)
  rw[Fg,aor,e2 n]
  unfold Ng
  split<;>first|rfl|exact h3 n
end Go.Vc

namespace Go.Vc
section
variable {P : Program} {ev : Ev} {H : Hp} {K K' : Value → Hp → Prop}
theorem Ni{s:Shape}{r:Option Nat}{k:Value}{F G:Option Value→Prop}(h:xm H s r k F)(hk:∀x,F x→G x):xm H s r k G:=by
 unfold xm at*
 cases r with
 |none=>exact hk _ h
 |some b=>exact aj h fun m h=>aj h fun x=>hk _
theorem Jq{T size bytes:Nat}{z:List Value}{s x:Value}(h:eM T size bytes z s x H K)(hk:∀v H',K v H'→K' v H'):eM T size bytes z s x H K':=by
 refine jU h fun base n c h=>xP h fun m new h=>?_
 obtain⟨h1,h2,h3⟩:=h
 exact⟨fun a b=>hk _ _ (h1 a b),fun a b=>xO (h2 a b) fun b o h=>aj h fun l h=>bG h (hk _ _),fun a=>⟨(h3 a).1,xP (h3 a).2 fun n l h c' hc=>hk _ _ (h c' hc)⟩⟩
theorem Fy(i:de)(h:i.vc P ev H K)(hk:∀v H',K v H'→K' v H'):i.vc P ev H K':=by
 cases hc:i.cls with
 |pure=>exact OH i hc h hk
 |quiet=>
  cases i<;>simp[de.cls]at hc<;>simp only[de.vc]at h ⊢
  ·exact aj h fun v h=>pq h fun b o h=>aj h fun l h=>aj h fun v=>hk _ _
  ·exact aj h fun v h=>pq h fun b o h=>aj h fun l h=>bG h (hk _ _)
  ·exact aj h fun v h=>aj h fun v h=>vm h fun r h=>bG h fun h=>Ni h fun x=>hk _ _
  ·refine aj h fun v h=>vm h fun r h=>?_
   unfold K7 at*
   cases r with
   |none=>exact hk _ _ h
   |some b=>exact aj h fun m=>hk _ _
  ·exact aj h fun v h=>Dw h fun l=>hk _ _
 |G9=>
  cases i<;>simp[de.cls]at hc<;>simp only[de.vc]at h ⊢
  ·exact aj h fun v=>hk _ _
  ·exact hk _ _ h
  ·exact Fp h fun l=>hk _ _
  ·exact aj h fun v h=>pq h fun b o h=>aj h fun v h=>aj h fun l h=>bG h fun h=>bG h fun h=>bG h (hk _ _)
  ·exact hk _ _ h
  ·exact aj h fun v h=>aj h fun v h=>jE h fun n h=>jE h fun c h=>bG h (hk _ _)
  ·exact aj h fun v h=>aj h fun v h=>aj h fun v h=>vm h fun r h=>aj h fun b h=>bG h fun h=>aj h fun es h=>aj h fun x h=>bG h (hk _ _)
  ·exact jT h fun l h=>af.mono h hk
  ·refine aj h fun v h=>jT h fun l h=>?_
   unfold Xj at*
   split at h
   ·exact⟨h.1,h.2.mono hk⟩
   ·exact h.elim
  ·refine aj h fun v h=>jT h fun l h=>?_
   obtain⟨T,v,f,rv,e,hm,hc⟩:=h
   exact⟨T,v,f,rv,e,hm,hc.mono hk⟩
  ·exact aj h fun v h=>aj h fun v h=>Jq h hk
  ·exact aj h fun v h=>aj h fun v h=>vm h fun r h=>aj h fun b h=>bG h fun h=>aj h fun es h=>aj h fun x=>hk _ _
  ·exact aj h fun v h=>jU h fun a n c h=>by
    rcases h with ⟨h1,h2⟩| ⟨h1,b,o,l,h2,h3,h4,h5,h6⟩
    ·exact .inl ⟨h1,hk _ _ h2⟩
    ·exact .inr ⟨h1,b,o,l,h2,h3,h4,h5,hk _ _ h6⟩
  ·refine aj h fun v h=>?_
   unfold ix at*
   split at h
   ·exact fun c hc=>hk _ _ (h c hc)
   ·exact h.elim
  ·exact jT h fun l h=>by obtain⟨v,h1,h2⟩:=h;exact⟨v,h1,hk _ _ h2⟩
theorem Ll(s:gO)(h:s.vc P ev H K)(hk:∀v H',K v H'→K' v H'):s.vc P ev H K':=by
 unfold gO.vc at*
 cases hq:s.quiet
 ·rw[hq]at h;exact Fy s.op h hk
 ·rw[hq]at h;obtain⟨v,h1,h2⟩:=h;exact⟨v,h1,hk _ _ h2⟩
theorem OK{o:Option Value}{F F':Bool→Prop}{N N':Prop}(h:gV o F N)(hf:∀b,F b→F' b)(hn:N→N'):gV o F' N':=by
 rcases EW h with ⟨b,rfl,h⟩| ⟨vs,rfl,h⟩
 ·exact hf b h
 ·exact hn h
theorem zZ{b:Bool}{A A' B B':Prop}(h:DV b A B)(ha:A→A')(hb:B→B'):DV b A' B':=by
 cases b
 ·exact hb h
 ·exact ha h
theorem Nj{F F':Env→Hp→Prop}(hk:∀e H,F e H→F' e H):∀ (l:List gO) (env:Env) (H:Hp),gY P F l env H→gY P F' l env H:=by
 intro l
 induction l with
 |nil=>intro env H h;exact hk _ _ h
 |cons s l ih=>
  intro env H h
  unfold gY at h ⊢
  cases hg:s.guard with
  |none=>rw[hg]at h;exact Ll s h fun v H'=>ih _ _
  |some g=>
   rw[hg]at h
   exact OK h (fun b h=>zZ h (fun h=>Ll s h fun v H'=>ih _ _) (ih _ _)) (ih _ _)
theorem B6{s:gO}{env:Env}{F F' N N':Env→Prop}(h:zS s env F N)(hf:∀e,F e→F' e)(hn:∀e,N e→N' e):zS s env F' N':=by
 unfold zS at*
 cases hg:s.guard with
 |none=>rw[hg]at h;exact hf _ h
 |some g=>rw[hg]at h;exact OK h (fun b h=>zZ h (hf _) (hn _)) (hn _)
theorem R4{Inv:Hp→Prop}{F F':Env→Hp→Prop}(hk:∀e H,F e H→F' e H):∀ (t:GY) (env:Env) (H:Hp),B3 P Inv F t env H→B3 P Inv F' t env H:=by
 intro t
 induction t with
 |done=>intro env H h;exact hk _ _ h
 |stop=>intro env H h;trivial
 |bA s t ih=>intro env H h;exact B6 h (fun e h=>Fy s.op h fun v H'=>ih _ _) (fun e=>ih _ _)
 |Kv s t ih=>intro env H h;exact B6 h (fun e h=>by obtain⟨v,h1,h2⟩:=h;exact⟨v,h1,ih _ _ h2⟩) (fun e=>ih _ _)
 |bc s t r ih ihr=>intro env H h;exact⟨B6 h.1 (fun e h=>Fy s.op h fun v H' h=>bG h (ih _ _)) (fun e=>ih _ _),ihr _ _ h.2⟩
theorem nY:∀ (s:S) (env:Env) (H:Hp) (Kn Q6:Env→Hp→Prop) (Kx Q7:Nat→Env→Hp→Prop) (Kr Q8:Env→Hp→Prop),(∀e H,Kn e H→Q6 e H)→(∀i e H,Kx i e H→Q7 i e H)→(∀e H,Kr e H→Q8 e H)→
  vc P s env H Kn Kx Kr→vc P s env H Q6 Q7 Q8:=by
 intro s
 induction s with
 |skip=>intro env H Kn Q6 Kx Q7 Kr Q8 hn hx hr h;exact hn _ _ h
 |ci ops aG=>intro env H Kn Q6 Kx Q7 Kr Q8 hn hx hr h;exact Nj (fun e H h=>hn _ _ h) ops env H h
 |tO t aG=>intro env H Kn Q6 Kx Q7 Kr Q8 hn hx hr h;obtain⟨Inv,hI,h⟩:=h;exact⟨Inv,hI,R4 (fun e H h=>hn _ _ h) t env H h⟩
 |seq a b iha ihb=>intro env H Kn Q6 Kx Q7 Kr Q8 hn hx hr h;exact iha env H _ _ _ _ _ _ (fun e H h=>ihb e H _ _ _ _ _ _ hn hx hr h) hx hr h
 |cond c x y ihx ihy=>
  intro env H Kn Q6 Kx Q7 Kr Q8 hn hx hr h
  simp only[vc]at*
  unfold Fq at*
  split at h
  ·exact Fo h fun b h=>zZ h (ihx _ _ _ _ _ _ _ _ hn hx hr) (ihy _ _ _ _ _ _ _ _ hn hx hr)
  ·exact h.elim
 |Hc id b ih=>intro env H Kn Q6 Kx Q7 Kr Q8 hn hx hr h;exact ih env H _ _ _ _ _ _ hn (fun i e H h=>zZ h (hn _ _) (hx _ _ _)) hr h
 |loop L b ih=>
  intro env H Kn Q6 Kx Q7 Kr Q8 hn hx hr h
  obtain⟨I,h0,round⟩:=h
  exact⟨I,h0,fun m env H hI=>ih env H _ _ _ _ _ _ (fun e H h=>h) hx hr (round m env H hI)⟩
 |exit id=>intro env H Kn Q6 Kx Q7 Kr Q8 hn hx hr h;exact hx _ _ _ h
 |ret=>intro env H Kn Q6 Kx Q7 Kr Q8 hn hx hr h;exact hr _ _ h
 |bad=>intro env H Kn Q6 Kx Q7 Kr Q8 hn hx hr h;exact h.elim
def abi(a b:S):S:=.seq a b
theorem Xz{a b:S}{env:Env}{H:Hp}{Kn:Env→Hp→Prop}{Kx:Nat→Env→Hp→Prop}{Kr:Env→Hp→Prop}(M:Env→Hp→Prop)(h1:vc P a env H M Kx Kr)(h2:∀e H',M e H'→vc P b e H' Kn Kx Kr):vc P (abi a b) env H Kn Kx Kr:=
 nY a env H _ _ _ _ _ _ h2 (fun _ _ _ h=>h) (fun _ _ h=>h) h1
end
end Go.Vc

namespace Go.Vc
theorem ai.afn{P:Program}{b:Bool}{A B:S}{env:Env}{H:Hp}{Kn:Env→Hp→Prop}{Kx:Nat→Env→Hp→Prop}{Kr:Env→Hp→Prop}(I:Env→Hp→Prop)
  (ht:b=true→vc P A env H I Kx Kr)(hf:b=false→vc P B env H I Kx Kr)(k:∀e h,I e h→Kn e h):
  ai b fun t=>DV t (vc P A env H Kn Kx Kr) (vc P B env H Kn Kx Kr):=by
 cases b
 ·exact nY B env H _ _ _ _ _ _ k (fun _ _ _ h=>h) (fun _ _ h=>h) (hf rfl)
 ·exact nY A env H _ _ _ _ _ _ k (fun _ _ _ h=>h) (fun _ _ h=>h) (ht rfl)
theorem ai.abj{P:Program}{p:Prop}[d:Decidable p]{A B:S}{env:Env}{H:Hp}{Kn:Env→Hp→Prop}{Kx:Nat→Env→Hp→Prop}{Kr:Env→Hp→Prop}(I:Env→Hp→Prop)
  (ht:p→vc P A env H I Kx Kr)(hf:¬p→vc P B env H I Kx Kr)(k:∀e h,I e h→Kn e h):
  ai (decide p) fun t=>DV t (vc P A env H Kn Kx Kr) (vc P B env H Kn Kx Kr):=
 ai.afn I (fun h=>ht (of_decide_eq_true h)) (fun h=>hf (of_decide_eq_false h)) k
end Go.Vc

namespace Go.Vc
def Jr(P:Program)(T:TypeId)(name:String):Option (List FieldStep×Option (FuncId×Bool)):=
 ((P.info? T).bind fun i=>i.methods.find? (·.name==name)).map fun m=>(m.path.toList,m.func)
theorem tQ{P:Program}{T:TypeId}{name:String}{p:List FieldStep}{f:Option (FuncId×Bool)}(h:Jr P T name=some (p,f)):
  ∃i m,P.info? T=some i∧i.methods.find? (·.name==name)=some m∧m.path.toList=p∧m.func=f:=by
 unfold Jr at h
 cases hi:P.info? T with
 |none=>rw[hi]at h;cases h
 |some i=>
  rw[hi]at h
  simp only[Option.bind_some]at h
  cases hm:i.methods.find? (·.name==name)with
  |none=>rw[hm]at h;cases h
  |some m=>
   rw[hm]at h
   simp only[Option.map_some,aoz,Prod.mk.injEq]at h
   exact⟨i,m,rfl,hm,h.1,h.2⟩
def V0(P:Program)(T:TypeId)(name:String):Option FuncId:=
 match Jr P T name,P.underlying T with
 |some ([],some (f,true)),some (.pointer _)=>if dv P f then some f else none
 |_,_=>none
theorem br{P:Program}{H:Hp}{T:TypeId}{v:Value}{name:String}{f:FuncId}(h:V0 P T name=some f):R5 P H T v name f v:=by
 unfold V0 at h
 split at h
 ·rename_i f' e h1 hu
  split at h
  ·rename_i hc
   injection h with h
   subst h
   refine⟨hc,fun w hw=>?_⟩
   obtain⟨i,m,g1,g2,g3,g4⟩:=tQ h1
   show(method ((P.types.size+99)+1) T v name).run P w=_
   unfold method
   simp[dX g1,g2,g3,g4,follow,receiverAt,run_underlying hu,Place.get]
  ·cases h
 ·cases h
def OL(P:Program)(T:TypeId)(name:String):Option (Nat×FuncId):=
 match Jr P T name with
 |some ([s],some (f,true))=>
  match s.deref,P.underlying s.struct with
  |true,some (.struct fs)=>
   match fs[s.index]? with
   |some fd=>match P.underlying fd.type with
    |some (.pointer _)=>if(P.info? fd.type).isSome∧P.cellsOf fd.type≠0∧dv P f=true then some (fd.offset,f)else none
    |_=>none
   |none=>none
  |_,_=>none
 |_=>none
theorem DX{P:Program}{fd:Field}(hi:(P.info? fd.type).isSome=true)(h0:P.cellsOf fd.type≠0)(a:Addr)(w:World):(fieldPlace a fd).run P w= .ok (a.add fd.offset) w:=by
 simp[fieldPlace,bD hi,h0]
theorem fG{P:Program}{H:Hp}{T:TypeId}{b o off:Nat}{l:List Value}{rv:Value}{name:String}{f:FuncId}(h:OL P T name=some (off,f))(hr:H.rd b=some l)(hv:l[o+off]? =some rv):
  R5 P H T (.pointer (some ⟨b,o,none⟩)) name f rv:=by
 unfold OL at h
 split at h
 ·rename_i s f' h1
  split at h
  ·rename_i fs hd hs
   split at h
   ·rename_i fd hf
    split at h
    ·rename_i e hu
     split at h
     ·rename_i hc
      simp only[aoz,Prod.mk.injEq]at h
      obtain⟨rfl,rfl⟩:=h
      refine⟨hc.2.2,fun w hw=>?_⟩
      subst hw
      obtain⟨i,m,g1,g2,g3,g4⟩:=tQ h1
      have hus:(P.underlying fd.type).isSome=true:=by rw[hu];rfl
      have hag:eK P fd.type=false:=by unfold eK;rw[hu]
      have abk:=(iz (P:=P) (w:=w) (t:=fd.type) hc.1 hus hr).2 hag rv hv
      show(method ((P.types.size+99)+1) T _ name).run P w=_
      unfold method
      simp[dX g1,g2,g3,g4,follow,run_underlying hs,hf,hd,Place.get,asAddr,DX hc.1 hc.2.1,receiverAt,run_underlying hu,xN,abk]
     ·cases h
    ·cases h
   ·cases h
  ·cases h
 ·cases h
theorem abl{P:Program}{T:TypeId}{a:Addr}{name:String}{x:Nat×FuncId}{cap:Array Value}(h:OL P T name=some x):PR P (.func (.method name) #[.iface T (.pointer (some a))] cap):=by
 unfold OL at h
 split at h
 ·rename_i s f' h1
  split at h
  ·rename_i fs hd hs
   split at h
   ·rename_i fd hf
    refine .inr ⟨name,T,_,cap,rfl,fun w=>?_⟩
    obtain⟨i,m,g1,g2,g3,g4⟩:=tQ h1
    show(nilAhead ((P.types.size+99)+1) T _ name).run P w=_
    unfold nilAhead
    simp[dX g1,g2,g3,g4,followBlind,run_underlying hs,hf,hd]
   ·cases h
  ·cases h
 ·cases h
theorem gw.mono{P:Program}{recv:Value}{name:String}{args:List Value}{H:Hp}{K K':Value→Hp→Prop}(h:gw P recv name args H K)(hk:∀v H',K v H'→K' v H'):gw P recv name args H K':=by
 obtain⟨T,v,f,rv,h1,h2,h3⟩:=h
 exact⟨T,v,f,rv,h1,h2,h3.mono hk⟩
end Go.Vc
