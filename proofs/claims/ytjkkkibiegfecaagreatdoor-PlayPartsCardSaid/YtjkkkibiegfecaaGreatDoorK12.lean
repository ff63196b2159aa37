/- Texts put behind each other. -/
import Derived.Test.YtjkkkibiegfecaaGreatDoorK98
import Derived.Test.YtjkkkibiegfecaaGreatDoorK11
set_option maxRecDepth 100000
set_option maxHeartbeats 8000000
set_option linter.unusedVariables false
set_option linter.unusedSimpArgs false
namespace Go.Vc
abbrev tt(n:Nat):Operand:=.tmp n
abbrev ki(n:Int):Operand:=.const (.int .i64 n)
abbrev kb(b:Bool):Operand:=.const (.bool b)
abbrev s1(d:Nat)(op:dD):gY:=⟨false,none,some d,op⟩
abbrev s0(op:dD):gY:=⟨false,none,none,op⟩
abbrev sg(g:Nat)(w:Bool)(d:Nat)(op:dD):gY:=⟨false,some (g,w),some d,op⟩
abbrev sq(d:Nat)(op:dD):gY:=⟨true,none,some d,op⟩
inductive S where
 |skip
 |aY(ops:List gY)(aO:List Nat)
 |qA(t:D2)(aO:List Nat)
 |seq(a b:S)
 |cond(c:Operand)(x y:S)
 |NR(id:Nat)(b:S)
 |loop(ahG:List Nat)(b:S)
 |exit(id:Nat)
 |ret
 |bad
 deriving Inhabited
def bX(F:Env→Hp→(Env→Hp→Prop)→Prop)(env:Env)(H:Hp)(_t:Tag F:=⟨⟩):Prop:=
 ∃I:Nat→Env→Hp→Prop,(∃m,I m env H)∧∀m env H,I m env H→F env H fun bv H'=>∃m',m'<m∧I m' bv H'
theorem bX.intro{F:Env→Hp→(Env→Hp→Prop)→Prop}{env:Env}{H:Hp}(I:Nat→Env→Hp→Prop)(m:Nat)(h0:I m env H)
  (round:∀m env H,I m env H→F env H fun bv H'=>∃m',m'<m∧I m' bv H'):bX F env H:=⟨I,⟨m,h0⟩,round⟩
def vc(P:Program):S→Env→Hp→(Env→Hp→Prop)→(Nat→Env→Hp→Prop)→(Env→Hp→Prop)→Prop
 | .skip,env,H,Kn,_,_=>Kn env H
 | .aY ops aO,env,H,Kn,_,_=>iO P (fun bv H'=>now (Env.aO bv aO) fun e=>Kn e H') ops env H
 | .qA t aO,env,H,Kn,_,_=>fV H fun Inv=>CP P Inv (fun bv H'=>now (Env.aO bv aO) fun e=>Kn e H') t env H
 | .seq a b,env,H,Kn,Kx,Kr=>vc P a env H (fun bv H'=>vc P b bv H' Kn Kx Kr) Kx Kr
 | .cond c x y,env,H,Kn,Kx,Kr=>FX (Env.ev env c) fun t=>FW t (vc P x env H Kn Kx Kr) (vc P y env H Kn Kx Kr)
 | .NR id b,env,H,Kn,Kx,Kr=>vc P b env H Kn (fun i bv H'=>FW (i==id) (Kn bv H') (Kx i bv H')) Kr
 | .loop L b,env,H,_,Kx,Kr=>bX (fun bv H' again=>vc P b bv H' (fun e h=>again (Env.aO e L) h) Kx Kr) (Env.aO env L) H
 | .exit id,env,H,_,Kx,_=>Kx id env H
 | .ret,env,H,_,_,Kr=>Kr env H
 | .bad,_,_,_,_,_=>False
section
variable (P : Program) (env : Env) (H : Hp) (Kn : Env → Hp → Prop) (Kx : Nat → Env → Hp → Prop) (Kr : Env → Hp → Prop)
@[go_sem ↓] theorem UP:vc P .skip env H Kn Kx Kr=Kn env H:=(rfl)
@[go_sem ↓] theorem aeL(ops:List gY)(aO:List Nat):vc P (.aY ops aO) env H Kn Kx Kr=iO P (fun bv H'=>now (Env.aO bv aO) fun e=>Kn e H') ops env H:=(rfl)
@[go_sem ↓] theorem adm(t:D2)(aO:List Nat):vc P (.qA t aO) env H Kn Kx Kr=fV H fun Inv=>CP P Inv (fun bv H'=>now (Env.aO bv aO) fun e=>Kn e H') t env H:=(rfl)
@[go_sem ↓] theorem W6(a b:S):vc P (.seq a b) env H Kn Kx Kr=vc P a env H (fun bv H'=>vc P b bv H' Kn Kx Kr) Kx Kr:=(rfl)
@[go_sem ↓] theorem UQ(c:Operand)(x y:S):vc P (.cond c x y) env H Kn Kx Kr=FX (Env.ev env c) fun t=>FW t (vc P x env H Kn Kx Kr) (vc P y env H Kn Kx Kr):=(rfl)
@[go_sem ↓] theorem W7(id:Nat)(b:S):vc P (.NR id b) env H Kn Kx Kr=vc P b env H Kn (fun i bv H'=>FW (i==id) (Kn bv H') (Kx i bv H')) Kr:=(rfl)
@[go_sem ↓] theorem adn(L:List Nat)(b:S):vc P (.loop L b) env H Kn Kx Kr=bX (fun bv H' again=>vc P b bv H' (fun e h=>again (Env.aO e L) h) Kx Kr) (Env.aO env L) H:=(rfl)
@[go_sem ↓] theorem ado(id:Nat):vc P (.exit id) env H Kn Kx Kr=Kx id env H:=(rfl)
@[go_sem ↓] theorem aeM:vc P .bad env H Kn Kx Kr=False:=(rfl)
@[go_sem ↓] theorem aeN:vc P .ret env H Kn Kx Kr=Kr env H:=(rfl)
end
attribute [go_sem] cond_true cond_false
abbrev wI:=List Nat×List Nat×List Nat
def Ke:Nat→List Nat→Option (Ot×List Nat)
 |0,_=>none
 |_+1,0::r=>some (.done,r)
 |f+1,1::i::r=>match Ke f r with
  |some (t,r)=>some (.step i t,r)
  |none=>none
 |f+1,2::i::r=>match Ke f r with
  |some (t,r)=>match Ke f r with
   |some (u,r)=>some (.aT i t u,r)
   |none=>none
  |none=>none
 |_+1,3::r=>some (.stop,r)
 |_+1,_=>none
def tW(P:Program)(n:Nat):Code→List wI→Option (S×List wI)
 | .skip,an=>some (.skip,an)
 | .region _ ops draw,an=>
  match an with
  | []=>none
  | (aO,q,x::tr)::an=>
   match iC P n ops q 0 ops.toList with
   |none=>none
   |some ss=>
    match Ke (tr.length+2) (x::tr)with
    |some (t,[])=>
     if draw=true∧AR ops (Region.before ops)=true∧Ua ops (Region.before ops) (LZ ss) t (Array.replicate ops.size false) []=true∧Region.noSelect ops=true then(attach ss t).map fun ts=>(.qA ts aO,an)else none
    |_=>none
  | (aO,q,[])::an=>
   match iC P n ops q 0 ops.toList with
   |none=>none
   |some ss=>
    if draw=false∨(AR ops (Region.before ops)=true∧wJ ops (Region.before ops) (Sc ss)=true∧Region.noSelect ops=true)then some (.aY ss aO,an)else none
 | .seq a b,an=>
  match tW P n a an with
  |none=>none
  |some (x,an)=>match tW P n b an with
   |none=>none
   |some (y,an)=>some (.seq x y,an)
 | .cond c a b,an=>
  match tW P n a an with
  |none=>none
  |some (x,an)=>match tW P n b an with
   |none=>none
   |some (y,an)=>some (.cond c x y,an)
 | .block id a,an=>match tW P n a an with
  |none=>none
  |some (x,an)=>some (.NR id x,an)
 | .loop a,an=>
  match an with
  | []=>none
  | (L,_,_)::an=>match tW P n a an with
   |none=>none
   |some (x,an)=>some (.loop L x,an)
 | .exit id,an=>some (.exit id,an)
 | .ret,an=>some (.ret,an)
 | .refuse _,an=>some (.bad,an)
 |_,_=>none
theorem wp_loop_ghost{P:Program}{Q:Exit→Act→World→Prop}{a:Act}{w:World}{c:Code}(I:Nat→Act→World→Prop){m:Nat}(h₀:I m a w)
  (round:∀m a w,I m a w→c.wp P (Exit.then (fun a' w'=>∃m',m'<m∧I m' a' w') Q) a w):(Code.loop c).wp P Q a w:=by
 intro b k cs
 have key:∀n a w,I n a w→∃e a' w',Q e a' w'∧Arrives P (lone (b.at a (.code c:: .inLoop c::k)) cs w) b k cs e a' w':=by
  intro n
  induction n using Nat.strongRecOn with
  |_ n ih=>
   intro a w hI
   obtain⟨e,a₁,w₁,hq,L8⟩:=round n a w hI b (.inLoop c::k) cs
   cases e with
   |normal=>
    obtain⟨m',bf,hI₁⟩:=hq
    obtain⟨e₂,a₂,w₂,hq₂,aaR⟩:=ih m' bf a₁ w₁ hI₁
    exact⟨e₂,a₂,w₂,hq₂,.of_steps (Steps.trans L8 (.one step_inLoop)) aaR⟩
   |exit id=>exact⟨_,a₁,w₁,hq,.pass (x:=.inLoop c) rfl (by grind) L8⟩
   |goto l=>exact⟨_,a₁,w₁,hq,.pass (x:=.inLoop c) rfl (by grind) L8⟩
   |ret=>exact⟨_,a₁,w₁,hq,.pass (x:=.inLoop c) rfl (by grind) L8⟩
   |panic ch=>exact⟨_,a₁,w₁,hq,.pass (x:=.inLoop c) rfl (by grind) L8⟩
   |outgrown=>exact⟨_,a₁,w₁,hq,.pass (x:=.inLoop c) rfl (by grind) L8⟩
 obtain⟨e,a',w',hq,L8⟩:=key _ a w h₀
 exact⟨e,a',w',hq,.of_steps (.one step_loop) L8⟩
theorem L9{P:Program}{n:Nat}(hm:P.follows .mixedOrders=true):∀ (c:Code) (an:List wI) (s:S) (Sg:List wI),tW P n c an=some (s,Sg)→
  ∀ (env:Env) (a:Act) (w:World) (Kn:Env→Hp→Prop) (Kx:Nat→Env→Hp→Prop) (Kr:Env→Hp→Prop) (Q:Exit→Act→World→Prop),Holds env a n→vc P s env w.heap Kn Kx Kr→
   (∀bv a' w',cz w w'→Holds bv a' n→Kn bv w'.heap→Q .normal a' w')→
   (∀i bv a' w',cz w w'→Holds bv a' n→Kx i bv w'.heap→Q (.exit i) a' w')→
   (∀bv a' w',cz w w'→Holds bv a' n→Kr bv w'.heap→Q .ret a' w')→c.wp P Q a w:=by
 intro c
 induction c with
 |skip=>
  intro an s Sg hd env a w Kn Kx Kr Q hh h hn hx hr
  simp only[tW,aoq,Prod.mk.injEq]at hd
  obtain⟨rfl,rfl⟩:=hd
  exact wp_skip (hn env a w (cz.refl w) hh h)
 |region id ops draw=>
  intro an s Sg hd env a w Kn Kx Kr Q hh h hn hx hr
  unfold tW at hd
  split at hd
  ·cases hd
  ·rename_i aO q x tr an0
   split at hd
   ·cases hd
   ·rename_i ss hss
    split at hd
    ·rename_i t ht
     split at hd
     ·rename_i hc
      obtain⟨rfl,h1,h2,h3⟩:=hc
      cases hts:attach ss t with
      |none=>grind
      |some ts=>
       rw[hts]at hd
       simp only[Option.map_some,aoq,Prod.mk.injEq]at hd
       obtain⟨rfl,rfl⟩:=hd
       have hl:∀k,ops.toList[k]? =ops[0+k]? :=fun k=>by simp
       have hQ:∀a' w',cz w w'→(∃bv,Holds bv a' n∧Kn (Env.aO bv aO) w'.heap)→Q .normal a' w':=fun a' w' hs ⟨bv,sd,hk⟩=>hn _ a' w' hs (sd.aO aO) hk
       have dL:=NQ (P:=P) (ops:=ops) (n:=n) ops.toList 0 ss hl hss
       obtain⟨Inv,hI,h⟩:=h
       have h4:=L0 (P:=P) (ops:=ops) (n:=n) (q:=q) (Inv:=Inv) (ss:=ss) (by grind) t ts hts env a w.heap hh h
       grind [F0,NS]
     grind
    grind
  ·rename_i aO q an0
   split at hd
   ·cases hd
   ·rename_i ss hss
    split at hd
    ·rename_i aaS
     simp only[aoq,Prod.mk.injEq]at hd
     obtain⟨rfl,rfl⟩:=hd
     have hl:∀k,ops.toList[k]? =ops[0+k]? :=fun k=>by simp
     have hQ:∀a' w',cz w w'→(∃bv,Holds bv a' n∧Kn (Env.aO bv aO) w'.heap)→Q .normal a' w':=fun a' w' hs ⟨bv,sd,hk⟩=>hn _ a' w' hs (sd.aO aO) hk
     cases draw with
     |false=>
      have h1:=NO (P:=P) (ops:=ops) (n:=n) ops.toList 0 ss hl hss env a w.heap hh h
      refine F2 (K:=fun a' H'=>∃bv,Holds bv a' n∧Kn (Env.aO bv aO) H') hQ ?_
      rw[List.range_eq_range']
      simpa[NS]using h1
     |true=>
      obtain⟨h1,h2,h3⟩:=aaS.resolve_left (by simp)
      have h4:=NP (P:=P) (ops:=ops) (n:=n) (cls:=Sc ss) ops.toList 0 ss hl hss (fun k s hk=>by simp[Sc,hk]) env a w.heap hh h
      refine F6 (K:=fun a' H'=>∃bv,Holds bv a' n∧Kn (Env.aO bv aO) H') hm h1 h2 h3 hQ ?_
      rw[List.range_eq_range']
      simpa[NS]using h4
    grind
 |seq x y ihx ihy=>
  intro an s Sg hd env a w Kn Kx Kr Q hh h hn hx hr
  unfold tW at hd
  split at hd
  ·cases hd
  ·rename_i sx W8 W9
   split at hd
   ·cases hd
   ·rename_i sy an2 hdy
    simp only[aoq,Prod.mk.injEq]at hd
    obtain⟨rfl,rfl⟩:=hd
    refine wp_seq (ihx an sx W8 W9 env a w _ Kx Kr _ hh h ?_ ?_ ?_)
    ·intro bv a' w' hs sd hk
     exact ihy W8 sy _ hdy bv a' w' Kn Kx Kr Q sd hk (fun e b v Es=>hn e b v (hs.trans Es)) (fun i e b v Es=>hx i e b v (hs.trans Es)) (fun e b v Es=>hr e b v (hs.trans Es))
    ·intro i bv a' w' hs sd hk;exact hx i bv a' w' hs sd hk
    ·intro bv a' w' hs sd hk;exact hr bv a' w' hs sd hk
 |cond c x y ihx ihy=>
  intro an s Sg hd env a w Kn Kx Kr Q hh h hn hx hr
  unfold tW at hd
  split at hd
  ·cases hd
  ·rename_i sx W8 W9
   split at hd
   ·cases hd
   ·rename_i sy an2 hdy
    simp only[aoq,Prod.mk.injEq]at hd
    obtain⟨rfl,rfl⟩:=hd
    rw[UQ]at h
    unfold FX at h
    split at h
    ·rename_i v hv
     obtain⟨b,hb,h2⟩:=yW h
     subst hb
     have hc:=hh.uP _ _ hv
     refine wp_cond_split hc (fun hb=>?_) (fun hb=>?_)
     ·subst hb;exact ihx an sx W8 W9 env a w Kn Kx Kr Q hh h2 hn hx hr
     ·subst hb;exact ihy W8 sy _ hdy env a w Kn Kx Kr Q hh h2 hn hx hr
    grind
 |block id x ih=>
  intro an s Sg hd env a w Kn Kx Kr Q hh h hn hx hr
  unfold tW at hd
  split at hd
  ·cases hd
  ·rename_i sx W8 W9
   simp only[aoq,Prod.mk.injEq]at hd
   obtain⟨rfl,rfl⟩:=hd
   refine wp_block (ih an sx _ W9 env a w Kn _ Kr _ hh h (fun e b v hs sd hk=>hn e b v hs sd hk) ?_ (fun e b v hs sd hk=>hr e b v hs sd hk))
   intro i bv a' w' hs sd hk
   show if i=id then Q .normal a' w' else Q (.exit i) a' w'
   by_cases e:i=id
   ·subst e
    simp only[beq_self_eq_true,FW]at hk
    grind
   ·have:(i==id)=false:=by simpa using e
    simp only[this,FW]at hk
    grind
 |loop x ih=>
  intro an s Sg hd env a w Kn Kx Kr Q hh h hn hx hr
  unfold tW at hd
  split at hd
  ·cases hd
  ·rename_i L q tr an0
   split at hd
   ·cases hd
   ·rename_i sx W8 W9
    simp only[aoq,Prod.mk.injEq]at hd
    obtain⟨rfl,rfl⟩:=hd
    obtain⟨I,⟨m,h0⟩,round⟩:=h
    refine wp_loop_ghost (fun m a' w'=>cz w w'∧∃bv,Holds bv a' n∧I m bv w'.heap) ⟨cz.refl w,_,hh.aO L,h0⟩ ?_
    rintro m a' w' ⟨hs,bv,sd,hI⟩
    refine ih an0 sx _ W9 bv a' w' _ Kx Kr _ sd (round m bv w'.heap hI) ?_ ?_ ?_
    ·rintro e b v Es hb ⟨m',bf,UR⟩
     exact⟨m',bf,hs.trans Es,_,hb.aO L,UR⟩
    ·intro i e b v Es hb hk;exact hx i e b v (hs.trans Es) hb hk
    ·intro e b v Es hb hk;exact hr e b v (hs.trans Es) hb hk
 |exit id=>
  intro an s Sg hd env a w Kn Kx Kr Q hh h hn hx hr
  simp only[tW,aoq,Prod.mk.injEq]at hd
  obtain⟨rfl,rfl⟩:=hd
  exact wp_exit (hx id env a w (cz.refl w) hh h)
 |ret=>
  intro an s Sg hd env a w Kn Kx Kr Q hh h hn hx hr
  simp only[tW,aoq,Prod.mk.injEq]at hd
  obtain⟨rfl,rfl⟩:=hd
  exact wp_ret (hr env a w (cz.refl w) hh h)
 |refuse r=>
  intro an s Sg hd env a w Kn Kx Kr Q hh h hn hx hr
  simp only[tW,aoq,Prod.mk.injEq]at hd
  obtain⟨rfl,rfl⟩:=hd
  exact h.elim
 |_=>intro an s Sg hd;simp[tW]at hd
inductive Xa where
 |tmp(t:Nat)
 |one(t:Nat)
 |agg(t n:Nat)
 deriving Inhabited
structure Fn where
 np:Nat
 Zp:List Xa
 body:S
 deriving Inhabited
def se(env:Env)(H:Hp):List Xa→(List Value→Prop)→Prop
 | [],F=>F []
 | .tmp t::r,F=>aD (Env.find env t) fun v=>se env H r fun vs=>F (v::vs)
 | .one t::r,F=>aD (Env.find env t) fun p=>wU p fun b o=>aD (H.rd b) fun l=>aD l[o]? fun v=>se env H r fun vs=>F (v::vs)
 | .agg t n::r,F=>aD (Env.find env t) fun p=>wU p fun b o=>aD (H.rd b) fun l=>eo (o+n≤l.length) (se env H r fun vs=>F (.agg ((l.drop o).take n).toArray::vs))
@[go_sem ↓] theorem aaV(env:Env)(H:Hp)(F:List Value→Prop):se env H [] F=F []:=(rfl)
@[go_sem ↓] theorem aaW(env:Env)(H:Hp)(t:Nat)(r:List Xa)(F:List Value→Prop):se env H (.tmp t::r) F=aD (Env.find env t) fun v=>se env H r fun vs=>F (v::vs):=(rfl)
@[go_sem ↓] theorem aaX(env:Env)(H:Hp)(t:Nat)(r:List Xa)(F:List Value→Prop):
  se env H (.one t::r) F=aD (Env.find env t) fun p=>wU p fun b o=>aD (H.rd b) fun l=>aD l[o]? fun v=>se env H r fun vs=>F (v::vs):=(rfl)
@[go_sem ↓] theorem aaY(env:Env)(H:Hp)(t n:Nat)(r:List Xa)(F:List Value→Prop):
  se env H (.agg t n::r) F=aD (Env.find env t) fun p=>wU p fun b o=>aD (H.rd b) fun l=>eo (o+n≤l.length) (se env H r fun vs=>F (.agg ((l.drop o).take n).toArray::vs)):=(rfl)
def Kf:List Value→Value
 | [v]=>v
 |vs=>.tuple vs.toArray
@[go_sem] theorem adq(v:Value):Kf [v]=v:=(rfl)
@[go_sem] theorem adr:Kf []= .tuple [].toArray:=(rfl)
@[go_sem] theorem ads(v u:Value)(r:List Value):Kf (v::u::r)= .tuple (v::u::r).toArray:=(rfl)
def jq:Nat→List Value→Env
 |_,[]=>[]
 |i,v::r=>(i,v)::jq (i+1) r
@[go_sem] theorem We(i:Nat):jq i []=[]:=(rfl)
@[go_sem] theorem US(i:Nat)(v:Value)(r:List Value):jq i (v::r)=(i,v)::jq (i+1) r:=(rfl)
def Fn.vc(P:Program)(F:Fn)(args:List Value)(H:Hp)(K:Value→Hp→Prop):Prop:=
 args.length=F.np∧Go.Vc.vc P F.body (jq 0 args) H (fun env H=>se env H F.Zp fun vs=>K (Kf vs) H) (fun _ _ _=>False) (fun env H=>se env H F.Zp fun vs=>K (Kf vs) H)
def nT(P:Program):List ResultVar→Option (List Xa)
 | []=>some []
 | .tmp t::r=>(nT P r).map (.tmp t:: ·)
 | .cell t T::r=>if(P.info? T).isSome∧(P.underlying T).isSome then(nT P r).map ((if eI P T then .agg t (P.cellsOf T)else .one t):: ·)else none
def ep(P:Program)(f:FuncId)(an:List wI):Option Fn:=
 match P.funcs[f]? with
 |none=>none
 |some fn=>
  match fn.body with
  |none=>none
  |some c=>
   match tW P fn.ntmps c an with
   |some (s,[])=>if fn.params.size≤fn.ntmps then(nT P fn.results.toList).map fun rs=>⟨fn.params.size,rs,s⟩else none
   |_=>none
def CR(tmps:Array Value):ResultVar→Sem Value
 | .tmp t=>pure (tmps.getD t undef)
 | .cell p t=>do loadVar t (←asAddr (tmps.getD p undef))
theorem AS{P:Program}{w:World}{env:Env}{a:Act}{n:Nat}(hh:Holds env a n):∀ (rs:List ResultVar) (l:List Xa) (F:List Value→Prop),nT P rs=some l→se env w.heap l F→
  ∃vs,F vs∧(rs.mapM (CR a.tmps)).run P w= .ok vs w:=by
 intro rs
 induction rs with
 |nil=>intro l F hl h;simp only[nT,aoq]at hl;subst hl;exact⟨[],h,rfl⟩
 |cons r rs ih=>
  intro l F hl h
  cases r with
  |tmp t=>
   unfold nT at hl
   cases hr:nT P rs with
   |none=>grind
   |some l'=>
    rw[hr]at hl
    simp only[Option.map_some,aoq]at hl
    subst hl
    obtain⟨v,hv,h⟩:=aB h
    obtain⟨vs,hF,Kg⟩:=ih l' _ hr h
    have e:a.tmps.getD t undef=v:=by simp[hh.AO t v hv]
    exact⟨v::vs,hF,by rw[List.mapM_cons];simp only[CR,Sem.run_bind,Sem.run_pure,Result.andThen_ok,e,Kg]⟩
  |cell t T=>
   unfold nT at hl
   split at hl
   ·rename_i hc
    cases hr:nT P rs with
    |none=>grind
    |some l'=>
     rw[hr]at hl
     simp only[Option.map_some,aoq]at hl
     subst hl
     cases hb:eI P T
     ·rw[hb]at h
      obtain⟨p,hp,h⟩:=aB h
      obtain⟨b,o,rfl,h⟩:=fG h
      obtain⟨lb,uF,h⟩:=aB h
      obtain⟨v,hv,h⟩:=aB h
      obtain⟨vs,hF,Kg⟩:=ih l' _ hr h
      have e:a.tmps.getD t undef= .pointer (some ⟨b,o,none⟩):=by simp[hh.AO t _ hp]
      exact⟨v::vs,hF,by rw[List.mapM_cons];simp only[CR,Sem.run_bind,Sem.run_pure,Result.andThen_ok,e,asAddr,(jr hc.1 hc.2 uF).2 hb v hv,Kg]⟩
     ·rw[hb]at h
      obtain⟨p,hp,h⟩:=aB h
      obtain⟨b,o,rfl,h⟩:=fG h
      obtain⟨lb,uF,h⟩:=aB h
      obtain⟨hn,h⟩:=h.out
      obtain⟨vs,hF,Kg⟩:=ih l' _ hr h
      have e:a.tmps.getD t undef= .pointer (some ⟨b,o,none⟩):=by simp[hh.AO t _ hp]
      exact⟨_,hF,by rw[List.mapM_cons];simp only[CR,Sem.run_bind,Sem.run_pure,Result.andThen_ok,e,asAddr,(jr hc.1 hc.2 uF).1 hb hn,Kg]⟩
   grind
theorem Jw:∀ (args:List Value) (i k:Nat) (v:Value),Env.find (jq i args) k=some v→i≤k∧args[k - i]? =some v:=by
 intro args
 induction args with
 |nil=>intro i k v h;cases h
 |cons x r ih=>
  intro i k v h
  simp only[jq,Env.find]at h
  constructor<;>grind
theorem Ma{P:Program}(hm:P.follows .mixedOrders=true){f:FuncId}{an:List wI}{F:Fn}(hd:ep P f an=some F){args:List Value}{H:Hp}{K:Value→Hp→Prop}
  (h:F.vc P args H K):ag P f args H K:=by
 unfold ep at hd
 split at hd
 ·cases hd
 ·rename_i fn hf
  split at hd
  ·cases hd
  ·rename_i c hb
   split at hd
   ·rename_i s hs
    split at hd
    ·rename_i AB
     cases hr:nT P fn.results.toList with
     |none=>rw[hr]at hd;cases hd
     |some rs=>
      rw[hr]at hd
      simp only[Option.map_some,aoq]at hd
      subst hd
      obtain⟨bu,h⟩:=h
      simp only at bu h
      intro w hw
      subst hw
      refine calls_of_wp hf hb ?_
      have hh:Holds (jq 0 args) {tmps:=args.toArray++Array.replicate (fn.ntmps - args.toArray.size) undef,defers:=[]} fn.ntmps:=by
       refine⟨by grind,rfl,fun k v hk=>?_⟩
       obtain⟨_,h2⟩:=Jw args 0 k v hk
       have bf:k<args.length:=by
        rcases ao3 k args.length with h'|h'
        ·exact h'
        ·grind
       rw[apr (by omega)]
       simpa using h2
      have AT:∀bv a' w',cz w w'→Holds bv a' fn.ntmps→se bv w'.heap rs (fun vs=>K (Kf vs) w'.heap)→
        a'.defers=[]∧∃v,(results fn a'.tmps).run P w'= .ok v w'∧(∃v_1,Ending.returned v=Ending.returned v_1∧cz w w'∧K v_1 w'.heap):=by
       intro bv a' w' Nz sd hk
       obtain⟨vs,hF,Kg⟩:=AS (P:=P) sd fn.results.toList rs _ hr hk
       refine⟨sd.defers,Kf vs,?_,_,rfl,Nz,hF⟩
       change (do let vs ←fn.results.mapM (CR a'.tmps);pure (if h:vs.size=1 then vs[0]else .tuple vs):Sem Value).run P w'=_
       rw[Array.mapM_eq_mapM_toList]
       simp only[Sem.run_bind,Sem.run_map,Kg,Result.andThen_ok,Sem.run_pure]
       congr 1
       cases vs with
       |nil=>rfl
       |cons x r=>cases r with
        |nil=>rfl
        |cons y r=>rfl
      refine L9 hm c an s [] hs _ _ w _ _ _ _ hh h ?_ ?_ ?_
      ·exact fun bv a' w' Nz sd hk=>AT bv a' w' Nz sd hk
      ·grind
      ·exact fun bv a' w' Nz sd hk=>AT bv a' w' Nz sd hk
    ·cases hd
   ·cases hd
end Go.Vc

namespace Go.Vc
theorem wrap64{n:Int}(h0: -9223372036854775808≤n)(h1:n≤9223372036854775807):IntKind.i64.wrap n=n:=by
 have e:(2^IntKind.i64.bits:Int)=18446744073709551616:=rfl
 have e':(2^ (IntKind.i64.bits - 1):Int)=9223372036854775808:=rfl
 unfold IntKind.wrap
 simp only[e,e',IntKind.signed,Bool.true_and,apx]
 omega
theorem UT{n:Int}(h0:0≤n)(h1:n≤18446744073709551615):IntKind.u64.wrap n=n:=by
 have e:(2^IntKind.u64.bits:Int)=18446744073709551616:=rfl
 unfold IntKind.wrap
 simp only[e,IntKind.signed,Bool.false_and]
 grind
theorem PD{n:Int}(h0:0≤n)(h1:n≤4294967295):IntKind.u32.wrap n=n:=by
 have e:(2^IntKind.u32.bits:Int)=4294967296:=rfl
 unfold IntKind.wrap
 simp only[e,IntKind.signed,Bool.false_and]
 grind
def Sl(H:Hp)(size:Nat)(v:Value)(n:Nat)(xs:List Value)(fp:Option Nat):Prop:=
 xs.length=n*size∧
 match fp with
 |none=>n=0∧v= .slice none 0 0
 |some b=>∃l c,v= .slice (some ⟨b,0,none⟩) n c∧H.own b=some l∧n≤c∧c*size≤l.length∧l.take (n*size)=xs
theorem Sl.nil(H:Hp)(size:Nat):Sl H size (.slice none 0 0) 0 [] none:=⟨by simp,rfl,rfl⟩
theorem Sl.ext{H H':Hp}{size n:Nat}{v:Value}{xs:List Value}{fp:Option Nat}{S:Nat→Prop}(h:Sl H size v n xs fp)(e:ah S H H')(hs:∀b,fp=some b→¬S b):Sl H' size v n xs fp:=by
 obtain⟨hl,h⟩:=h
 refine⟨hl,?_⟩
 cases fp with
 |none=>exact h
 |some b=>
  obtain⟨l,c,h1,h2,h3⟩:=h
  exact⟨l,c,h1,e.own h2 (hs b rfl),h3⟩
theorem Sl.lt{H:Hp}{size n:Nat}{v:Value}{xs:List Value}{b:Nat}(h:Sl H size v n xs (some b)):b<H.size:=by
 obtain⟨_,l,c,_,h2,_⟩:=h
 exact aE h2
theorem Sl.lit(H:Hp)(T:TypeId)(size n:Nat)(xs:List Value)(hx:xs.length=n*size):Sl (H.new T xs) size (.slice (some ⟨H.size,0,none⟩) n n) n xs (some H.size):=
 ⟨hx,xs,n,rfl,aA H T xs,aox _,by omega,by grind⟩
theorem Sl.dM{H:Hp}{T:TypeId}{size n b:Nat}{xs:List Value}(hx:xs.length=n*size)(hb:b=H.size):Sl (H.new T xs) size (.slice (some ⟨b,0,none⟩) n n) n xs (some b):=
 hb▸Sl.lit H T size n xs hx
def fh(H:Hp)(size:Nat)(v:Value)(n:Nat)(xs:List Value):Prop:=
 xs.length=n*size∧((n=0∧∃a c,v= .slice a 0 c)∨∃b o c l,v= .slice (some ⟨b,o,none⟩) n c∧H.rd b=some l∧o+n*size≤l.length∧(l.drop o).take (n*size)=xs)
theorem Sl.rd{H:Hp}{size n:Nat}{v:Value}{xs:List Value}{fp:Option Nat}(h:Sl H size v n xs fp):fh H size v n xs:=by
 obtain⟨hl,h⟩:=h
 refine⟨hl,?_⟩
 cases fp with
 |none=>grind
 |some b=>
  obtain⟨l,c,h1,h2,h3,h4,h5⟩:=h
  refine .inr ⟨b,0,c,l,h1,ae h2,?_,by grind⟩
  grind
theorem fh.rowOf{H:Hp}{size n:Nat}{v:Value}{xs:List Value}{F:Nat→List Value→Prop}(h:fh H size v n xs)(hf:F n xs):rowOf H size v F:=by
 obtain⟨hl,⟨rfl,a,c,rfl⟩| ⟨b,o,c,l,rfl,h2,h3,h4⟩⟩:=h
 ·have:xs=[]:=by grind
  subst this
  exact hf
 ·by_cases hn:n=0
  ·subst hn
   have:xs=[]:=by grind
   subst this
   exact hf
  ·have e0:(n==0)=false:=by simpa using hn
   show FW (n==0) _ _
   rw[e0]
   show aD (H.rd b) _
   rw[h2]
   exact⟨h3,by grind⟩
theorem fh.ext{H H':Hp}{size n:Nat}{v:Value}{xs:List Value}{S:Nat→Prop}(h:fh H size v n xs)(e:ah S H H')(hs:∀b,b<H.size→¬S b):fh H' size v n xs:=by
 obtain⟨hl,h| ⟨b,o,c,l,rfl,h2,h3⟩⟩:=h
 ·exact⟨hl,.inl h⟩
 ·exact⟨hl,.inr ⟨b,o,c,l,rfl,e.rd h2 (hs b (PE h2)),h3⟩⟩
theorem fh.fresh{H H':Hp}{size n:Nat}{v:Value}{xs:List Value}(h:fh H size v n xs)(e:ai H H'):fh H' size v n xs:=h.ext e fun _ _ h=>h
theorem D3{l xs new:List Value}{p:Nat}(hx:l.take p=xs)(hp:xs.length=p)(hn:p+new.length≤l.length):(aX l p new).take (p+new.length)=xs++new:=by
 apply aoM
 grind [getElem?_splice]
theorem Sl.append{H:Hp}{T size bytes n m:Nat}{z:List Value}{s x:Value}{xs ys:List Value}{fp:Option Nat}{K:Value→Hp→Prop}(h:Sl H size s n xs fp)(hx:fh H size x m ys)
  (hz:z.length=size)(h1:fK ys)(hb:(n+m)*bytes≤2^47)
  (hk:∀v' H' di,Sl H' size v' (n+m) (xs++ys) di→ah (fun b=>fp=some b) H H'→(di=fp∨∃b,di=some b∧H.size≤b∧b<H'.size)→K v' H'):
  gH T size bytes z s x H K:=by
 obtain⟨hl,h⟩:=h
 have key:∀base c,s= .slice base n c→(∀b,base=some b→fp≠none)→gH T size bytes z s x H K:=by
  intro base c hs aa0
  subst hs
  refine fh.rowOf hx (F:=fun m new=>(n+m≤c→m=0→K (.slice base n c) H)∧
   (n+m≤c→m≠0→tq base fun b o=>aD (Ie (H.own b) (H.Az b)) fun l=>eo (o+(n+m)*size≤l.length∧fK new) (K (.slice base (n+m) c) (H.wr b (aX l (o+n*size) new))))∧
   (c<n+m→Builtin.nextslicecap (n+m) c*bytes≤2^48∧
    rowOf H size (.slice base n c) fun _ Qn=>∀c',n+m≤c'→K (.slice (some ⟨H.size,0,none⟩) (n+m) c') (H.new T (Qn++new++dE z (c' - (n+m)))))) ?_
  refine⟨fun AB hm=>?_,fun AB hm=>?_,fun bf=>⟨?_,?_⟩⟩
  ·subst hm
   have hy:ys=[]:=aoI.1 (by have:=hx.1;omega)
   subst hy
   exact hk _ _ fp (by rw[aoO];exact⟨by omega,h⟩) (ah.refl _ _) (.inl rfl)
  ·cases fp with
   |none=>
    obtain⟨rfl,hv⟩:=h
    injection hv with e1 e2 e3
    omega
   |some b=>
    obtain⟨l,c',hv,h2,h3,h4,h5⟩:=h
    injection hv with e1 e2 e3
    subst e1;subst e3
    show aD (Ie (H.own b) (H.Az b)) _
    rw[h2]
    have h6:=apl size AB
    refine⟨⟨by omega,h1⟩,?_⟩
    rw[aoi]
    refine hk _ _ (some b) ⟨by simp[hl,hx.1,api],_,c,rfl,af h2,AB,by rw[gZ];exact h4,?_⟩ ((ah.refl (fun x=>some b=some x) H).wr (fun _=>rfl) _) (.inl rfl)
    have:=D3 (new:=ys) h5 hl (by rw[hx.1];grind)
    rw[hx.1]at this
    grind
  ·have h2:Builtin.nextslicecap (n+m) c≤2*(n+m):=nextslicecap_le bf
   have h3:=apl bytes h2
   grind
  ·refine fh.rowOf (n:=n) (xs:=xs) (Sl.rd (fp:=fp) ⟨hl,h⟩) ?_
   intro c' Ni
   refine hk _ _ (some H.size) ⟨by simp[hl,hx.1,api],_,c',rfl,aA _ _ _,Ni,?_,?_⟩ ((ah.refl _ _).new _ _) (.inr ⟨_,rfl,aox _,by rw[ak];omega⟩)
   ·simp only[aos,hl,hx.1,uS,hz]
    rw[←api,←api]
    grind
   ·rw[show(n+m)*size=(xs++ys).length by simp[hl,hx.1,api]]
    grind
 grind
theorem wK(l:List Value)(i n:Nat)(x:Value):(l.set i x).take n=(l.take n).set i x:=by
 apply aoM
 grind
theorem Sl.sf{H:Hp}{n c s:Nat}{xs l:List Value}(h:Sl H 1 (.slice (some ⟨s,0,none⟩) n c) n xs (some s))(hl:H.own s=some l)(i:Nat)(x:Value):
  Sl (H.wr s (l.set i x)) 1 (.slice (some ⟨s,0,none⟩) n c) n (xs.set i x) (some s):=by
 obtain⟨h1,l',c',hv,h2,h3,h4,h5⟩:=h
 rw[hl]at h2
 injection h2 with h2
 subst h2
 injection hv with _ _ hc
 subst hc
 exact⟨by grind,_,c,rfl,af hl,h3,by grind,by rw[wK,h5]⟩
theorem Sl.get{H:Hp}{n c s size:Nat}{xs l:List Value}(h:Sl H size (.slice (some ⟨s,0,none⟩) n c) n xs (some s))(hl:H.own s=some l){i:Nat}{x:Value}(hx:xs[i]? =some x):l[i]? =some x:=by
 obtain⟨h1,l',c',hv,h2,h3,h4,h5⟩:=h
 grind
def qB(es:List MapEntry)(i:Int):Option Value:=(es.find? fun e=>match e.key with| .int .i64 j=>i==j|_=>false).map (·.val)
def AU(es:List MapEntry):Prop:=∃ks:List Int,es.map (·.key)=ks.map (Value.int .i64)∧ks.Nodup
def mi(H:Hp)(b:Nat)(f:Int→Option Value):Prop:=∃es k,H.mp b=some (es,k)∧AU es∧∀i,qB es i=f i
theorem mi.new(H:Hp):mi H.js H.size (fun _=>none):=⟨[],0,PF H,⟨[],rfl,apJ⟩,fun _=>rfl⟩
theorem mi.ext{H H':Hp}{b:Nat}{f:Int→Option Value}{S:Nat→Prop}(h:mi H b f)(e:ah S H H')(hs:¬S b):mi H' b f:=by
 obtain⟨es,k,h1,h2⟩:=h
 exact⟨es,k,e.mp h1 hs,h2⟩
theorem mi.lt{H:Hp}{b:Nat}{f:Int→Option Value}(h:mi H b f):b<H.size:=by
 obtain⟨es,k,h1,h2⟩:=h
 exact Sh h1
theorem nJ(e:MapEntry)(es:List MapEntry)(j i:Int)(he:e.key= .int .i64 j):qB (e::es) i=if i=j then some e.val else qB es i:=by
 grind [qB]
theorem yX{e:MapEntry}{es:List MapEntry}(h:AU (e::es)):∃j,e.key= .int .i64 j∧AU es∧∀x∈es,x.key≠ .int .i64 j:=by
 obtain⟨ks,h1,h2⟩:=h
 cases ks with
 |nil=>grind
 |cons j ks=>
  simp only[apd,List.cons.injEq]at h1
  rw[aoy]at h2
  refine⟨j,h1.1,⟨ks,h1.2,h2.2⟩,fun x hx hk=>h2.1 ?_⟩
  have hm:x.key∈es.map (·.key):=by grind
  grind
theorem CS(i:Int):∀ (es:List MapEntry),AU es→∀n:Nat,
  (qB es i=none∧jt .int (.int .i64 i) es n=some none)∨
  ∃j e,es[j]? =some e∧e.key= .int .i64 i∧qB es i=some e.val∧jt .int (.int .i64 i) es n=some (some (n+j,e.val)):=by
 intro es
 induction es with
 |nil=>grind [jt,qB]
 |cons e es ih=>
  intro h n
  obtain⟨j,hj,hes,bN⟩:=yX h
  have hq:CH .int (.int .i64 i) e.key=some (decide (i=j)):=by rw[hj];simp[CH,dI]
  by_cases NT:i=j
  ·subst NT
   refine .inr ⟨0,e,rfl,hj,by rw[nJ e es i i hj,if_pos rfl],?_⟩
   unfold jt
   grind
  ·have h2:jt .int (.int .i64 i) (e::es) n=jt .int (.int .i64 i) es (n+1):=by
    rw[jt,hq,aow NT]
   have h3:qB (e::es) i=qB es i:=by rw[nJ e es j i hj,if_neg NT]
   rw[h2,h3]
   rcases ih hes (n+1)with ⟨h4,h5⟩| ⟨k,e',h4,h5,h6,h7⟩
   ·grind
   ·exact .inr ⟨k+1,e',by grind,h5,h6,by grind⟩
theorem mi.look{H:Hp}{b:Nat}{f:Int→Option Value}(h:mi H b f)(i:Int)(F:Option Value→Prop):D1 H .int (some b) (.int .i64 i) F=F (f i):=by
 obtain⟨es,k,h1,h2,h3⟩:=h
 unfold D1
 simp only[h1,yY]
 rcases CS i es h2 0 with ⟨h4,h5⟩| ⟨j,e,h4,h5,h6,h7⟩
 ·rw[h5,←h3 i,h4];rfl
 ·rw[h7,←h3 i,h6];rfl
def Kh(f:Int→Option Value)(i:Int)(v:Value):Int→Option Value:=fun j=>if j=i then some v else f j
def NU(f:Int→Option Value)(i:Int):Int→Option Value:=fun j=>if j=i then none else f j
theorem Mb(es:List MapEntry)(e:MapEntry)(i j:Int)(hj:e.key= .int .i64 j)(hn:qB es j=none):qB (es++[e]) i=if i=j then some e.val else qB es i:=by
 grind [qB]
theorem Qy{es:List MapEntry}{i:Int}(h:qB es i=none):∀e∈es,e.key≠ .int .i64 i:=by
 intro e he hk
 unfold qB at h
 simp only[Option.map_eq_none_iff,List.find?_eq_none]at h
 grind
theorem Ki{es:List MapEntry}(h:AU es)(j:Nat)(e:MapEntry)(hj:es[j]? =some e)(v:Value)(i:Int)(hk:e.key= .int .i64 i):
  AU (es.modify j fun x=>{x with key:=.int .i64 i,val:=v}):=by
 obtain⟨ks,h1,h2⟩:=h
 refine⟨ks,?_,h2⟩
 rw[←h1]
 apply aoM
 grind
theorem Mc:∀ (es:List MapEntry),AU es→∀ (j:Nat) (e:MapEntry) (v:Value) (i:Int),es[j]? =some e→e.key= .int .i64 i→∀n,
  qB (es.modify j fun x=>{x with key:=.int .i64 i,val:=v}) n=if n=i then some v else qB es n:=by
 intro es
 induction es with
 |nil=>grind
 |cons x es ih=>
  intro h j e v i hj hk n
  obtain⟨q,hq,hes,bN⟩:=yX h
  cases j with
  |zero=>
   grind [nJ]
  |succ j=>
   rw[List.modify_succ_cons,nJ x _ q n hq,nJ x es q n hq,ih hes j e v i (by grind) hk n]
   grind
theorem NV:∀ (es:List MapEntry),AU es→∀ (j:Nat) (e:MapEntry) (i:Int),es[j]? =some e→e.key= .int .i64 i→AU (es.eraseIdx j)∧∀n,qB (es.eraseIdx j) n=if n=i then none else qB es n:=by
 intro es
 induction es with
 |nil=>grind
 |cons x es ih=>
  intro h j e i hj hk
  have h':=h
  obtain⟨q,hq,hes,bN⟩:=yX h
  cases j with
  |zero=>
   grind [qB]
  |succ j=>
   obtain⟨h1,h2⟩:=ih hes j e i (by grind) hk
   have hm:e∈es:=by grind
   have hqi:q≠i:=by grind
   refine⟨?_,fun n=>?_⟩
   ·obtain⟨ks,e1,e2⟩:=h1
    refine⟨q::ks,by grind,?_⟩
    rw[aoy]
    refine⟨fun dW=>?_,e2⟩
    have:Value.int .i64 q∈(es.eraseIdx j).map (·.key):=by rw[e1];exact(by grind)
    obtain⟨y,hy,ey⟩:=apj.1 this
    exact bN y (List.mem_of_mem_eraseIdx hy) ey
   grind [nJ]
theorem Kj(n:Nat)(i:Int):Instr.sameBits (n+1) (.int .i64 i) (.int .i64 i)=true:=by simp[Instr.sameBits]
theorem mi.upd{H:Hp}{b:Nat}{f:Int→Option Value}(h:mi H b f){i:Int}{v:Value}{F:Hp→Prop}(hk:∀H',mi H' b (Kh f i v)→ah (fun x=>x=b) H H'→F H'):
  Xb H .int b (.int .i64 i) v F:=by
 obtain⟨es,k,h1,h2,h3⟩:=h
 unfold Xb
 simp only[h1,yY]
 have tV:∀Wf k',ah (fun x=>x=b) H (H.Eo b Wf k'):=fun Wf k'=>(ah.refl (fun x=>x=b) H).Eo (fun _=>rfl) _ _
 rcases CS i es h2 0 with ⟨h4,h5⟩| ⟨j,e,h4,h5,h6,h7⟩
 ·rw[h5]
  refine⟨rfl,hk _ ⟨_,_,pq h1,?_,fun n=>?_⟩ (tV _ _)⟩
  ·obtain⟨ks,e1,e2⟩:=h2
   refine⟨ks++[i],by simp[Nv,e1],?_⟩
   rw[aoS]
   refine⟨e2,by simp,fun a ha c hc hac=>?_⟩
   simp only[aoB]at hc
   subst hc;subst hac
   have:Value.int .i64 a∈es.map (·.key):=by rw[e1];exact(by grind)
   obtain⟨y,hy,ey⟩:=apj.1 this
   exact Qy h4 y hy ey
  grind [Kh,Nv.eq_2,Mb]
 ·rw[h7]
  refine⟨?_,hk _ ⟨_,_,pq h1,Ki h2 _ e (by grind) _ _ h5,fun n=>?_⟩ (tV _ _)⟩
  ·grind [Fw,Kj]
  ·rw[Nv,aoi,Mc es h2 j e v i h4 h5 n]
   unfold Kh
   grind
theorem mi.del{H:Hp}{b:Nat}{f:Int→Option Value}(h:mi H b f){i:Int}{F:Hp→Prop}(hk:∀H',mi H' b (NU f i)→ah (fun x=>x=b) H H'→F H'):
  Xc H .int b (.int .i64 i) F:=by
 obtain⟨es,k,h1,h2,h3⟩:=h
 unfold Xc
 simp only[h1,yY]
 have tV:∀Wf k',ah (fun x=>x=b) H (H.Eo b Wf k'):=fun Wf k'=>(ah.refl (fun x=>x=b) H).Eo (fun _=>rfl) _ _
 rcases CS i es h2 0 with ⟨h4,h5⟩| ⟨j,e,h4,h5,h6,h7⟩
 ·rw[h5]
  refine hk _ ⟨_,_,pq h1,h2,fun n=>?_⟩ (tV _ _)
  grind [NU,FN.eq_2]
 ·rw[h7]
  obtain⟨e1,e2⟩:=NV es h2 j e i h4 h5
  refine hk _ ⟨_,_,pq h1,by rw[FN,aoi];exact e1,fun n=>?_⟩ (tV _ _)
  grind [NU,FN.eq_1]
end Go.Vc

namespace Go.Vc
section
variable {P : Program} {ev : Ev} {H : Hp} {K K' : Value → Hp → Prop}
theorem NW{s:Shape}{r:Option Nat}{k:Value}{F G:Option Value→Prop}(h:D1 H s r k F)(hk:∀x,F x→G x):D1 H s r k G:=by
 unfold D1 at*
 cases r with
 |none=>exact hk _ h
 |some b=>exact aj h fun m h=>aj h fun x=>hk _
theorem Kk{T size bytes:Nat}{z:List Value}{s x:Value}(h:gH T size bytes z s x H K)(hk:∀v H',K v H'→K' v H'):gH T size bytes z s x H K':=by
 refine lC h fun base n c h=>yV h fun m new h=>?_
 obtain⟨h1,h2,h3⟩:=h
 exact⟨by grind,fun a b=>yU (h2 a b) fun b o h=>aj h fun l h=>bQ h (hk _ _),fun a=>⟨(h3 a).1,yV (h3 a).2 (by grind)⟩⟩
theorem F7(i:dD)(h:i.vc P ev H K)(hk:∀v H',K v H'→K' v H'):i.vc P ev H K':=by
 cases hc:i.cls with
 |pure=>exact PA i hc h hk
 |quiet=>
  cases i<;>simp[dD.cls]at hc<;>simp only[dD.vc]at h ⊢
  ·exact aj h fun v h=>qz h fun b o h=>aj h fun l h=>aj h fun v=>hk _ _
  ·exact aj h fun v h=>qz h fun b o h=>aj h fun l h=>bQ h (hk _ _)
  ·exact aj h fun v h=>aj h fun v h=>wG h fun r h=>bQ h fun h=>NW h fun x=>hk _ _
  ·refine aj h fun v h=>wG h fun r h=>?_
   unfold LW at*
   cases r with
   |none=>exact hk _ _ h
   |some b=>exact aj h fun m=>hk _ _
  ·exact aj h fun v h=>LV h fun l=>hk _ _
 |HZ=>
  cases i<;>simp[dD.cls]at hc<;>simp only[dD.vc]at h ⊢
  ·exact aj h fun v=>hk _ _
  ·exact hk _ _ h
  ·exact FV h fun l=>hk _ _
  ·exact aj h fun v h=>qz h fun b o h=>aj h fun v h=>aj h fun l h=>bQ h fun h=>bQ h fun h=>bQ h (hk _ _)
  ·grind
  ·exact aj h fun v h=>aj h fun v h=>iN h fun n h=>iN h fun c h=>bQ h (hk _ _)
  ·exact aj h fun v h=>aj h fun v h=>aj h fun v h=>wG h fun r h=>aj h fun b h=>bQ h fun h=>aj h fun es h=>aj h fun x h=>bQ h (hk _ _)
  ·exact lB h fun l h=>ag.mono h hk
  ·refine aj h fun v h=>lB h fun l h=>?_
   unfold WW at*
   split at h
   ·exact⟨h.1,h.2.mono hk⟩
   omega
  ·refine aj h fun v h=>lB h fun l h=>?_
   obtain⟨T,v,f,rv,e,hm,hc⟩:=h
   exact⟨T,v,f,rv,e,hm,hc.mono hk⟩
  ·exact aj h fun v h=>aj h fun v h=>Kk h hk
  ·exact aj h fun v h=>aj h fun v h=>wG h fun r h=>aj h fun b h=>bQ h fun h=>aj h fun es h=>aj h fun x=>hk _ _
  ·exact aj h fun v h=>lC h fun a n c h=>by
    rcases h with ⟨h1,h2⟩| ⟨h1,b,o,l,h2,h3,h4,h5,h6⟩
    ·exact .inl ⟨h1,hk _ _ h2⟩
    ·exact .inr (by grind)
  ·refine aj h fun v h=>?_
   unfold jp at*
   split at h
   ·exact fun c hc=>hk _ _ (h c hc)
   omega
  ·exact lB h fun l h=>by obtain⟨v,h1,h2⟩:=h;exact⟨v,h1,hk _ _ h2⟩
theorem Md(s:gY)(h:s.vc P ev H K)(hk:∀v H',K v H'→K' v H'):s.vc P ev H K':=by
 unfold gY.vc at*
 cases hq:s.quiet
 ·rw[hq]at h;exact F7 s.op h hk
 grind
theorem PG{o:Option Value}{F F':Bool→Prop}{N N':Prop}(h:gV o F N)(hf:∀b,F b→F' b)(hn:N→N'):gV o F' N':=by
 rcases Fx h with ⟨b,rfl,h⟩| ⟨vs,rfl,h⟩
 ·exact hf b h
 ·exact hn h
theorem AV{b:Bool}{A A' B B':Prop}(h:FW b A B)(ha:A→A')(hb:B→B'):FW b A' B':=by
 cases b
 ·exact hb h
 ·exact ha h
theorem NX{F F':Env→Hp→Prop}(hk:∀e H,F e H→F' e H):∀ (l:List gY) (env:Env) (H:Hp),iO P F l env H→iO P F' l env H:=by
 intro l
 induction l with
 |nil=>intro env H h;exact hk _ _ h
 |cons s l ih=>
  intro env H h
  unfold iO at h ⊢
  cases hg:s.guard with
  |none=>rw[hg]at h;exact Md s h fun v H'=>ih _ _
  |some g=>
   rw[hg]at h
   exact PG h (fun b h=>AV h (fun h=>Md s h fun v H'=>ih _ _) (ih _ _)) (ih _ _)
theorem CT{s:gY}{env:Env}{F F' N N':Env→Prop}(h:AP s env F N)(hf:∀e,F e→F' e)(hn:∀e,N e→N' e):AP s env F' N':=by
 unfold AP at*
 cases hg:s.guard with
 |none=>grind
 |some g=>rw[hg]at h;exact PG h (fun b h=>AV h (hf _) (hn _)) (hn _)
theorem Si{Inv:Hp→Prop}{F F':Env→Hp→Prop}(hk:∀e H,F e H→F' e H):∀ (t:D2) (env:Env) (H:Hp),CP P Inv F t env H→CP P Inv F' t env H:=by
 intro t
 induction t with
 |done=>intro env H h;exact hk _ _ h
 |stop=>intro env H h;trivial
 |bE s t ih=>intro env H h;exact CT h (fun e h=>F7 s.op h fun v H'=>ih _ _) (fun e=>ih _ _)
 |HS s t ih=>intro env H h;exact CT h (fun e h=>by obtain⟨v,h1,h2⟩:=h;exact⟨v,h1,ih _ _ h2⟩) (fun e=>ih _ _)
 |aT s t r ih ihr=>intro env H h;exact⟨CT h.1 (fun e h=>F7 s.op h fun v H' h=>bQ h (ih _ _)) (fun e=>ih _ _),ihr _ _ h.2⟩
theorem D4:∀ (s:S) (env:Env) (H:Hp) (Kn RG:Env→Hp→Prop) (Kx RH:Nat→Env→Hp→Prop) (Kr RI:Env→Hp→Prop),(∀e H,Kn e H→RG e H)→(∀i e H,Kx i e H→RH i e H)→(∀e H,Kr e H→RI e H)→
  vc P s env H Kn Kx Kr→vc P s env H RG RH RI:=by
 intro s
 induction s with
 |skip=>intro env H Kn RG Kx RH Kr RI hn hx hr h;exact hn _ _ h
 |aY ops aO=>intro env H Kn RG Kx RH Kr RI hn hx hr h;exact NX (fun e H h=>hn _ _ h) ops env H h
 |qA t aO=>intro env H Kn RG Kx RH Kr RI hn hx hr h;obtain⟨Inv,hI,h⟩:=h;exact⟨Inv,hI,Si (fun e H h=>hn _ _ h) t env H h⟩
 |seq a b iha ihb=>intro env H Kn RG Kx RH Kr RI hn hx hr h;exact iha env H _ _ _ _ _ _ (fun e H h=>ihb e H _ _ _ _ _ _ hn hx hr h) hx hr h
 |cond c x y ihx ihy=>
  intro env H Kn RG Kx RH Kr RI hn hx hr h
  simp only[vc]at*
  unfold FX at*
  split at h
  ·exact FU h fun b h=>AV h (ihx _ _ _ _ _ _ _ _ hn hx hr) (ihy _ _ _ _ _ _ _ _ hn hx hr)
  omega
 |NR id b ih=>intro env H Kn RG Kx RH Kr RI hn hx hr h;exact ih env H _ _ _ _ _ _ hn (fun i e H h=>AV h (hn _ _) (hx _ _ _)) hr h
 |loop L b ih=>
  intro env H Kn RG Kx RH Kr RI hn hx hr h
  obtain⟨I,h0,round⟩:=h
  exact⟨I,h0,fun m env H hI=>ih env H _ _ _ _ _ _ (fun e H h=>h) hx hr (round m env H hI)⟩
 |exit id=>intro env H Kn RG Kx RH Kr RI hn hx hr h;exact hx _ _ _ h
 |ret=>intro env H Kn RG Kx RH Kr RI hn hx hr h;exact hr _ _ h
 |bad=>intro env H Kn RG Kx RH Kr RI hn hx hr h;exact h.elim
def wV(a b:S):S:=.seq a b
theorem iD{a b:S}{env:Env}{H:Hp}{Kn:Env→Hp→Prop}{Kx:Nat→Env→Hp→Prop}{Kr:Env→Hp→Prop}(M:Env→Hp→Prop)(h1:vc P a env H M Kx Kr)(h2:∀e H',M e H'→vc P b e H' Kn Kx Kr):vc P (wV a b) env H Kn Kx Kr:=
 D4 a env H _ _ _ _ _ _ h2 (fun _ _ _ h=>h) (fun _ _ h=>h) h1
end
end Go.Vc

namespace Go.Vc
def Kl(P:Program)(T:TypeId)(name:String):Option (List FieldStep×Option (FuncId×Bool)):=
 ((P.info? T).bind fun i=>i.methods.find? (·.name==name)).map fun m=>(m.path.toList,m.func)
theorem uT{P:Program}{T:TypeId}{name:String}{p:List FieldStep}{f:Option (FuncId×Bool)}(h:Kl P T name=some (p,f)):
  ∃i m,P.info? T=some i∧i.methods.find? (·.name==name)=some m∧m.path.toList=p∧m.func=f:=by
 unfold Kl at h
 cases hi:P.info? T with
 |none=>grind
 |some i=>
  simp_all
def Wg(P:Program)(T:TypeId)(name:String):Option FuncId:=
 match Kl P T name,P.underlying T with
 |some ([],some (f,true)),some (.pointer _)=>if eZ P f then some f else none
 |_,_=>none
theorem aS{P:Program}{H:Hp}{T:TypeId}{v:Value}{name:String}{f:FuncId}(h:Wg P T name=some f):Sj P H T v name f v:=by
 unfold Wg at h
 split at h
 ·rename_i f' e h1 hu
  split at h
  ·rename_i hc
   injection h with h
   subst h
   refine⟨hc,fun w hw=>?_⟩
   obtain⟨i,m,g1,g2,g3,g4⟩:=uT h1
   show(method ((P.types.size+99)+1) T v name).run P w=_
   unfold method
   simp[eG g1,g2,g3,g4,follow,receiverAt,run_underlying hu,Place.get]
  grind
 grind
def PH(P:Program)(T:TypeId)(name:String):Option (Nat×FuncId):=
 match Kl P T name with
 |some ([s],some (f,true))=>
  match s.deref,P.underlying s.struct with
  |true,some (.struct fs)=>
   match fs[s.index]? with
   |some fd=>match P.underlying fd.type with
    |some (.pointer _)=>if(P.info? fd.type).isSome∧P.cellsOf fd.type≠0∧eZ P f=true then some (fd.offset,f)else none
    |_=>none
   |none=>none
  |_,_=>none
 |_=>none
theorem Et{P:Program}{fd:Field}(hi:(P.info? fd.type).isSome=true)(h0:P.cellsOf fd.type≠0)(a:Addr)(w:World):(fieldPlace a fd).run P w= .ok (a.add fd.offset) w:=by
 simp[fieldPlace,bM hi,h0]
theorem cD{P:Program}{H:Hp}{T:TypeId}{b o off:Nat}{l:List Value}{rv:Value}{name:String}{f:FuncId}(h:PH P T name=some (off,f))(hr:H.rd b=some l)(hv:l[o+off]? =some rv):
  Sj P H T (.pointer (some ⟨b,o,none⟩)) name f rv:=by
 unfold PH at h
 split at h
 ·rename_i s f' h1
  split at h
  ·rename_i fs hd hs
   split at h
   ·rename_i fd hf
    split at h
    ·rename_i e hu
     split at h
     ·rename_i hc
      simp only[aoq,Prod.mk.injEq]at h
      obtain⟨rfl,rfl⟩:=h
      refine⟨hc.2.2,fun w hw=>?_⟩
      subst hw
      obtain⟨i,m,g1,g2,g3,g4⟩:=uT h1
      have hus:(P.underlying fd.type).isSome=true:=by rw[hu];rfl
      have hag:eI P fd.type=false:=by unfold eI;rw[hu]
      have aa3:=(jr (P:=P) (w:=w) (t:=fd.type) hc.1 hus hr).2 hag rv hv
      show(method ((P.types.size+99)+1) T _ name).run P w=_
      unfold method
      simp[eG g1,g2,g3,g4,follow,run_underlying hs,hf,hd,Place.get,asAddr,Et hc.1 hc.2.1,receiverAt,run_underlying hu,yT,aa3]
     grind
    grind
   grind
  grind
 grind
theorem aa4{P:Program}{T:TypeId}{a:Addr}{name:String}{x:Nat×FuncId}{cap:Array Value}(h:PH P T name=some x):Qz P (.func (.method name) #[.iface T (.pointer (some a))] cap):=by
 unfold PH at h
 split at h
 ·rename_i s f' h1
  split at h
  ·rename_i fs hd hs
   split at h
   ·rename_i fd hf
    refine .inr ⟨name,T,_,cap,rfl,fun w=>?_⟩
    obtain⟨i,m,g1,g2,g3,g4⟩:=uT h1
    show(nilAhead ((P.types.size+99)+1) T _ name).run P w=_
    unfold nilAhead
    simp[eG g1,g2,g3,g4,followBlind,run_underlying hs,hf,hd]
   grind
  grind
 grind
theorem fW.mono{P:Program}{recv:Value}{name:String}{args:List Value}{H:Hp}{K K':Value→Hp→Prop}(h:fW P recv name args H K)(hk:∀v H',K v H'→K' v H'):fW P recv name args H K':=by
 obtain⟨T,v,f,rv,h1,h2,h3⟩:=h
 exact⟨T,v,f,rv,h1,h2,h3.mono hk⟩
end Go.Vc
