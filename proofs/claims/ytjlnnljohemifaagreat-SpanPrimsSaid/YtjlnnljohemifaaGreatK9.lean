/- Texts put behind each other. -/
import Derived.Test.YtjlnnljohemifaaGreatK98
import Derived.Test.YtjlnnljohemifaaGreatK8
set_option maxRecDepth 100000
set_option maxHeartbeats 8000000
set_option linter.unusedVariables false
set_option linter.unusedSimpArgs false
namespace Go.Vc
abbrev tt(n:Nat):Operand:=.tmp n
abbrev ki(n:Int):Operand:=.const (.int .i64 n)
abbrev kb(b:Bool):Operand:=.const (.bool b)
abbrev s1(d:Nat)(op:dh):fM:=⟨false,none,some d,op⟩
abbrev s0(op:dh):fM:=⟨false,none,none,op⟩
abbrev sg(g:Nat)(w:Bool)(d:Nat)(op:dh):fM:=⟨false,some (g,w),some d,op⟩
abbrev sq(d:Nat)(op:dh):fM:=⟨true,none,some d,op⟩
abbrev sqg(g:Nat)(w:Bool)(d:Nat)(op:dh):fM:=⟨true,some (g,w),some d,op⟩
inductive S where
 |skip
 |aY(ops:List fM)(aM:List Nat)
 |ng(t:sK)(aM:List Nat)
 |seq(a b:S)
 |cond(c:Operand)(x y:S)
 |DU(id:Nat)(b:S)
 |loop(ajD:List Nat)(b:S)
 |exit(id:Nat)
 |ret
 |bad
 deriving Inhabited
def aW(F:Env→Hp→(Env→Hp→Prop)→Prop)(env:Env)(H:Hp)(_t:Tag F:=⟨⟩):Prop:=
 ∃I:Nat→Env→Hp→Prop,(∃m,I m env H)∧∀m env H,I m env H→F env H fun aU H'=>∃m',m'<m∧I m' aU H'
theorem aW.intro{F:Env→Hp→(Env→Hp→Prop)→Prop}{env:Env}{H:Hp}(I:Nat→Env→Hp→Prop)(m:Nat)(h0:I m env H)
  (round:∀m env H,I m env H→F env H fun aU H'=>∃m',m'<m∧I m' aU H'):aW F env H:=⟨I,⟨m,h0⟩,round⟩
def vc(P:Program):S→Env→Hp→(Env→Hp→Prop)→(Nat→Env→Hp→Prop)→(Env→Hp→Prop)→Prop
 | .skip,env,H,Kn,_,_=>Kn env H
 | .aY ops aM,env,H,Kn,_,_=>iM P (fun aU H'=>now (Env.aM aU aM) fun e=>Kn e H') ops env H
 | .ng t aM,env,H,Kn,_,_=>jB H fun Inv=>Dm P Inv (fun aU H'=>now (Env.aM aU aM) fun e=>Kn e H') t env H
 | .seq a b,env,H,Kn,Kx,Kr=>vc P a env H (fun aU H'=>vc P b aU H' Kn Kx Kr) Kx Kr
 | .cond c x y,env,H,Kn,Kx,Kr=>GJ (Env.ev env c) fun t=>Gr t (vc P x env H Kn Kx Kr) (vc P y env H Kn Kx Kr)
 | .DU id b,env,H,Kn,Kx,Kr=>vc P b env H Kn (fun i aU H'=>Gr (i==id) (Kn aU H') (Kx i aU H')) Kr
 | .loop L b,env,H,_,Kx,Kr=>aW (fun aU H' again=>vc P b aU H' (fun e h=>again (Env.aM e L) h) Kx Kr) (Env.aM env L) H
 | .exit id,env,H,_,Kx,_=>Kx id env H
 | .ret,env,H,_,_,Kr=>Kr env H
 | .bad,_,_,_,_,_=>False
section
variable (P : Program) (env : Env) (H : Hp) (Kn : Env → Hp → Prop) (Kx : Nat → Env → Hp → Prop) (Kr : Env → Hp → Prop)
@[go_sem ↓] theorem Ut:vc P .skip env H Kn Kx Kr=Kn env H:=(rfl)
@[go_sem ↓] theorem ahv(ops:List fM)(aM:List Nat):vc P (.aY ops aM) env H Kn Kx Kr=iM P (fun aU H'=>now (Env.aM aU aM) fun e=>Kn e H') ops env H:=(rfl)
@[go_sem ↓] theorem aeR(t:sK)(aM:List Nat):vc P (.ng t aM) env H Kn Kx Kr=jB H fun Inv=>Dm P Inv (fun aU H'=>now (Env.aM aU aM) fun e=>Kn e H') t env H:=(rfl)
@[go_sem ↓] theorem Xz(a b:S):vc P (.seq a b) env H Kn Kx Kr=vc P a env H (fun aU H'=>vc P b aU H' Kn Kx Kr) Kx Kr:=(rfl)
@[go_sem ↓] theorem U9(c:Operand)(x y:S):vc P (.cond c x y) env H Kn Kx Kr=GJ (Env.ev env c) fun t=>Gr t (vc P x env H Kn Kx Kr) (vc P y env H Kn Kx Kr):=(rfl)
@[go_sem ↓] theorem XA(id:Nat)(b:S):vc P (.DU id b) env H Kn Kx Kr=vc P b env H Kn (fun i aU H'=>Gr (i==id) (Kn aU H') (Kx i aU H')) Kr:=(rfl)
@[go_sem ↓] theorem aeS(L:List Nat)(b:S):vc P (.loop L b) env H Kn Kx Kr=aW (fun aU H' again=>vc P b aU H' (fun e h=>again (Env.aM e L) h) Kx Kr) (Env.aM env L) H:=(rfl)
@[go_sem ↓] theorem aeT(id:Nat):vc P (.exit id) env H Kn Kx Kr=Kx id env H:=(rfl)
@[go_sem ↓] theorem ahw:vc P .bad env H Kn Kx Kr=False:=(rfl)
@[go_sem ↓] theorem ahx:vc P .ret env H Kn Kx Kr=Kr env H:=(rfl)
end
attribute [go_sem] cond_true cond_false
abbrev E8:=List Nat×List Nat×List Nat
def Kc:Nat→List Nat→Option (Ot×List Nat)
 |0,_=>none
 |_+1,0::r=>some (.done,r)
 |f+1,1::i::r=>match Kc f r with
  |some (t,r)=>some (.step i t,r)
  |none=>none
 |f+1,2::i::r=>match Kc f r with
  |some (t,r)=>match Kc f r with
   |some (u,r)=>some (.aE i t u,r)
   |none=>none
  |none=>none
 |_+1,3::r=>some (.stop,r)
 |_+1,_=>none
def tQ(P:Program)(n:Nat):Code→List E8→Option (S×List E8)
 | .skip,an=>some (.skip,an)
 | .region _ ops draw,an=>
  match an with
  | []=>none
  | (aM,q,x::tr)::an=>
   match is P n ops q 0 ops.toList with
   |none=>none
   |some ss=>
    match Kc (tr.length+2) (x::tr)with
    |some (t,[])=>
     if draw=true∧AZ ops (Region.before ops)=true∧Tj ops (Region.before ops) (Ms ss) t (Array.replicate ops.size false) []=true∧Region.noSelect ops=true then(attach ss t).map fun ts=>(.ng ts aM,an)else none
    |_=>none
  | (aM,q,[])::an=>
   match is P n ops q 0 ops.toList with
   |none=>none
   |some ss=>
    if draw=false∨(AZ ops (Region.before ops)=true∧A5 ops (Region.before ops) (Ta ss)=true∧Region.noSelect ops=true)then some (.aY ss aM,an)else none
 | .seq a b,an=>
  match tQ P n a an with
  |none=>none
  |some (x,an)=>match tQ P n b an with
   |none=>none
   |some (y,an)=>some (.seq x y,an)
 | .cond c a b,an=>
  match tQ P n a an with
  |none=>none
  |some (x,an)=>match tQ P n b an with
   |none=>none
   |some (y,an)=>some (.cond c x y,an)
 | .block id a,an=>match tQ P n a an with
  |none=>none
  |some (x,an)=>some (.DU id x,an)
 | .loop a,an=>
  match an with
  | []=>none
  | (L,_,_)::an=>match tQ P n a an with
   |none=>none
   |some (x,an)=>some (.loop L x,an)
 | .exit id,an=>some (.exit id,an)
 | .ret,an=>some (.ret,an)
 | .refuse _,an=>some (.bad,an)
 |_,_=>none
theorem wp_loop_ghost{P:Program}{Q:Exit→Act→World→Prop}{a:Act}{w:World}{c:Code}(I:Nat→Act→World→Prop){m:Nat}(h₀:I m a w)
  (round:∀m a w,I m a w→c.wp P (Exit.then (fun a' w'=>∃m',m'<m∧I m' a' w') Q) a w):(Code.loop c).wp P Q a w:=by
 intro b k cs
 have key:∀n a w,I n a w→∃e a' w',Q e a' w'∧Arrives P (lone (b.at a (.code c:: .inLoop c::k)) cs w) b k cs e a' w':=by
  intro n
  induction n using Nat.strongRecOn with
  |_ n ih=>
   intro a w hI
   obtain⟨e,a₁,w₁,hq,Mu⟩:=round n a w hI b (.inLoop c::k) cs
   cases e with
   |normal=>
    obtain⟨m',aO,hI₁⟩:=hq
    obtain⟨e₂,a₂,w₂,hq₂,ac4⟩:=ih m' aO a₁ w₁ hI₁
    exact⟨e₂,a₂,w₂,hq₂,.of_steps (Steps.trans Mu (.one step_inLoop)) ac4⟩
   |exit id=>exact⟨_,a₁,w₁,hq,.pass (x:=.inLoop c) rfl (fun _ _=>.inl (by simp)) Mu⟩
   |goto l=>exact⟨_,a₁,w₁,hq,.pass (x:=.inLoop c) rfl (fun _ _=>.inl (by simp)) Mu⟩
   |ret=>exact⟨_,a₁,w₁,hq,.pass (x:=.inLoop c) rfl (fun _ _=>.inl (by simp)) Mu⟩
   |panic ch=>exact⟨_,a₁,w₁,hq,.pass (x:=.inLoop c) rfl (fun _ _=>.inl (by simp)) Mu⟩
   |outgrown=>exact⟨_,a₁,w₁,hq,.pass (x:=.inLoop c) rfl (fun _ _=>.inl (by simp)) Mu⟩
 obtain⟨e,a',w',hq,Mu⟩:=key _ a w h₀
 exact⟨e,a',w',hq,.of_steps (.one step_loop) Mu⟩
theorem K8{P:Program}{n:Nat}(hm:P.follows .mixedOrders=true):∀ (c:Code) (an:List E8) (s:S) (Tc:List E8),tQ P n c an=some (s,Tc)→
  ∀ (env:Env) (a:Act) (w:World) (Kn:Env→Hp→Prop) (Kx:Nat→Env→Hp→Prop) (Kr:Env→Hp→Prop) (Q:Exit→Act→World→Prop),Holds env a n→vc P s env w.heap Kn Kx Kr→
   (∀aU a' w',cf w w'→Holds aU a' n→Kn aU w'.heap→Q .normal a' w')→
   (∀i aU a' w',cf w w'→Holds aU a' n→Kx i aU w'.heap→Q (.exit i) a' w')→
   (∀aU a' w',cf w w'→Holds aU a' n→Kr aU w'.heap→Q .ret a' w')→c.wp P Q a w:=by
 intro c
 induction c with
 |skip=>
  intro an s Tc hd env a w Kn Kx Kr Q hh h hn hx hr
  simp only[tQ,aor,Prod.mk.injEq]at hd
  obtain⟨rfl,rfl⟩:=hd
  exact wp_skip (hn env a w (cf.refl w) hh h)
 |region id ops draw=>
  intro an s Tc hd env a w Kn Kx Kr Q hh h hn hx hr
  unfold tQ at hd
  split at hd
  ·cases hd
  ·rename_i aM q x tr an0
   split at hd
   ·cases hd
   ·rename_i ss hss
    split at hd
    ·rename_i t ht
     split at hd
     ·rename_i hc
      obtain⟨rfl,h1,h2,h3⟩:=hc
      cases hts:attach ss t with
      |none=>rw[hts]at hd;cases hd
      |some ts=>
       rw[hts]at hd
       simp only[Option.map_some,aor,Prod.mk.injEq]at hd
       obtain⟨rfl,rfl⟩:=hd
       have hl:∀k,ops.toList[k]? =ops[0+k]? :=fun k=>by simp
       have hQ:∀a' w',cf w w'→(∃aU,Holds aU a' n∧Kn (Env.aM aU aM) w'.heap)→Q .normal a' w':=fun a' w' hs ⟨aU,ot,hk⟩=>hn _ a' w' hs (ot.aM aM) hk
       have cd:=Oq (P:=P) (ops:=ops) (n:=n) ops.toList 0 ss hl hss
       obtain⟨Inv,hI,h⟩:=h
       have h4:=Mt (P:=P) (ops:=ops) (n:=n) (q:=q) (Inv:=Inv) (ss:=ss) (fun k s hk=>by have:=cd k s hk;simpa using this) t ts hts env a w.heap hh h
       exact Fz (K:=fun a' H'=>∃aU,Holds aU a' n∧Kn (Env.aM aU aM) H') hm h1 h2 h3 hI hQ (by simpa[NU]using h4)
     ·cases hd
    ·cases hd
  ·rename_i aM q an0
   split at hd
   ·cases hd
   ·rename_i ss hss
    split at hd
    ·rename_i ac5
     simp only[aor,Prod.mk.injEq]at hd
     obtain⟨rfl,rfl⟩:=hd
     have hl:∀k,ops.toList[k]? =ops[0+k]? :=fun k=>by simp
     have hQ:∀a' w',cf w w'→(∃aU,Holds aU a' n∧Kn (Env.aM aU aM) w'.heap)→Q .normal a' w':=fun a' w' hs ⟨aU,ot,hk⟩=>hn _ a' w' hs (ot.aM aM) hk
     cases draw with
     |false=>
      have h1:=On (P:=P) (ops:=ops) (n:=n) ops.toList 0 ss hl hss env a w.heap hh h
      refine Fx (K:=fun a' H'=>∃aU,Holds aU a' n∧Kn (Env.aM aU aM) H') hQ ?_
      rw[List.range_eq_range']
      simpa[NU]using h1
     |true=>
      obtain⟨h1,h2,h3⟩:=ac5.resolve_left (by simp)
      have h4:=Oo (P:=P) (ops:=ops) (n:=n) (cls:=Ta ss) ops.toList 0 ss hl hss (fun k s hk=>by simp[Ta,hk]) env a w.heap hh h
      refine Fw (K:=fun a' H'=>∃aU,Holds aU a' n∧Kn (Env.aM aU aM) H') hm h1 h2 h3 hQ ?_
      rw[List.range_eq_range']
      simpa[NU]using h4
    ·cases hd
 |seq x y ihx ihy=>
  intro an s Tc hd env a w Kn Kx Kr Q hh h hn hx hr
  unfold tQ at hd
  split at hd
  ·cases hd
  ·rename_i sx Yw Yx
   split at hd
   ·cases hd
   ·rename_i sy an2 hdy
    simp only[aor,Prod.mk.injEq]at hd
    obtain⟨rfl,rfl⟩:=hd
    refine wp_seq (ihx an sx Yw Yx env a w _ Kx Kr _ hh h ?_ ?_ ?_)
    ·intro aU a' w' hs ot hk
     exact ihy Yw sy _ hdy aU a' w' Kn Kx Kr Q ot hk (fun e b v D9=>hn e b v (hs.trans D9)) (fun i e b v D9=>hx i e b v (hs.trans D9)) (fun e b v D9=>hr e b v (hs.trans D9))
    ·intro i aU a' w' hs ot hk;exact hx i aU a' w' hs ot hk
    ·intro aU a' w' hs ot hk;exact hr aU a' w' hs ot hk
 |cond c x y ihx ihy=>
  intro an s Tc hd env a w Kn Kx Kr Q hh h hn hx hr
  unfold tQ at hd
  split at hd
  ·cases hd
  ·rename_i sx Yw Yx
   split at hd
   ·cases hd
   ·rename_i sy an2 hdy
    simp only[aor,Prod.mk.injEq]at hd
    obtain⟨rfl,rfl⟩:=hd
    rw[U9]at h
    unfold GJ at h
    split at h
    ·rename_i v hv
     obtain⟨b,hb,h2⟩:=zT h
     subst hb
     have hc:=hh.vj _ _ hv
     refine wp_cond_split hc (fun hb=>?_) (fun hb=>?_)
     ·subst hb;exact ihx an sx Yw Yx env a w Kn Kx Kr Q hh h2 hn hx hr
     ·subst hb;exact ihy Yw sy _ hdy env a w Kn Kx Kr Q hh h2 hn hx hr
    ·exact h.elim
 |block id x ih=>
  intro an s Tc hd env a w Kn Kx Kr Q hh h hn hx hr
  unfold tQ at hd
  split at hd
  ·cases hd
  ·rename_i sx Yw Yx
   simp only[aor,Prod.mk.injEq]at hd
   obtain⟨rfl,rfl⟩:=hd
   refine wp_block (ih an sx _ Yx env a w Kn _ Kr _ hh h (fun e b v hs ot hk=>hn e b v hs ot hk) ?_ (fun e b v hs ot hk=>hr e b v hs ot hk))
   intro i aU a' w' hs ot hk
   show if i=id then Q .normal a' w' else Q (.exit i) a' w'
   by_cases e:i=id
   ·subst e
    simp only[beq_self_eq_true,Gr]at hk
    rw[if_pos rfl]
    exact hn aU a' w' hs ot hk
   ·have:(i==id)=false:=by simpa using e
    simp only[this,Gr]at hk
    rw[if_neg e]
    exact hx i aU a' w' hs ot hk
 |loop x ih=>
  intro an s Tc hd env a w Kn Kx Kr Q hh h hn hx hr
  unfold tQ at hd
  split at hd
  ·cases hd
  ·rename_i L q tr an0
   split at hd
   ·cases hd
   ·rename_i sx Yw Yx
    simp only[aor,Prod.mk.injEq]at hd
    obtain⟨rfl,rfl⟩:=hd
    obtain⟨I,⟨m,h0⟩,round⟩:=h
    refine wp_loop_ghost (fun m a' w'=>cf w w'∧∃aU,Holds aU a' n∧I m aU w'.heap) ⟨cf.refl w,_,hh.aM L,h0⟩ ?_
    rintro m a' w' ⟨hs,aU,ot,hI⟩
    refine ih an0 sx _ Yx aU a' w' _ Kx Kr _ ot (round m aU w'.heap hI) ?_ ?_ ?_
    ·rintro e b v D9 hb ⟨m',aO,TW⟩
     exact⟨m',aO,hs.trans D9,_,hb.aM L,TW⟩
    ·intro i e b v D9 hb hk;exact hx i e b v (hs.trans D9) hb hk
    ·intro e b v D9 hb hk;exact hr e b v (hs.trans D9) hb hk
 |exit id=>
  intro an s Tc hd env a w Kn Kx Kr Q hh h hn hx hr
  simp only[tQ,aor,Prod.mk.injEq]at hd
  obtain⟨rfl,rfl⟩:=hd
  exact wp_exit (hx id env a w (cf.refl w) hh h)
 |ret=>
  intro an s Tc hd env a w Kn Kx Kr Q hh h hn hx hr
  simp only[tQ,aor,Prod.mk.injEq]at hd
  obtain⟨rfl,rfl⟩:=hd
  exact wp_ret (hr env a w (cf.refl w) hh h)
 |refuse r=>
  intro an s Tc hd env a w Kn Kx Kr Q hh h hn hx hr
  simp only[tQ,aor,Prod.mk.injEq]at hd
  obtain⟨rfl,rfl⟩:=hd
  exact h.elim
 |_=>intro an s Tc hd;simp[tQ]at hd
inductive Yy where
 |tmp(t:Nat)
 |one(t:Nat)
 |agg(t n:Nat)
 deriving Inhabited
structure Fn where
 np:Nat
 Y0:List Yy
 body:S
 deriving Inhabited
def qP(env:Env)(H:Hp):List Yy→(List Value→Prop)→Prop
 | [],F=>F []
 | .tmp t::r,F=>aC (Env.find env t) fun v=>qP env H r fun vs=>F (v::vs)
 | .one t::r,F=>aC (Env.find env t) fun p=>xK p fun b o=>aC (H.rd b) fun l=>aC l[o]? fun v=>qP env H r fun vs=>F (v::vs)
 | .agg t n::r,F=>aC (Env.find env t) fun p=>xK p fun b o=>aC (H.rd b) fun l=>dD (o+n≤l.length) (qP env H r fun vs=>F (.agg ((l.drop o).take n).toArray::vs))
@[go_sem ↓] theorem ac8(env:Env)(H:Hp)(F:List Value→Prop):qP env H [] F=F []:=(rfl)
@[go_sem ↓] theorem ac9(env:Env)(H:Hp)(t:Nat)(r:List Yy)(F:List Value→Prop):qP env H (.tmp t::r) F=aC (Env.find env t) fun v=>qP env H r fun vs=>F (v::vs):=(rfl)
@[go_sem ↓] theorem ada(env:Env)(H:Hp)(t:Nat)(r:List Yy)(F:List Value→Prop):
  qP env H (.one t::r) F=aC (Env.find env t) fun p=>xK p fun b o=>aC (H.rd b) fun l=>aC l[o]? fun v=>qP env H r fun vs=>F (v::vs):=(rfl)
@[go_sem ↓] theorem adb(env:Env)(H:Hp)(t n:Nat)(r:List Yy)(F:List Value→Prop):
  qP env H (.agg t n::r) F=aC (Env.find env t) fun p=>xK p fun b o=>aC (H.rd b) fun l=>dD (o+n≤l.length) (qP env H r fun vs=>F (.agg ((l.drop o).take n).toArray::vs)):=(rfl)
def KI:List Value→Value
 | [v]=>v
 |vs=>.tuple vs.toArray
@[go_sem] theorem aeV(v:Value):KI [v]=v:=(rfl)
@[go_sem] theorem aeW:KI []= .tuple [].toArray:=(rfl)
@[go_sem] theorem aeX(v u:Value)(r:List Value):KI (v::u::r)= .tuple (v::u::r).toArray:=(rfl)
def iV:Nat→List Value→Env
 |_,[]=>[]
 |i,v::r=>(i,v)::iV (i+1) r
@[go_sem] theorem V6(i:Nat):iV i []=[]:=(rfl)
@[go_sem] theorem Va(i:Nat)(v:Value)(r:List Value):iV i (v::r)=(i,v)::iV (i+1) r:=(rfl)
def Fn.vc(P:Program)(F:Fn)(args:List Value)(H:Hp)(K:Value→Hp→Prop):Prop:=
 args.length=F.np∧Go.Vc.vc P F.body (iV 0 args) H (fun env H=>qP env H F.Y0 fun vs=>K (KI vs) H) (fun _ _ _=>False) (fun env H=>qP env H F.Y0 fun vs=>K (KI vs) H)
def nw(P:Program):List ResultVar→Option (List Yy)
 | []=>some []
 | .tmp t::r=>(nw P r).map (.tmp t:: ·)
 | .cell t T::r=>if(P.info? T).isSome∧(P.underlying T).isSome then(nw P r).map ((if eU P T then .agg t (P.cellsOf T)else .one t):: ·)else none
def ed(P:Program)(f:FuncId)(an:List E8):Option Fn:=
 match P.funcs[f]? with
 |none=>none
 |some fn=>
  match fn.body with
  |none=>none
  |some c=>
   match tQ P fn.ntmps c an with
   |some (s,[])=>if fn.params.size≤fn.ntmps then(nw P fn.results.toList).map fun rs=>⟨fn.params.size,rs,s⟩else none
   |_=>none
def CB(tmps:Array Value):ResultVar→Sem Value
 | .tmp t=>pure (tmps.getD t undef)
 | .cell p t=>do loadVar t (←asAddr (tmps.getD p undef))
theorem AV{P:Program}{w:World}{env:Env}{a:Act}{n:Nat}(hh:Holds env a n):∀ (rs:List ResultVar) (l:List Yy) (F:List Value→Prop),nw P rs=some l→qP env w.heap l F→
  ∃vs,F vs∧(rs.mapM (CB a.tmps)).run P w= .ok vs w:=by
 intro rs
 induction rs with
 |nil=>intro l F hl h;simp only[nw,aor]at hl;subst hl;exact⟨[],h,rfl⟩
 |cons r rs ih=>
  intro l F hl h
  cases r with
  |tmp t=>
   unfold nw at hl
   cases hr:nw P rs with
   |none=>rw[hr]at hl;cases hl
   |some l'=>
    rw[hr]at hl
    simp only[Option.map_some,aor]at hl
    subst hl
    obtain⟨v,hv,h⟩:=aA h
    obtain⟨vs,hF,DM⟩:=ih l' _ hr h
    have e:a.tmps.getD t undef=v:=by simp[hh.BU t v hv]
    exact⟨v::vs,hF,by rw[List.mapM_cons];simp only[CB,Sem.run_bind,Sem.run_pure,Result.andThen_ok,e,DM]⟩
  |cell t T=>
   unfold nw at hl
   split at hl
   ·rename_i hc
    cases hr:nw P rs with
    |none=>rw[hr]at hl;cases hl
    |some l'=>
     rw[hr]at hl
     simp only[Option.map_some,aor]at hl
     subst hl
     cases hb:eU P T
     ·rw[hb]at h
      obtain⟨p,hp,h⟩:=aA h
      obtain⟨b,o,rfl,h⟩:=fi h
      obtain⟨lb,Dz,h⟩:=aA h
      obtain⟨v,hv,h⟩:=aA h
      obtain⟨vs,hF,DM⟩:=ih l' _ hr h
      have e:a.tmps.getD t undef= .pointer (some ⟨b,o,none⟩):=by simp[hh.BU t _ hp]
      exact⟨v::vs,hF,by rw[List.mapM_cons];simp only[CB,Sem.run_bind,Sem.run_pure,Result.andThen_ok,e,asAddr,(jw hc.1 hc.2 Dz).2 hb v hv,DM]⟩
     ·rw[hb]at h
      obtain⟨p,hp,h⟩:=aA h
      obtain⟨b,o,rfl,h⟩:=fi h
      obtain⟨lb,Dz,h⟩:=aA h
      obtain⟨hn,h⟩:=h.out
      obtain⟨vs,hF,DM⟩:=ih l' _ hr h
      have e:a.tmps.getD t undef= .pointer (some ⟨b,o,none⟩):=by simp[hh.BU t _ hp]
      exact⟨_,hF,by rw[List.mapM_cons];simp only[CB,Sem.run_bind,Sem.run_pure,Result.andThen_ok,e,asAddr,(jw hc.1 hc.2 Dz).1 hb hn,DM]⟩
   ·cases hl
theorem IA:∀ (args:List Value) (i k:Nat) (v:Value),Env.find (iV i args) k=some v→i≤k∧args[k - i]? =some v:=by
 intro args
 induction args with
 |nil=>intro i k v h;cases h
 |cons x r ih=>
  intro i k v h
  simp only[iV,Env.find]at h
  by_cases e:i=k
  ·subst e
   simp at h
   subst h
   exact⟨aou _,by simp⟩
  ·have:(i==k)=false:=by simpa using e
   rw[this]at h
   obtain⟨h1,h2⟩:=ih (i+1) k v h
   refine⟨by omega,?_⟩
   rw[show k - i=(k - (i+1))+1 by omega,apf]
   exact h2
theorem KJ{P:Program}(hm:P.follows .mixedOrders=true){f:FuncId}{an:List E8}{F:Fn}(hd:ed P f an=some F){args:List Value}{H:Hp}{K:Value→Hp→Prop}
  (h:F.vc P args H K):af P f args H K:=by
 unfold ed at hd
 split at hd
 ·cases hd
 ·rename_i fn hf
  split at hd
  ·cases hd
  ·rename_i c hb
   split at hd
   ·rename_i s hs
    split at hd
    ·rename_i nS
     cases hr:nw P fn.results.toList with
     |none=>rw[hr]at hd;cases hd
     |some rs=>
      rw[hr]at hd
      simp only[Option.map_some,aor]at hd
      subst hd
      obtain⟨aZ,h⟩:=h
      simp only at aZ h
      intro w hw
      subst hw
      refine calls_of_wp hf hb ?_
      have hh:Holds (iV 0 args) {tmps:=args.toArray++Array.replicate (fn.ntmps - args.toArray.size) undef,defers:=[]} fn.ntmps:=by
       refine⟨by simp;omega,rfl,fun k v hk=>?_⟩
       obtain⟨_,h2⟩:=IA args 0 k v hk
       have aO:k<args.length:=by
        rcases apz k args.length with h'|h'
        ·exact h'
        ·simp[aoy h']at h2
       rw[apM (by simpa using aO)]
       simpa using h2
      have E7:∀aU a' w',cf w w'→Holds aU a' fn.ntmps→qP aU w'.heap rs (fun vs=>K (KI vs) w'.heap)→
        a'.defers=[]∧∃v,(results fn a'.tmps).run P w'= .ok v w'∧(∃v_1,Ending.returned v=Ending.returned v_1∧cf w w'∧K v_1 w'.heap):=by
       intro aU a' w' M6 ot hk
       obtain⟨vs,hF,DM⟩:=AV (P:=P) ot fn.results.toList rs _ hr hk
       refine⟨ot.defers,KI vs,?_,_,rfl,M6,hF⟩
       change (do let vs ←fn.results.mapM (CB a'.tmps);pure (if h:vs.size=1 then vs[0]else .tuple vs):Sem Value).run P w'=_
       rw[Array.mapM_eq_mapM_toList]
       simp only[Sem.run_bind,Sem.run_map,DM,Result.andThen_ok,Sem.run_pure]
       congr 1
       cases vs with
       |nil=>rfl
       |cons x r=>cases r with
        |nil=>rfl
        |cons y r=>simp[KI]
      refine K8 hm c an s [] hs _ _ w _ _ _ _ hh h ?_ ?_ ?_
      ·exact fun aU a' w' M6 ot hk=>E7 aU a' w' M6 ot hk
      ·exact fun _ _ _ _ _ _ hk=>hk.elim
      ·exact fun aU a' w' M6 ot hk=>E7 aU a' w' M6 ot hk
    ·cases hd
   ·cases hd
end Go.Vc

namespace Go.Vc
theorem wrap64{n:Int}(h0: -9223372036854775808≤n)(h1:n≤9223372036854775807):IntKind.i64.wrap n=n:=by
 have e:(2^IntKind.i64.bits:Int)=18446744073709551616:=rfl
 have e':(2^ (IntKind.i64.bits - 1):Int)=9223372036854775808:=rfl
 unfold IntKind.wrap
 simp only[e,e',IntKind.signed,apy,aoK]
 split<;>omega
theorem rY{n:Int}(h0:0≤n)(h1:n≤18446744073709551615):IntKind.u64.wrap n=n:=by
 have e:(2^IntKind.u64.bits:Int)=18446744073709551616:=rfl
 unfold IntKind.wrap
 simp only[e,IntKind.signed,ap0]
 rw[if_neg (by simp)];omega
theorem T7{n:Int}(h0:0≤n)(h1:n≤4294967295):IntKind.u32.wrap n=n:=by
 have e:(2^IntKind.u32.bits:Int)=4294967296:=rfl
 unfold IntKind.wrap
 simp only[e,IntKind.signed,ap0]
 rw[if_neg (by simp)];omega
def Sl(H:Hp)(size:Nat)(v:Value)(n:Nat)(xs:List Value)(fp:Option Nat):Prop:=
 xs.length=n*size∧
 match fp with
 |none=>n=0∧v= .slice none 0 0
 |some b=>∃l c,v= .slice (some ⟨b,0,none⟩) n c∧H.own b=some l∧n≤c∧c*size≤l.length∧l.take (n*size)=xs
theorem Sl.nil(H:Hp)(size:Nat):Sl H size (.slice none 0 0) 0 [] none:=⟨by simp,rfl,rfl⟩
theorem Sl.ext{H H':Hp}{size n:Nat}{v:Value}{xs:List Value}{fp:Option Nat}{S:Nat→Prop}(h:Sl H size v n xs fp)(e:ag S H H')(hs:∀b,fp=some b→¬S b):Sl H' size v n xs fp:=by
 obtain⟨hl,h⟩:=h
 refine⟨hl,?_⟩
 cases fp with
 |none=>exact h
 |some b=>
  obtain⟨l,c,h1,h2,h3⟩:=h
  exact⟨l,c,h1,e.own h2 (hs b rfl),h3⟩
theorem Sl.lt{H:Hp}{size n:Nat}{v:Value}{xs:List Value}{b:Nat}(h:Sl H size v n xs (some b)):b<H.size:=by
 obtain⟨_,l,c,_,h2,_⟩:=h
 exact aB h2
theorem Sl.lit(H:Hp)(T:TypeId)(size n:Nat)(xs:List Value)(hx:xs.length=n*size):Sl (H.new T xs) size (.slice (some ⟨H.size,0,none⟩) n n) n xs (some H.size):=
 ⟨hx,xs,n,rfl,az H T xs,aou _,by omega,by rw[←hx];simp⟩
theorem Sl.bU{H:Hp}{T:TypeId}{size n b:Nat}{xs:List Value}(hx:xs.length=n*size)(hb:b=H.size):Sl (H.new T xs) size (.slice (some ⟨b,0,none⟩) n n) n xs (some b):=
 hb▸Sl.lit H T size n xs hx
def cO(H:Hp)(size:Nat)(v:Value)(n:Nat)(xs:List Value):Prop:=
 xs.length=n*size∧((n=0∧∃a c,v= .slice a 0 c)∨∃b o c l,v= .slice (some ⟨b,o,none⟩) n c∧H.rd b=some l∧o+n*size≤l.length∧(l.drop o).take (n*size)=xs)
theorem Sl.rd{H:Hp}{size n:Nat}{v:Value}{xs:List Value}{fp:Option Nat}(h:Sl H size v n xs fp):cO H size v n xs:=by
 obtain⟨hl,h⟩:=h
 refine⟨hl,?_⟩
 cases fp with
 |none=>exact .inl ⟨h.1,none,0,h.2⟩
 |some b=>
  obtain⟨l,c,h1,h2,h3,h4,h5⟩:=h
  refine .inr ⟨b,0,c,l,h1,ae h2,?_,by simpa using h5⟩
  have:=apI size h3
  omega
theorem cO.rowOf{H:Hp}{size n:Nat}{v:Value}{xs:List Value}{F:Nat→List Value→Prop}(h:cO H size v n xs)(hf:F n xs):rowOf H size v F:=by
 obtain⟨hl,⟨rfl,a,c,rfl⟩| ⟨b,o,c,l,rfl,h2,h3,h4⟩⟩:=h
 ·have:xs=[]:=aoQ.1 (by omega)
  subst this
  exact hf
 ·by_cases hn:n=0
  ·subst hn
   have:xs=[]:=aoQ.1 (by omega)
   subst this
   exact hf
  ·have e0:(n==0)=false:=by simpa using hn
   show Gr (n==0) _ _
   rw[e0]
   show aC (H.rd b) _
   rw[h2]
   exact⟨h3,by rw[h4];exact hf⟩
theorem cO.ext{H H':Hp}{size n:Nat}{v:Value}{xs:List Value}{S:Nat→Prop}(h:cO H size v n xs)(e:ag S H H')(hs:∀b,b<H.size→¬S b):cO H' size v n xs:=by
 obtain⟨hl,h| ⟨b,o,c,l,rfl,h2,h3⟩⟩:=h
 ·exact⟨hl,.inl h⟩
 ·exact⟨hl,.inr ⟨b,o,c,l,rfl,e.rd h2 (hs b (O4 h2)),h3⟩⟩
theorem cO.fresh{H H':Hp}{size n:Nat}{v:Value}{xs:List Value}(h:cO H size v n xs)(e:ah H H'):cO H' size v n xs:=h.ext e fun _ _ h=>h
theorem Mv{l xs new:List Value}{p:Nat}(hx:l.take p=xs)(hp:xs.length=p)(hn:p+new.length≤l.length):(bk l p new).take (p+new.length)=xs++new:=by
 apply ao7
 intro i
 by_cases hi:i<p+new.length
 ·rw[aoN hi,getElem?_splice new l p i hn]
  by_cases h1:p≤i
  ·rw[if_pos ⟨h1,hi⟩,aoJ (by omega),hp]
  ·rw[if_neg (fun h=>h1 h.1),aow (by omega),←hx,aoN (by omega)]
 ·rw[aoy (by simp;omega),aoy (by simp;omega)]
theorem Sl.append{H:Hp}{T size bytes n m:Nat}{z:List Value}{s x:Value}{xs ys:List Value}{fp:Option Nat}{K:Value→Hp→Prop}(h:Sl H size s n xs fp)(hx:cO H size x m ys)
  (hz:z.length=size)(h1:gJ ys)(hb:(n+m)*bytes≤2^47)
  (hk:∀v' H' cP,Sl H' size v' (n+m) (xs++ys) cP→ag (fun b=>fp=some b) H H'→(cP=fp∨∃b,cP=some b∧H.size≤b∧b<H'.size)→K v' H'):
  gk T size bytes z s x H K:=by
 obtain⟨hl,h⟩:=h
 have key:∀base c,s= .slice base n c→(∀b,base=some b→fp≠none)→gk T size bytes z s x H K:=by
  intro base c hs ajE
  subst hs
  refine cO.rowOf hx (F:=fun m new=>(n+m≤c→m=0→K (.slice base n c) H)∧
   (n+m≤c→m≠0→uY base fun b o=>aC (JT (H.own b) (H.B4 b)) fun l=>dD (o+(n+m)*size≤l.length∧gJ new) (K (.slice base (n+m) c) (H.wr b (bk l (o+n*size) new))))∧
   (c<n+m→Builtin.nextslicecap (n+m) c*bytes≤2^48∧
    rowOf H size (.slice base n c) fun _ Sm=>∀c',n+m≤c'→K (.slice (some ⟨H.size,0,none⟩) (n+m) c') (H.new T (Sm++new++cE z (c' - (n+m)))))) ?_
  refine⟨fun nS hm=>?_,fun nS hm=>?_,fun aO=>⟨?_,?_⟩⟩
  ·subst hm
   have hy:ys=[]:=aoQ.1 (by have:=hx.1;omega)
   subst hy
   exact hk _ _ fp (by rw[ao9];exact⟨by simpa using hl,h⟩) (ag.refl _ _) (.inl rfl)
  ·cases fp with
   |none=>
    obtain⟨rfl,hv⟩:=h
    injection hv with e1 e2 e3
    omega
   |some b=>
    obtain⟨l,c',hv,h2,h3,h4,h5⟩:=h
    injection hv with e1 e2 e3
    subst e1;subst e3
    show aC (JT (H.own b) (H.B4 b)) _
    rw[h2]
    have h6:=apI size nS
    refine⟨⟨by omega,h1⟩,?_⟩
    rw[aoh]
    refine hk _ _ (some b) ⟨by simp[hl,hx.1,apA],_,c,rfl,ai h2,nS,by rw[kq];exact h4,?_⟩ ((ag.refl (fun x=>some b=some x) H).wr (fun _=>rfl) _) (.inl rfl)
    have:=Mv (new:=ys) h5 hl (by rw[hx.1];rw[apA]at h6;omega)
    rw[hx.1]at this
    rw[apA];exact this
  ·have h2:Builtin.nextslicecap (n+m) c≤2*(n+m):=nextslicecap_le aO
   have h3:=apI bytes h2
   rw[Nat.mul_assoc]at h3
   omega
  ·refine cO.rowOf (n:=n) (xs:=xs) (Sl.rd (fp:=fp) ⟨hl,h⟩) ?_
   intro c' Jb
   refine hk _ _ (some H.size) ⟨by simp[hl,hx.1,apA],_,c',rfl,az _ _ _,Jb,?_,?_⟩ ((ag.refl _ _).new _ _) (.inr ⟨_,rfl,aou _,by rw[ap];omega⟩)
   ·simp only[aoq,hl,hx.1,DF,hz]
    rw[←apA,←apA]
    exact Nat.le_of_eq (by congr 1;omega)
   ·rw[show(n+m)*size=(xs++ys).length by simp[hl,hx.1,apA]]
    exact List.take_left
 cases fp with
 |none=>exact key none 0 (by obtain⟨rfl,hv⟩:=h;exact hv) (fun b hb=>by cases hb)
 |some b=>
  obtain⟨l,c,hv,_⟩:=h
  exact key (some ⟨b,0,none⟩) c hv (fun _ _=>by simp)
theorem vF(l:List Value)(i n:Nat)(x:Value):(l.set i x).take n=(l.take n).set i x:=by
 apply ao7
 intro k
 by_cases hk:k<n
 ·rw[aoN hk]
  by_cases h:i=k
  ·subst h
   by_cases hl:i<l.length
   ·rw[aoo hl,aoo (by simp;omega)]
   ·rw[aoy (by simp;omega),aoy (by simp;omega)]
  ·rw[aon h,aon h,aoN hk]
 ·rw[aoy (by simp;omega),aoy (by simp;omega)]
theorem Sl.uB{H:Hp}{n c s:Nat}{xs l:List Value}(h:Sl H 1 (.slice (some ⟨s,0,none⟩) n c) n xs (some s))(hl:H.own s=some l)(i:Nat)(x:Value):
  Sl (H.wr s (l.set i x)) 1 (.slice (some ⟨s,0,none⟩) n c) n (xs.set i x) (some s):=by
 obtain⟨h1,l',c',hv,h2,h3,h4,h5⟩:=h
 rw[hl]at h2
 injection h2 with h2
 subst h2
 injection hv with _ _ hc
 subst hc
 exact⟨by simpa using h1,_,c,rfl,ai hl,h3,by simpa using h4,by rw[vF,h5]⟩
theorem Sl.get{H:Hp}{n c s size:Nat}{xs l:List Value}(h:Sl H size (.slice (some ⟨s,0,none⟩) n c) n xs (some s))(hl:H.own s=some l){i:Nat}{x:Value}(hx:xs[i]? =some x):l[i]? =some x:=by
 obtain⟨h1,l',c',hv,h2,h3,h4,h5⟩:=h
 rw[hl]at h2
 injection h2 with h2
 subst h2
 rw[←h5,aoU]at hx
 split at hx
 ·exact hx
 ·cases hx
def sA(es:List MapEntry)(i:Int):Option Value:=(es.find? fun e=>match e.key with| .int .i64 j=>i==j|_=>false).map (·.val)
def BW(es:List MapEntry):Prop:=∃ks:List Int,es.map (·.key)=ks.map (Value.int .i64)∧ks.Nodup
def lF(H:Hp)(b:Nat)(f:Int→Option Value):Prop:=∃es k,H.mp b=some (es,k)∧BW es∧∀i,sA es i=f i
theorem lF.new(H:Hp):lF H.ij H.size (fun _=>none):=⟨[],0,JO H,⟨[],rfl,apr⟩,fun _=>rfl⟩
theorem lF.ext{H H':Hp}{b:Nat}{f:Int→Option Value}{S:Nat→Prop}(h:lF H b f)(e:ag S H H')(hs:¬S b):lF H' b f:=by
 obtain⟨es,k,h1,h2⟩:=h
 exact⟨es,k,e.mp h1 hs,h2⟩
theorem lF.lt{H:Hp}{b:Nat}{f:Int→Option Value}(h:lF H b f):b<H.size:=by
 obtain⟨es,k,h1,h2⟩:=h
 exact O1 h1
theorem gz(e:MapEntry)(es:List MapEntry)(j i:Int)(he:e.key= .int .i64 j):sA (e::es) i=if i=j then some e.val else sA es i:=by
 unfold sA
 rw[List.find?_cons]
 simp only[he]
 by_cases h:i=j
 ·simp[h]
 ·have:(i==j)=false:=by simpa using h
  rw[this,if_neg h]
theorem zX{e:MapEntry}{es:List MapEntry}(h:BW (e::es)):∃j,e.key= .int .i64 j∧BW es∧∀x∈es,x.key≠ .int .i64 j:=by
 obtain⟨ks,h1,h2⟩:=h
 cases ks with
 |nil=>simp at h1
 |cons j ks=>
  simp only[ao5,List.cons.injEq]at h1
  rw[aoA]at h2
  refine⟨j,h1.1,⟨ks,h1.2,h2.2⟩,fun x hx hk=>h2.1 ?_⟩
  have hm:x.key∈es.map (·.key):=aoB.2 ⟨x,hx,rfl⟩
  rw[h1.2,hk]at hm
  obtain⟨y,hy,e⟩:=aoB.1 hm
  injection e with _ e
  exact e▸hy
theorem Dn(i:Int):∀ (es:List MapEntry),BW es→∀n:Nat,
  (sA es i=none∧fX .int (.int .i64 i) es n=some none)∨
  ∃j e,es[j]? =some e∧e.key= .int .i64 i∧sA es i=some e.val∧fX .int (.int .i64 i) es n=some (some (n+j,e.val)):=by
 intro es
 induction es with
 |nil=>intro _ n;exact .inl ⟨rfl,rfl⟩
 |cons e es ih=>
  intro h n
  obtain⟨j,hj,UL,aP⟩:=zX h
  have hq:nY .int (.int .i64 i) e.key=some (decide (i=j)):=by rw[hj];simp[nY,bj]
  by_cases Kl:i=j
  ·subst Kl
   refine .inr ⟨0,e,rfl,hj,by rw[gz e es i i hj,if_pos rfl],?_⟩
   unfold fX
   rw[hq];simp
  ·have h2:fX .int (.int .i64 i) (e::es) n=fX .int (.int .i64 i) es (n+1):=by
    rw[fX,hq,aoI Kl]
   have h3:sA (e::es) i=sA es i:=by rw[gz e es j i hj,if_neg Kl]
   rw[h2,h3]
   rcases ih UL (n+1)with ⟨h4,h5⟩| ⟨k,e',h4,h5,h6,h7⟩
   ·exact .inl ⟨h4,h5⟩
   ·exact .inr ⟨k+1,e',by simpa using h4,h5,h6,by rw[h7];congr 3;omega⟩
theorem lF.look{H:Hp}{b:Nat}{f:Int→Option Value}(h:lF H b f)(i:Int)(F:Option Value→Prop):yp H .int (some b) (.int .i64 i) F=F (f i):=by
 obtain⟨es,k,h1,h2,h3⟩:=h
 unfold yp
 simp only[h1,nN]
 rcases Dn i es h2 0 with ⟨h4,h5⟩| ⟨j,e,h4,h5,h6,h7⟩
 ·rw[h5,←h3 i,h4];rfl
 ·rw[h7,←h3 i,h6];rfl
def JA(f:Int→Option Value)(i:Int)(v:Value):Int→Option Value:=fun j=>if j=i then some v else f j
def Nb(f:Int→Option Value)(i:Int):Int→Option Value:=fun j=>if j=i then none else f j
theorem Mw(es:List MapEntry)(e:MapEntry)(i j:Int)(hj:e.key= .int .i64 j)(hn:sA es j=none):sA (es++[e]) i=if i=j then some e.val else sA es i:=by
 unfold sA at*
 rw[List.find?_append]
 by_cases h:i=j
 ·subst h
  have hx:(es.find? fun e=>match e.key with| .int .i64 j=>i==j|_=>false)=none:=by simpa using hn
  rw[hx]
  simp[hj]
 ·rw[if_neg h]
  have:([e].find? fun e=>match e.key with| .int .i64 j=>i==j|_=>false)=none:=by simp[hj,h]
  rw[this]
  simp
theorem QN{es:List MapEntry}{i:Int}(h:sA es i=none):∀e∈es,e.key≠ .int .i64 i:=by
 intro e he hk
 unfold sA at h
 simp only[Option.map_eq_none_iff,List.find?_eq_none]at h
 have:=h e he
 simp[hk]at this
theorem Ke{es:List MapEntry}(h:BW es)(j:Nat)(e:MapEntry)(hj:es[j]? =some e)(v:Value)(i:Int)(hk:e.key= .int .i64 i):
  BW (es.modify j fun x=>{x with key:=.int .i64 i,val:=v}):=by
 obtain⟨ks,h1,h2⟩:=h
 refine⟨ks,?_,h2⟩
 rw[←h1]
 apply ao7
 intro n
 rw[aoF,aoF,List.getElem?_modify]
 by_cases hn:j=n
 ·subst hn;simp[hj,hk]
 ·simp[hn]
theorem Mx:∀ (es:List MapEntry),BW es→∀ (j:Nat) (e:MapEntry) (v:Value) (i:Int),es[j]? =some e→e.key= .int .i64 i→∀n,
  sA (es.modify j fun x=>{x with key:=.int .i64 i,val:=v}) n=if n=i then some v else sA es n:=by
 intro es
 induction es with
 |nil=>intro _ j e v i hj;simp at hj
 |cons x es ih=>
  intro h j e v i hj hk n
  obtain⟨q,hq,UL,aP⟩:=zX h
  cases j with
  |zero=>
   simp only[aoL,aor]at hj
   subst hj
   have:q=i:=by rw[hq]at hk;injection hk
   subst this
   rw[List.modify_zero_cons,gz _ es q n rfl,gz x es q n hq]
   split<;>rfl
  |succ j=>
   rw[List.modify_succ_cons,gz x _ q n hq,gz x es q n hq,ih UL j e v i (by simpa using hj) hk n]
   by_cases h1:n=q
   ·subst h1
    have hm:e∈es:=aom (by simpa using hj)
    have:n≠i:=fun e'=>aP e hm (by rw[hk,e'])
    simp[this]
   ·simp[h1]
theorem Ou:∀ (es:List MapEntry),BW es→∀ (j:Nat) (e:MapEntry) (i:Int),es[j]? =some e→e.key= .int .i64 i→BW (es.eraseIdx j)∧∀n,sA (es.eraseIdx j) n=if n=i then none else sA es n:=by
 intro es
 induction es with
 |nil=>intro _ j e i hj;simp at hj
 |cons x es ih=>
  intro h j e i hj hk
  have h':=h
  obtain⟨q,hq,UL,aP⟩:=zX h
  cases j with
  |zero=>
   simp only[aoL,aor]at hj
   subst hj
   have:q=i:=by rw[hq]at hk;injection hk
   subst this
   refine⟨UL,fun n=>?_⟩
   rw[List.eraseIdx_zero,List.tail_cons,gz x es q n hq]
   by_cases hn:n=q
   ·subst hn
    rw[if_pos rfl]
    unfold sA
    simp only[Option.map_eq_none_iff,List.find?_eq_none]
    intro e' iF
    obtain⟨ks,h1,_⟩:=UL
    have hm:e'.key∈es.map (·.key):=aoB.2 ⟨e',iF,rfl⟩
    rw[h1]at hm
    obtain⟨y,_,ey⟩:=aoB.1 hm
    have:=aP e' iF
    rw[←ey]at this ⊢
    simp only[beq_iff_eq]
    intro e2
    exact this (by rw[e2])
   ·simp[hn]
  |succ j=>
   obtain⟨h1,h2⟩:=ih UL j e i (by simpa using hj) hk
   have hm:e∈es:=aom (by simpa using hj)
   have hqi:q≠i:=fun e'=>aP e hm (by rw[hk,e'])
   refine⟨?_,fun n=>?_⟩
   ·obtain⟨ks,e1,e2⟩:=h1
    refine⟨q::ks,by rw[List.eraseIdx_cons_succ,ao5,ao5,hq,e1],?_⟩
    rw[aoA]
    refine⟨fun bK=>?_,e2⟩
    have:Value.int .i64 q∈(es.eraseIdx j).map (·.key):=by rw[e1];exact aoB.2 ⟨q,bK,rfl⟩
    obtain⟨y,hy,ey⟩:=aoB.1 this
    exact aP y (List.mem_of_mem_eraseIdx hy) ey
   ·rw[List.eraseIdx_cons_succ,gz x _ q n hq,gz x es q n hq,h2 n]
    by_cases h3:n=q
    ·subst h3;simp[hqi]
    ·simp[h3]
theorem Kf(n:Nat)(i:Int):Instr.sameBits (n+1) (.int .i64 i) (.int .i64 i)=true:=by simp[Instr.sameBits]
theorem lF.Y4{H:Hp}{b:Nat}{f:Int→Option Value}(h:lF H b f){i:Int}{v:Value}{F:Hp→Prop}(hk:∀H',lF H' b (JA f i v)→ag (fun x=>x=b) H H'→F H'):
  Sb H .int b (.int .i64 i) v F:=by
 obtain⟨es,k,h1,h2,h3⟩:=h
 unfold Sb
 simp only[h1,nN]
 have tL:∀VY k',ag (fun x=>x=b) H (H.Du b VY k'):=fun VY k'=>(ag.refl (fun x=>x=b) H).Du (fun _=>rfl) _ _
 rcases Dn i es h2 0 with ⟨h4,h5⟩| ⟨j,e,h4,h5,h6,h7⟩
 ·rw[h5]
  refine⟨rfl,hk _ ⟨_,_,li h1,?_,fun n=>?_⟩ (tL _ _)⟩
  ·obtain⟨ks,e1,e2⟩:=h2
   refine⟨ks++[i],by simp[LL,e1],?_⟩
   rw[ao1]
   refine⟨e2,by simp,fun a ha c hc Tf=>?_⟩
   simp only[aop]at hc
   subst hc;subst Tf
   have:Value.int .i64 a∈es.map (·.key):=by rw[e1];exact aoB.2 ⟨a,ha,rfl⟩
   obtain⟨y,hy,ey⟩:=aoB.1 this
   exact QN h4 y hy ey
  ·rw[LL,Mw es _ n i rfl h4]
   unfold JA
   split<;>first|rfl|exact h3 n
 ·rw[h7]
  refine⟨?_,hk _ ⟨_,_,li h1,Ke h2 _ e (by simpa using h4) _ _ h5,fun n=>?_⟩ (tL _ _)⟩
  ·simp only[ES,aoh,h4,Option.map_some,Option.getD_some,h5]
   exact Kf 9999 i
  ·rw[LL,aoh,Mx es h2 j e v i h4 h5 n]
   unfold JA
   split<;>first|rfl|exact h3 n
theorem lF.del{H:Hp}{b:Nat}{f:Int→Option Value}(h:lF H b f){i:Int}{F:Hp→Prop}(hk:∀H',lF H' b (Nb f i)→ag (fun x=>x=b) H H'→F H'):
  Yh H .int b (.int .i64 i) F:=by
 obtain⟨es,k,h1,h2,h3⟩:=h
 unfold Yh
 simp only[h1,nN]
 have tL:∀VY k',ag (fun x=>x=b) H (H.Du b VY k'):=fun VY k'=>(ag.refl (fun x=>x=b) H).Du (fun _=>rfl) _ _
 rcases Dn i es h2 0 with ⟨h4,h5⟩| ⟨j,e,h4,h5,h6,h7⟩
 ·rw[h5]
  refine hk _ ⟨_,_,li h1,h2,fun n=>?_⟩ (tL _ _)
  rw[Gt,h3 n]
  unfold Nb
  by_cases hn:n=i
  ·subst hn;rw[if_pos rfl,←h3 n];exact h4
  ·rw[if_neg hn]
 ·rw[h7]
  obtain⟨e1,e2⟩:=Ou es h2 j e i h4 h5
  refine hk _ ⟨_,_,li h1,by rw[Gt,aoh];exact e1,fun n=>?_⟩ (tL _ _)
  rw[Gt,aoh,e2 n]
  unfold Nb
  split<;>first|rfl|exact h3 n
end Go.Vc

namespace Go.Vc
section
variable {P : Program} {ev : Ev} {H : Hp} {K K' : Value → Hp → Prop}
theorem Ov{s:Shape}{r:Option Nat}{k:Value}{F G:Option Value→Prop}(h:yp H s r k F)(hk:∀x,F x→G x):yp H s r k G:=by
 unfold yp at*
 cases r with
 |none=>exact hk _ h
 |some b=>exact ak h fun m h=>ak h fun x=>hk _
theorem Kg{T size bytes:Nat}{z:List Value}{s x:Value}(h:gk T size bytes z s x H K)(hk:∀v H',K v H'→K' v H'):gk T size bytes z s x H K':=by
 refine lz h fun base n c h=>zW h fun m new h=>?_
 obtain⟨h1,h2,h3⟩:=h
 exact⟨fun a b=>hk _ _ (h1 a b),fun a b=>zV (h2 a b) fun b o h=>ak h fun l h=>bN h (hk _ _),fun a=>⟨(h3 a).1,zW (h3 a).2 fun n l h c' hc=>hk _ _ (h c' hc)⟩⟩
theorem GL(i:dh)(h:i.vc P ev H K)(hk:∀v H',K v H'→K' v H'):i.vc P ev H K':=by
 cases hc:i.cls with
 |pure=>exact Pb i hc h hk
 |quiet=>
  cases i<;>simp[dh.cls]at hc<;>simp only[dh.vc]at h ⊢
  ·exact ak h fun v h=>qI h fun b o h=>ak h fun l h=>ak h fun v=>hk _ _
  ·exact ak h fun v h=>qI h fun b o h=>ak h fun l h=>bN h (hk _ _)
  ·exact ak h fun v h=>ak h fun v h=>vR h fun r h=>bN h fun h=>Ov h fun x=>hk _ _
  ·refine ak h fun v h=>vR h fun r h=>?_
   unfold Mc at*
   cases r with
   |none=>exact hk _ _ h
   |some b=>exact ak h fun m=>hk _ _
  ·exact ak h fun v h=>DL h fun l=>hk _ _
 |HH=>
  cases i<;>simp[dh.cls]at hc<;>simp only[dh.vc]at h ⊢
  ·exact ak h fun v=>hk _ _
  ·exact hk _ _ h
  ·exact GI h fun l=>hk _ _
  ·exact ak h fun v h=>qI h fun b o h=>ak h fun v h=>ak h fun l h=>bN h fun h=>bN h fun h=>bN h (hk _ _)
  ·exact hk _ _ h
  ·exact ak h fun v h=>ak h fun v h=>ke h fun n h=>ke h fun c h=>bN h (hk _ _)
  ·exact ak h fun v h=>ak h fun v h=>ak h fun v h=>vR h fun r h=>ak h fun b h=>bN h fun h=>ak h fun es h=>ak h fun x h=>bN h (hk _ _)
  ·exact ly h fun l h=>af.mono h hk
  ·refine ak h fun v h=>ly h fun l h=>?_
   unfold Yj at*
   split at h
   ·exact⟨h.1,h.2.mono hk⟩
   ·exact h.elim
  ·refine ak h fun v h=>ly h fun l h=>?_
   obtain⟨T,v,f,rv,e,hm,hc⟩:=h
   exact⟨T,v,f,rv,e,hm,hc.mono hk⟩
  ·exact ak h fun v h=>ak h fun v h=>Kg h hk
  ·exact ak h fun v h=>ak h fun v h=>vR h fun r h=>ak h fun b h=>bN h fun h=>ak h fun es h=>ak h fun x=>hk _ _
  ·exact ak h fun v h=>lz h fun a n c h=>by
    rcases h with ⟨h1,h2⟩| ⟨h1,b,o,l,h2,h3,h4,h5,h6⟩
    ·exact .inl ⟨h1,hk _ _ h2⟩
    ·exact .inr ⟨h1,b,o,l,h2,h3,h4,h5,hk _ _ h6⟩
  ·refine ak h fun v h=>?_
   unfold jv at*
   split at h
   ·exact fun c hc=>hk _ _ (h c hc)
   ·exact h.elim
  ·exact ly h fun l h=>by obtain⟨v,h1,h2⟩:=h;exact⟨v,h1,hk _ _ h2⟩
theorem My(s:fM)(h:s.vc P ev H K)(hk:∀v H',K v H'→K' v H'):s.vc P ev H K':=by
 unfold fM.vc at*
 cases hq:s.quiet
 ·rw[hq]at h;exact GL s.op h hk
 ·rw[hq]at h;obtain⟨v,h1,h2⟩:=h;exact⟨v,h1,hk _ _ h2⟩
theorem Pe{o:Option Value}{F F':Bool→Prop}{N N':Prop}(h:gV o F N)(hf:∀b,F b→F' b)(hn:N→N'):gV o F' N':=by
 rcases EU h with ⟨b,rfl,h⟩| ⟨vs,rfl,h⟩
 ·exact hf b h
 ·exact hn h
theorem BX{b:Bool}{A A' B B':Prop}(h:Gr b A B)(ha:A→A')(hb:B→B'):Gr b A' B':=by
 cases b
 ·exact hb h
 ·exact ha h
theorem Ow{F F':Env→Hp→Prop}(hk:∀e H,F e H→F' e H):∀ (l:List fM) (env:Env) (H:Hp),iM P F l env H→iM P F' l env H:=by
 intro l
 induction l with
 |nil=>intro env H h;exact hk _ _ h
 |cons s l ih=>
  intro env H h
  unfold iM at h ⊢
  cases hg:s.guard with
  |none=>rw[hg]at h;exact My s h fun v H'=>ih _ _
  |some g=>
   rw[hg]at h
   exact Pe h (fun b h=>BX h (fun h=>My s h fun v H'=>ih _ _) (ih _ _)) (ih _ _)
theorem Do{s:fM}{env:Env}{F F' N N':Env→Prop}(h:BV s env F N)(hf:∀e,F e→F' e)(hn:∀e,N e→N' e):BV s env F' N':=by
 unfold BV at*
 cases hg:s.guard with
 |none=>rw[hg]at h;exact hf _ h
 |some g=>rw[hg]at h;exact Pe h (fun b h=>BX h (hf _) (hn _)) (hn _)
theorem Td{Inv:Hp→Prop}{F F':Env→Hp→Prop}(hk:∀e H,F e H→F' e H):∀ (t:sK) (env:Env) (H:Hp),Dm P Inv F t env H→Dm P Inv F' t env H:=by
 intro t
 induction t with
 |done=>intro env H h;exact hk _ _ h
 |stop=>intro env H h;trivial
 |aR s t ih=>intro env H h;exact Do h (fun e h=>GL s.op h fun v H'=>ih _ _) (fun e=>ih _ _)
 |xP s t ih=>intro env H h;exact Do h (fun e h=>by obtain⟨v,h1,h2⟩:=h;exact⟨v,h1,ih _ _ h2⟩) (fun e=>ih _ _)
 |aE s t r ih ihr=>intro env H h;exact⟨Do h.1 (fun e h=>GL s.op h fun v H' h=>bN h (ih _ _)) (fun e=>ih _ _),ihr _ _ h.2⟩
theorem DG:∀ (s:S) (env:Env) (H:Hp) (Kn QZ:Env→Hp→Prop) (Kx Q0:Nat→Env→Hp→Prop) (Kr Q1:Env→Hp→Prop),(∀e H,Kn e H→QZ e H)→(∀i e H,Kx i e H→Q0 i e H)→(∀e H,Kr e H→Q1 e H)→
  vc P s env H Kn Kx Kr→vc P s env H QZ Q0 Q1:=by
 intro s
 induction s with
 |skip=>intro env H Kn QZ Kx Q0 Kr Q1 hn hx hr h;exact hn _ _ h
 |aY ops aM=>intro env H Kn QZ Kx Q0 Kr Q1 hn hx hr h;exact Ow (fun e H h=>hn _ _ h) ops env H h
 |ng t aM=>intro env H Kn QZ Kx Q0 Kr Q1 hn hx hr h;obtain⟨Inv,hI,h⟩:=h;exact⟨Inv,hI,Td (fun e H h=>hn _ _ h) t env H h⟩
 |seq a b iha ihb=>intro env H Kn QZ Kx Q0 Kr Q1 hn hx hr h;exact iha env H _ _ _ _ _ _ (fun e H h=>ihb e H _ _ _ _ _ _ hn hx hr h) hx hr h
 |cond c x y ihx ihy=>
  intro env H Kn QZ Kx Q0 Kr Q1 hn hx hr h
  simp only[vc]at*
  unfold GJ at*
  split at h
  ·exact GH h fun b h=>BX h (ihx _ _ _ _ _ _ _ _ hn hx hr) (ihy _ _ _ _ _ _ _ _ hn hx hr)
  ·exact h.elim
 |DU id b ih=>intro env H Kn QZ Kx Q0 Kr Q1 hn hx hr h;exact ih env H _ _ _ _ _ _ hn (fun i e H h=>BX h (hn _ _) (hx _ _ _)) hr h
 |loop L b ih=>
  intro env H Kn QZ Kx Q0 Kr Q1 hn hx hr h
  obtain⟨I,h0,round⟩:=h
  exact⟨I,h0,fun m env H hI=>ih env H _ _ _ _ _ _ (fun e H h=>h) hx hr (round m env H hI)⟩
 |exit id=>intro env H Kn QZ Kx Q0 Kr Q1 hn hx hr h;exact hx _ _ _ h
 |ret=>intro env H Kn QZ Kx Q0 Kr Q1 hn hx hr h;exact hr _ _ h
 |bad=>intro env H Kn QZ Kx Q0 Kr Q1 hn hx hr h;exact h.elim
def Rg(a b:S):S:=.seq a b
theorem UH(a b:S)(env:Env)(H:Hp)(Kn:Env→Hp→Prop)(Kx:Nat→Env→Hp→Prop)(Kr:Env→Hp→Prop):vc P (Rg a b) env H Kn Kx Kr=vc P a env H (fun aU H'=>vc P b aU H' Kn Kx Kr) Kx Kr:=rfl
theorem Ns{a b:S}{env:Env}{H:Hp}{Kn:Env→Hp→Prop}{Kx:Nat→Env→Hp→Prop}{Kr:Env→Hp→Prop}(M:Env→Hp→Prop)(h1:vc P a env H M Kx Kr)(h2:∀e H',M e H'→vc P b e H' Kn Kx Kr):vc P (Rg a b) env H Kn Kx Kr:=
 DG a env H _ _ _ _ _ _ h2 (fun _ _ _ h=>h) (fun _ _ h=>h) h1
end
end Go.Vc

namespace Go.Vc
def Kh(P:Program)(T:TypeId)(name:String):Option (List FieldStep×Option (FuncId×Bool)):=
 ((P.info? T).bind fun i=>i.methods.find? (·.name==name)).map fun m=>(m.path.toList,m.func)
theorem vm{P:Program}{T:TypeId}{name:String}{p:List FieldStep}{f:Option (FuncId×Bool)}(h:Kh P T name=some (p,f)):
  ∃i m,P.info? T=some i∧i.methods.find? (·.name==name)=some m∧m.path.toList=p∧m.func=f:=by
 unfold Kh at h
 cases hi:P.info? T with
 |none=>rw[hi]at h;cases h
 |some i=>
  rw[hi]at h
  simp only[Option.bind_some]at h
  cases hm:i.methods.find? (·.name==name)with
  |none=>rw[hm]at h;cases h
  |some m=>
   rw[hm]at h
   simp only[Option.map_some,aor,Prod.mk.injEq]at h
   exact⟨i,m,rfl,hm,h.1,h.2⟩
def V7(P:Program)(T:TypeId)(name:String):Option FuncId:=
 match Kh P T name,P.underlying T with
 |some ([],some (f,true)),some (.pointer _)=>if eF P f then some f else none
 |_,_=>none
theorem bD{P:Program}{H:Hp}{T:TypeId}{v:Value}{name:String}{f:FuncId}(h:V7 P T name=some f):SR P H T v name f v:=by
 unfold V7 at h
 split at h
 ·rename_i f' e h1 hu
  split at h
  ·rename_i hc
   injection h with h
   subst h
   refine⟨hc,fun w hw=>?_⟩
   obtain⟨i,m,g1,g2,g3,g4⟩:=vm h1
   show(method ((P.types.size+99)+1) T v name).run P w=_
   unfold method
   simp[ec g1,g2,g3,g4,follow,receiverAt,run_underlying hu,Place.get]
  ·cases h
 ·cases h
def Pf(P:Program)(T:TypeId)(name:String):Option (Nat×FuncId):=
 match Kh P T name with
 |some ([s],some (f,true))=>
  match s.deref,P.underlying s.struct with
  |true,some (.struct fs)=>
   match fs[s.index]? with
   |some fd=>match P.underlying fd.type with
    |some (.pointer _)=>if(P.info? fd.type).isSome∧P.cellsOf fd.type≠0∧eF P f=true then some (fd.offset,f)else none
    |_=>none
   |none=>none
  |_,_=>none
 |_=>none
theorem EJ{P:Program}{fd:Field}(hi:(P.info? fd.type).isSome=true)(h0:P.cellsOf fd.type≠0)(a:Addr)(w:World):(fieldPlace a fd).run P w= .ok (a.add fd.offset) w:=by
 simp[fieldPlace,bL hi,h0]
theorem fU{P:Program}{H:Hp}{T:TypeId}{b o off:Nat}{l:List Value}{rv:Value}{name:String}{f:FuncId}(h:Pf P T name=some (off,f))(hr:H.rd b=some l)(hv:l[o+off]? =some rv):
  SR P H T (.pointer (some ⟨b,o,none⟩)) name f rv:=by
 unfold Pf at h
 split at h
 ·rename_i s f' h1
  split at h
  ·rename_i fs hd hs
   split at h
   ·rename_i fd hf
    split at h
    ·rename_i e hu
     split at h
     ·rename_i hc
      simp only[aor,Prod.mk.injEq]at h
      obtain⟨rfl,rfl⟩:=h
      refine⟨hc.2.2,fun w hw=>?_⟩
      subst hw
      obtain⟨i,m,g1,g2,g3,g4⟩:=vm h1
      have hus:(P.underlying fd.type).isSome=true:=by rw[hu];rfl
      have hag:eU P fd.type=false:=by unfold eU;rw[hu]
      have ade:=(jw (P:=P) (w:=w) (t:=fd.type) hc.1 hus hr).2 hag rv hv
      show(method ((P.types.size+99)+1) T _ name).run P w=_
      unfold method
      simp[ec g1,g2,g3,g4,follow,run_underlying hs,hf,hd,Place.get,asAddr,EJ hc.1 hc.2.1,receiverAt,run_underlying hu,zv,ade]
     ·cases h
    ·cases h
   ·cases h
  ·cases h
 ·cases h
theorem aa5{P:Program}{T:TypeId}{a:Addr}{name:String}{x:Nat×FuncId}{cap:Array Value}(h:Pf P T name=some x):PN P (.func (.method name) #[.iface T (.pointer (some a))] cap):=by
 unfold Pf at h
 split at h
 ·rename_i s f' h1
  split at h
  ·rename_i fs hd hs
   split at h
   ·rename_i fd hf
    refine .inr ⟨name,T,_,cap,rfl,fun w=>?_⟩
    obtain⟨i,m,g1,g2,g3,g4⟩:=vm h1
    show(nilAhead ((P.types.size+99)+1) T _ name).run P w=_
    unfold nilAhead
    simp[ec g1,g2,g3,g4,followBlind,run_underlying hs,hf,hd]
   ·cases h
  ·cases h
 ·cases h
theorem gO.mono{P:Program}{recv:Value}{name:String}{args:List Value}{H:Hp}{K K':Value→Hp→Prop}(h:gO P recv name args H K)(hk:∀v H',K v H'→K' v H'):gO P recv name args H K':=by
 obtain⟨T,v,f,rv,h1,h2,h3⟩:=h
 exact⟨T,v,f,rv,h1,h2,h3.mono hk⟩
end Go.Vc

namespace Go.Vc
end Go.Vc
