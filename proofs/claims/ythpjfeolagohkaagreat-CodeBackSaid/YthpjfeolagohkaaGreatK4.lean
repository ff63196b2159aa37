/- Texts put behind each other. -/
import Derived.Test.YthpjfeolagohkaaGreatK98
import Derived.Orders
import Derived.Laws.Sem
import Derived.Laws.World
import Derived.KernelRfl
set_option maxRecDepth 100000
set_option maxHeartbeats 8000000
namespace Go.Vc
structure Tag{α:Sort _}(F:α):Type where
abbrev Hp:=Array Obj
structure bW(w w':World):Prop where
 os:w'.os=w.os
 output:w'.output=w.output
theorem bW.refl(w:World):bW w w:=⟨rfl,rfl⟩
theorem bW.trans{a b c:World}(h:bW a b)(k:bW b c):bW a c:=⟨k.os.trans h.os,k.output.trans h.output⟩
def af(P:Program)(f:FuncId)(args:List Value)(H:Hp)(K:Value→Hp→Prop)(_t:Tag K:=⟨⟩):Prop:=
 ∀w,w.heap=H→Calls P f args.toArray w fun e w'=>∃v,e= .returned v∧bW w w'∧K v w'.heap
theorem af.mono{P:Program}{f:FuncId}{args:List Value}{H:Hp}{K K':Value→Hp→Prop}(h:af P f args H K)(hk:∀v H',K v H'→K' v H'):
  af P f args H K':=
 fun w hw=>(h w hw).mono fun _ _ ⟨v,e,s,k⟩=>⟨v,e,s,hk _ _ k⟩
def dR(P:Program)(o:Oper)(a:Act)(H:Hp)(K:Value→Hp→Prop):Prop:=
 ∀w,w.heap=H→
  (∃v w',(execOp a.eval o).run P w= .ok (.value v) w'∧bW w w'∧K v w'.heap)∨
  (∃w',(execOp a.eval o).run P w= .ok .skip w'∧bW w w'∧K undef w'.heap)∨
  (∃f args w',(execOp a.eval o).run P w= .ok (.enter f args) w'∧bW w w'∧af P f args.toList w'.heap K)
theorem dR.mono{P:Program}{o:Oper}{a:Act}{H:Hp}{K K':Value→Hp→Prop}(h:dR P o a H K)(hk:∀v H',K v H'→K' v H'):dR P o a H K':=by
 intro w hw
 rcases h w hw with ⟨v,w',h1,h2,h3⟩| ⟨w',h1,h2,h3⟩| ⟨f,args,w',h1,h2,h3⟩
 ·exact .inl ⟨v,w',h1,h2,hk _ _ h3⟩
 ·exact .inr (.inl ⟨w',h1,h2,hk _ _ h3⟩)
 ·exact .inr (.inr ⟨f,args,w',h1,h2,h3.mono hk⟩)
theorem dR.wp{P:Program}{o:Oper}{a:Act}{H:Hp}{K:Value→Hp→Prop}{next:Act→World→Prop}{Q:Exit→Act→World→Prop}{w:World}
  (h:dR P o a H K)(hw:w.heap=H)(hn:∀v w',bW w w'→K v w'.heap→next (a.put o.dst v) w'):o.wp P a w next Q:=by
 unfold Oper.wp
 rcases h w hw with ⟨v,w',h1,h2,h3⟩| ⟨w',h1,h2,h3⟩| ⟨f,args,w',h1,h2,h3⟩
 ·rw[h1];exact hn _ _ h2 h3
 ·rw[h1];exact hn _ _ h2 h3
 ·rw[h1]
  have h4:=h3 w' rfl
  simp only[ap5]at h4
  show Calls P f args w' _
  refine h4.mono fun e w'' he=>?_
  obtain⟨v,rfl,hs,hk⟩:=he
  exact hn _ _ (h2.trans hs) hk
def K9(P:Program)(ops:Array Oper)(K:Act→Hp→Prop):List Nat→Act→Hp→Prop
 | [],a,H=>K a H
 |i::r,a,H=>
  match ops[i]? with
  |none=>K9 P ops K r a H
  |some o=>if Region.wanted o (yielded ops a.tmps)then dR P o a H (fun v H'=>K9 P ops K r (a.put o.dst v) H')else K9 P ops K r (a.put o.dst undef) H
theorem Ig{P:Program}{ops:Array Oper}{K:Act→Hp→Prop}{Q:Exit→Act→World→Prop}{w₀:World}
  (hQ:∀a w,bW w₀ w→K a w.heap→Q .normal a w):∀ (l:List Nat) (a:Act) (w:World),bW w₀ w→K9 P ops K l a w.heap→wpOps P ops Q l a w:=by
 intro l
 induction l with
 |nil=>intro a w hs h;exact hQ a w hs h
 |cons i r ih=>
  intro a w hs h
  simp only[wpOps,K9]at*
  cases ho:ops[i]? with
  |none=>rw[ho]at h;exact ih _ _ hs h
  |some o=>
   rw[ho]at h
   simp only at h ⊢
   split
   ·rename_i hw
    rw[if_pos hw]at h
    exact .inl (h.wp rfl fun v w' BO hk=>ih _ _ (hs.trans BO) hk)
   ·rename_i hw
    rw[if_neg hw]at h
    exact ih _ _ hs h
inductive KX where
 |pure|quiet|G9
 deriving DecidableEq,Inhabited
def jg(P:Program)(ops:Array Oper)(cls:Nat→KX)(i:Nat)(K:Act→Hp→Prop)(a:Act)(H:Hp):Prop:=
 match ops[i]? with
 |none=>K a H
 |some o=>
  if Region.wanted o (yielded ops a.tmps)then
   match cls i with
   | .pure=>∃v,(∀w,(execOp a.eval o).run P w= .ok (.value v) w)∧K (a.put o.dst v) H
   | .quiet=>∃v,dR P o a H (fun v' H'=>v'=v∧H'=H)∧K (a.put o.dst v) H
   | .G9=>dR P o a H fun v H'=>K (a.put o.dst v) H'
  else K (a.put o.dst undef) H
theorem zq{P:Program}{ops:Array Oper}{cls:Nat→KX}{i:Nat}{K K':Act→Hp→Prop}{a:Act}{H:Hp}(hk:∀a H,K a H→K' a H)
  (h:jg P ops cls i K a H):jg P ops cls i K' a H:=by
 unfold jg at*
 split
 ·exact hk _ _ (by simpa[*]using h)
 ·rename_i o ho
  simp only[ho]at h
  split
  ·rename_i hw
   rw[if_pos hw]at h
   cases hc:cls i with
   |pure=>rw[hc]at h;obtain⟨v,h1,h2⟩:=h;exact⟨v,h1,hk _ _ h2⟩
   |quiet=>rw[hc]at h;obtain⟨v,h1,h2⟩:=h;exact⟨v,h1,hk _ _ h2⟩
   |G9=>rw[hc]at h;exact h.mono fun v H'=>hk _ _
  ·rename_i hw;rw[if_neg hw]at h;exact hk _ _ h
theorem zT{P:Program}{o:Oper}{a:Act}{v:Value}(h:∀w,(execOp a.eval o).run P w= .ok (.value v) w)(H:Hp):
  dR P o a H fun v' H'=>v'=v∧H'=H:=fun w hw=>.inl ⟨v,w,h w,bW.refl w,rfl,hw⟩
theorem Ih{P:Program}{ops:Array Oper}{cls:Nat→KX}{i:Nat}{K:Act→Hp→Prop}{a:Act}{w:World}{K':Act→World→Prop}
  {Q:Exit→Act→World→Prop}(hk:∀a w',bW w w'→K a w'.heap→K' a w')(h:jg P ops cls i K a w.heap):wpOp P ops Q i K' a w:=by
 unfold jg at h
 unfold wpOp
 split
 ·rename_i ho;rw[ho]at h;exact hk _ _ (bW.refl w) h
 ·rename_i o ho
  simp only[ho]at h
  split
  ·rename_i hw
   rw[if_pos hw]at h
   refine .inl ?_
   cases hc:cls i with
   |pure=>
    rw[hc]at h
    obtain⟨v,h1,h2⟩:=h
    exact(zT h1 w.heap).wp rfl fun v' w' hs ⟨e1,e2⟩=>by subst e1;exact hk _ _ hs (e2▸h2)
   |quiet=>
    rw[hc]at h
    obtain⟨v,h1,h2⟩:=h
    exact h1.wp rfl fun v' w' hs ⟨e1,e2⟩=>by subst e1;exact hk _ _ hs (e2▸h2)
   |G9=>rw[hc]at h;exact h.wp rfl fun v' w' hs Qf=>hk _ _ hs Qf
  ·rename_i hw;rw[if_neg hw]at h;exact hk _ _ (bW.refl w) h
def QM(P:Program)(ops:Array Oper)(cls:Nat→KX)(K:Act→Hp→Prop):Nat→Array Bool→Act→Hp→Prop
 |0,listed,a,H=>Region.ready .any ops listed=[]∧K a H
 |cS+1,listed,a,H=>
  (Region.ready .any ops listed=[]→K a H)∧
  ∀i∈Region.ready .any ops listed,jg P ops cls i (QM P ops cls K cS (listed.setIfInBounds i true)) a H
theorem Ii{P:Program}{ops:Array Oper}{cls:Nat→KX}{K:Act→Hp→Prop}{Q:Exit→Act→World→Prop}{w₀:World}
  (hQ:∀a w,bW w₀ w→K a w.heap→Q .normal a w):∀ (cS:Nat) (listed:Array Bool) (a:Act) (w:World),bW w₀ w→
   QM P ops cls K cS listed a w.heap→wpAny P .any ops Q cS listed a w:=by
 intro cS
 induction cS with
 |zero=>intro listed a w hs h;exact⟨h.1,hQ _ _ hs h.2⟩
 |succ cS ih=>
  intro listed a w hs h
  exact⟨fun hr=>hQ _ _ hs (h.1 hr),fun i hi=>Ih (fun a' w' BO hk=>ih _ _ _ (hs.trans BO) hk) (h.2 i hi)⟩
def KX.Pf:KX→KX→Bool
 | .pure,_=>true
 |_,.pure=>true
 | .quiet,.quiet=>true
 |_,_=>false
section
variable {P : Program} {ops : Array Oper} {cls : Nat → KX}
theorem By(H:Hp):∃w:World,w.heap=H:=⟨{ (default:World)with heap:=H},rfl⟩
theorem iY{o:Oper}{y:Nat→Option Bool}:Region.wanted o y=true∨Region.wanted o y=false:=by cases Region.wanted o y<;>simp
theorem Bz{o:Oper}{a:Act}{dst:Option Tmp}{u:Value}(hs:∀cs b,o.op≠ .select cs b)(h:∀d,dst=some d→d∉o.looksAt ops){H:Hp}{K:Value→Hp→Prop}:
  dR P o (a.put dst u) H K↔dR P o a H K:=by
 unfold dR
 rw[execOp_put (ops:=ops) o hs a dst u h]
theorem acA{i j:Nat}{oi oj:Oper}(hi:ops[i]? =some oi)(hj:ops[j]? =some oj)(Vm:oi.apart ops oj=true)(YC:(cls i).Pf (cls j)=true)
  (hsi:∀cs b,oi.op≠ .select cs b)(hsj:∀cs b,oj.op≠ .select cs b){K:Act→Hp→Prop}{a:Act}{H:Hp}
  (h:jg P ops cls i (fun a' H'=>jg P ops cls j K a' H') a H):jg P ops cls j (fun a' H'=>jg P ops cls i K a' H') a H:=by
 obtain⟨h1,h2,h3⟩:=Oper.apart_spec Vm
 have wi:∀u,Region.wanted oi (yielded ops (a.put oj.dst u).tmps)=Region.wanted oi (yielded ops a.tmps):=fun u=>wanted_put oi a oj.dst u h3
 have wj:∀u,Region.wanted oj (yielded ops (a.put oi.dst u).tmps)=Region.wanted oj (yielded ops a.tmps):=fun u=>wanted_put oj a oi.dst u h1
 have ei:∀u,execOp (a.put oj.dst u).eval oi=execOp a.eval oi:=fun u=>execOp_put oi hsi a oj.dst u h3
 have ej:∀u,execOp (a.put oi.dst u).eval oj=execOp a.eval oj:=fun u=>execOp_put oj hsj a oi.dst u h1
 have cm:∀v u,(a.put oi.dst v).put oj.dst u=(a.put oj.dst u).put oi.dst v:=fun v u=>Act.put_comm a v u h2
 unfold jg at*
 simp only[hi,hj]at*
 simp only[wi,wj,ei,ej,cm,Bz (P:=P) hsi h3,Bz (P:=P) hsj h1]at*
 rcases iY (o:=oi) (y:=yielded ops a.tmps)with hwi|hwi<;>rcases iY (o:=oj) (y:=yielded ops a.tmps)with hwj|hwj<;>
  simp only[hwi,hwj,if_true,if_false,apJ]at*
 ·cases R0:cls i<;>cases YD:cls j<;>simp only[R0,YD,KX.Pf,apJ]at h YC ⊢
  ·obtain⟨v,e1,u,e2,k⟩:=h;exact⟨u,e2,v,e1,k⟩
  ·obtain⟨v,e1,u,e2,k⟩:=h;exact⟨u,e2,v,e1,k⟩
  ·obtain⟨v,e1,k⟩:=h;exact k.mono fun u H' k'=>⟨v,e1,k'⟩
  ·obtain⟨v,e1,u,e2,k⟩:=h;exact⟨u,e2,v,e1,k⟩
  ·obtain⟨v,e1,u,e2,k⟩:=h;exact⟨u,e2,v,e1,k⟩
  ·obtain⟨w,hw⟩:=By H
   have pick:∃u,∀w,(execOp a.eval oj).run P w= .ok (.value u) w:=by
    rcases h w hw with ⟨v,w',_,_,u,e,_⟩| ⟨w',_,_,u,e,_⟩| ⟨f,args,w',_,_,hc⟩
    ·exact⟨u,e⟩
    ·exact⟨u,e⟩
    ·obtain⟨e,w'',fr,⟨v,_,_,u,eu,_⟩,_⟩:=hc w' rfl []
     exact⟨u,eu⟩
   obtain⟨u,eu⟩:=pick
   refine⟨u,eu,h.mono fun v H' ⟨u',eu',k⟩=>?_⟩
   have:=eu w
   rw[eu' w]at this
   injection this with h1 h2
   injection h1 with h1
   exact h1▸k
 ·cases R0:cls i<;>simp only[R0]at h ⊢ <;>exact h
 ·cases YD:cls j<;>simp only[YD]at h ⊢ <;>exact h
 ·exact h
def uZ(ops:Array Oper)(listed:Array Bool):Prop:=
 ∀k ok,ops[k]? =some ok→listed.getD k false=true→∀e∈ok.after,Region.binds .any e=true→listed.getD e.on false=true
theorem uZ.set{listed:Array Bool}(h:uZ ops listed){i:Nat}(hi:i∈Region.ready .any ops listed):uZ ops (listed.setIfInBounds i true):=by
 intro k ok hk hl e he hb
 by_cases hik:i=k
 ·subst hik
  obtain⟨_,o,ho,dJ⟩:=mem_ready.1 hi
  rw[hk]at ho
  injection ho with ho
  subst ho
  exact getD_set_true (dJ e he hb)
 ·rw[getD_set_ne false hik]at hl
  exact getD_set_true (h k ok hk hl e he hb)
def up(my:Array Nat)(o:Oper):Nat:=o.after.toList.foldl (fun s e=>if Region.binds .any e then s ||| (2^e.on |||my.getD e.on 0)else s) 0
theorem Og{my:Array Nat}{i:Nat}:∀ (l:List Edge) (s:Nat),
  (l.foldl (fun s e=>if Region.binds .any e then s ||| (2^e.on |||my.getD e.on 0)else s) s).testBit i=true→
   s.testBit i=true∨∃e∈l,Region.binds .any e=true∧(e.on=i∨(my.getD e.on 0).testBit i=true):=by
 intro l
 induction l with
 |nil=>intro s h;exact .inl h
 |cons e l ih=>
  intro s h
  rw[List.foldl_cons]at h
  rcases ih _ h with h| ⟨x,hx,h⟩
  ·split at h
   ·rename_i hb
    rw[Nat.testBit_or,Nat.testBit_or,Nat.testBit_two_pow]at h
    simp only[Bool.or_eq_true,ao0]at h
    rcases h with h|h|h
    ·exact .inl h
    ·exact .inr ⟨e,apC,hb,.inl h⟩
    ·exact .inr ⟨e,apC,hb,.inr h⟩
   ·exact .inl h
  ·exact .inr ⟨x,apd _ hx,h⟩
def zU(ops:Array Oper)(my:Array Nat):Bool:=
 (List.range ops.size).all fun j=>
  match ops[j]? with
  |none=>false
  |some oj=>oj.after.all (fun e=> !Region.binds .any e || decide (e.on<j)) && (my.getD j 0 |||up my oj==up my oj)
theorem GB{my:Array Nat}(h:zU ops my=true){listed:Array Bool}(hc:uZ ops listed){i:Nat}:∀ (j:Nat) (oj:Oper),ops[j]? =some oj→
  (∀e∈oj.after,Region.binds .any e=true→listed.getD e.on false=true)→(my.getD j 0).testBit i=true→listed.getD i false=true:=by
 intro j
 induction j using Nat.strongRecOn with
 |_ j ih=>
  intro oj hj dJ hb
  have aK:j<ops.size:=(aps.1 hj).1
  have h1:=(apF.1 h) j (apx.2 aK)
  simp only[hj,apf,beq_iff_eq]at h1
  obtain⟨hlo,Kt⟩:=h1
  have hu:(up my oj).testBit i=true:=by rw[←Kt,Nat.testBit_or,hb,Bool.true_or]
  rcases Og _ _ hu with h0| ⟨e,he,hbd,h2⟩
  ·simp at h0
  ·have hem:e∈oj.after:=by simpa using he
   have hl:=dJ e hem hbd
   rcases h2 with h2|h2
   ·exact h2▸hl
   ·have agV:e.on<j:=by
     have:=(apX.1 hlo) e hem
     simpa[hbd]using this
    cases ZZ:ops[e.on]? with
    |none=>
     have:ops.size≤e.on:=by simpa using ZZ
     omega
    |some oe=>exact ih e.on agV oe ZZ (hc e.on oe ZZ hl) h2
def zV(ops:Array Oper)(my:Array Nat)(cls:Nat→KX):Bool:=
 (List.range ops.size).all fun j=>
  match ops[j]? with
  |none=>false
  |some oj=>(List.range j).all fun i=>(my.getD j 0).testBit i ||
    match ops[i]? with
    |none=>false
    |some oi=>oi.apart ops oj && (cls i).Pf (cls j)
theorem J9{my:Array Nat}(h:zV ops my cls=true){i j:Nat}{oi oj:Oper}(hi:ops[i]? =some oi)(hj:ops[j]? =some oj)(Hd:i<j)
  (hn:(my.getD j 0).testBit i=false):oi.apart ops oj=true∧(cls i).Pf (cls j)=true:=by
 have aK:j<ops.size:=(aps.1 hj).1
 have h1:=(apF.1 h) j (apx.2 aK)
 simp only[hj,apF,apx]at h1
 have h2:=h1 i Hd
 simp only[hi,hn,aqF,apf]at h2
 exact h2
theorem Oh{my:Array Nat}(Df:zU ops my=true)(YC:zV ops my cls=true){K:Act→Hp→Prop}{i:Nat}{oi:Oper}(hi:ops[i]? =some oi)
  (Dg:∀ (j:Nat) (o:Oper) cs b,ops[j]? =some o→o.op≠ .select cs b):
  ∀ (cS:Nat) (listed:Array Bool) (a:Act) (H:Hp),uZ ops listed→(∀j,j<i→listed.getD j false=true)→
   i∈Region.ready .any ops listed→
   jg P ops cls i (QM P ops cls K cS (listed.setIfInBounds i true)) a H→QM P ops cls K (cS+1) listed a H:=by
 intro cS
 induction cS with
 |zero=>
  intro listed a H _ _ hr h
  refine⟨fun h0=>(by rw[h0]at hr;cases hr),fun j hj=>?_⟩
  by_cases MM:j=i
  ·subst MM;exact h
  ·exfalso
   have GC:Region.ready .any ops (listed.setIfInBounds i true)=[]:=by
    unfold jg at h
    simp only[hi]at h
    split at h
    ·cases hc:cls i<;>simp only[hc]at h
     ·obtain⟨v,_,k⟩:=h;exact k.1
     ·obtain⟨v,_,k⟩:=h;exact k.1
     ·obtain⟨w,hw⟩:=By H
      rcases h w hw with ⟨v,w',_,_,k⟩| ⟨w',_,_,k⟩| ⟨f,args,w',_,_,hc⟩
      ·exact k.1
      ·exact k.1
      ·obtain⟨e,w'',fr,⟨v,_,_,k⟩,_⟩:=hc w' rfl []
       exact k.1
    ·exact h.1
   have:=ready_mono hj MM
   rw[GC]at this
   cases this
 |succ cS ih=>
  intro listed a H tD Ka hr h
  refine⟨fun h0=>(by rw[h0]at hr;cases hr),fun j hj=>?_⟩
  by_cases MM:j=i
  ·subst MM;exact h
  ·obtain⟨acF,oj,T8,dJ⟩:=mem_ready.1 hj
   have agW:=(mem_ready.1 hr).1
   have hjs:listed.getD j false=false:=by
    rcases apK j listed.size with h'|h'
    ·simpa[h']using acF
    ·simp[apB h']
   have his:listed.getD i false=false:=by
    rcases apK i listed.size with h'|h'
    ·simpa[h']using agW
    ·simp[apB h']
   have Hd:i<j:=by
    rcases apK i j with h'|h'
    ·exact h'
    ·have h1:=Ka j (by omega)
     rw[hjs]at h1;cases h1
   have YE:(my.getD j 0).testBit i=false:=by
    cases hb:(my.getD j 0).testBit i with
    |false=>rfl
    |true=>have:=GB Df tD j oj T8 dJ hb;rw[his]at this;cases this
   obtain⟨Vm,acG⟩:=J9 YC hi T8 Hd YE
   have h2:jg P ops cls i (fun a' H'=>jg P ops cls j (QM P ops cls K cS ((listed.setIfInBounds i true).setIfInBounds j true)) a' H') a H:=
    zq (fun a' H' hk=>hk.2 j (ready_mono hj MM)) h
   have h3:=acA hi T8 Vm acG (fun cs b=>Dg i oi cs b hi) (fun cs b=>Dg j oj cs b T8) h2
   refine zq (fun a' H' hk=>?_) h3
   refine ih (listed.setIfInBounds j true) a' H' (tD.set hj) (fun k Qf=>getD_set_true (Ka k Qf)) (ready_mono hr (Ne.symm MM)) ?_
   rw[Array.setIfInBounds_comm _ _ MM];exact hk
def R1(P:Program)(ops:Array Oper)(cls:Nat→KX)(K:Act→Hp→Prop):List Nat→Act→Hp→Prop
 | [],a,H=>K a H
 |i::r,a,H=>jg P ops cls i (R1 P ops cls K r) a H
theorem Kb{my:Array Nat}(Df:zU ops my=true)(YC:zV ops my cls=true)(Dg:Region.noSelect ops=true){K:Act→Hp→Prop}:
  ∀ (m k:Nat) (listed:Array Bool) (a:Act) (H:Hp),k+m=ops.size→listed.size=ops.size→(∀j,listed.getD j false=decide (j<k))→
   R1 P ops cls K (List.range' k m) a H→QM P ops cls K m listed a H:=by
 intro m
 induction m with
 |zero=>
  intro k listed a H hk hs hl h
  refine⟨?_,h⟩
  refine List.eq_nil_iff_forall_not_mem.2 fun j hj=>?_
  obtain⟨h0,o,ho,_⟩:=mem_ready.1 hj
  have aK:j<ops.size:=(aps.1 ho).1
  have h1:=hl j
  rw[aoE (by omega)]at h1
  simp[show j<listed.size by omega]at h0 h1
  rw[h0]at h1;cases h1
 |succ m ih=>
  intro k listed a H hk hs hl h
  have aK:k<ops.size:=by omega
  obtain⟨o,ho⟩:∃o,ops[k]? =some o:=⟨ops[k],by simp[aK]⟩
  have Vn:uZ ops listed:=by
   intro x ox hx Wu e he hb
   have kD:x<ops.size:=(aps.1 hx).1
   have h1:=(apF.1 Df) x (apx.2 kD)
   simp only[hx,apf]at h1
   have h2:=(apX.1 h1.1) e he
   simp only[hb,Bool.not_true,aqF,ao0]at h2
   rw[hl x,ao0]at Wu
   rw[hl e.on]
   exact aoE (by omega)
  have GC:k∈Region.ready .any ops listed:=by
   refine mem_ready.2 ⟨?_,o,ho,fun e he hb=>?_⟩
   ·have h1:=hl k
    rw[aoK (by omega)]at h1
    simpa[show k<listed.size by omega]using h1
   ·have h1:=(apF.1 Df) k (apx.2 aK)
    simp only[ho,apf]at h1
    have h2:=(apX.1 h1.1) e he
    simp only[hb,Bool.not_true,aqF,ao0]at h2
    rw[hl e.on];exact aoE h2
  refine Oh Df YC ho (Region.noSelect_spec Dg) m listed a H Vn (fun j hj=>by rw[hl j];exact aoE hj) GC ?_
  rw[List.range'_succ]at h
  simp only[R1]at h
  refine zq (fun a' H' Qf=>ih (k+1) _ a' H' (by omega) (by simpa using hs) (fun j=>?_) Qf) h
  by_cases ZM:k=j
  ·subst ZM
   simp[show k<listed.size by omega]
  ·rw[getD_set_ne false ZM,hl j]
   by_cases hjk:j<k
   ·rw[aoE hjk,aoE (by omega)]
   ·rw[aoK hjk,aoK (by omega)]
theorem Fv{id:Nat}{my:Array Nat}(hm:P.follows .mixedOrders=true)(Df:zU ops my=true)(YC:zV ops my cls=true)
  (Dg:Region.noSelect ops=true){K:Act→Hp→Prop}{Q:Exit→Act→World→Prop}{a:Act}{w:World}
  (hQ:∀a' w',bW w w'→K a' w'.heap→Q .normal a' w')(h:R1 P ops cls K (List.range ops.size) a w.heap):(Code.region id ops true).wp P Q a w:=by
 refine wp_region_any hm ?_
 refine Ii (cls:=cls) (K:=K) (w₀:=w) hQ _ _ _ _ ⟨rfl,rfl⟩ ?_
 refine Kb Df YC Dg ops.size 0 _ _ _ (by omega) (by simp) (fun j=>?_) (by rw[List.range_eq_range']at h;exact h)
 simp only[Nat.not_lt_zero,decide_false]
 by_cases hj:j<ops.size<;>simp[hj]
theorem Fu{id:Nat}{K:Act→Hp→Prop}{Q:Exit→Act→World→Prop}{a:Act}{w:World}
  (hQ:∀a' w',bW w w'→K a' w'.heap→Q .normal a' w')(h:K9 P ops K (List.range ops.size) a w.heap):(Code.region id ops false).wp P Q a w:=
 wp_region (Ig hQ _ _ _ (bW.refl w) h)
inductive Ot where
 |done
 |step(i:Nat)(t:Ot)
 |bc(i:Nat)(t r:Ot)
 |stop
 deriving Inhabited
def gZ(P:Program)(ops:Array Oper)(Inv:Hp→Prop)(st:Nat→Bool)(i:Nat)(K:Act→Hp→Prop)(a:Act)(H:Hp):Prop:=
 match ops[i]? with
 |none=>K a H
 |some o=>
  if Region.wanted o (yielded ops a.tmps)then
   match st i with
   |true=>∃v,(∀H',Inv H'→dR P o a H' fun v' Dx=>v'=v∧Dx=H')∧K (a.put o.dst v) H
   |false=>dR P o a H fun v H'=>Inv H'∧K (a.put o.dst v) H'
  else K (a.put o.dst undef) H
variable {Inv : Hp → Prop} {st : Nat → Bool}
theorem rJ{i:Nat}{K K':Act→Hp→Prop}{a:Act}{H:Hp}(hI:Inv H)(hk:∀a H,Inv H→K a H→K' a H)
  (h:gZ P ops Inv st i K a H):gZ P ops Inv st i K' a H:=by
 unfold gZ at*
 split
 ·exact hk _ _ hI (by simpa[*]using h)
 ·rename_i o ho
  simp only[ho]at h
  split
  ·rename_i hw
   rw[if_pos hw]at h
   cases hc:st i with
   |true=>rw[hc]at h;obtain⟨v,h1,h2⟩:=h;exact⟨v,h1,hk _ _ hI h2⟩
   |false=>rw[hc]at h;exact h.mono fun v H' ⟨k1,k2⟩=>⟨k1,hk _ _ k1 k2⟩
  ·rename_i hw;rw[if_neg hw]at h;exact hk _ _ hI h
theorem Ij{i:Nat}{K:Act→Hp→Prop}{a:Act}{w:World}{K':Act→World→Prop}
  {Q:Exit→Act→World→Prop}(hI:Inv w.heap)(hk:∀a w',bW w w'→Inv w'.heap→K a w'.heap→K' a w')(h:gZ P ops Inv st i K a w.heap):wpOp P ops Q i K' a w:=by
 unfold gZ at h
 unfold wpOp
 split
 ·rename_i ho;rw[ho]at h;exact hk _ _ (bW.refl w) hI h
 ·rename_i o ho
  simp only[ho]at h
  split
  ·rename_i hw
   rw[if_pos hw]at h
   refine .inl ?_
   cases hc:st i with
   |true=>
    rw[hc]at h
    obtain⟨v,h1,h2⟩:=h
    exact(h1 w.heap hI).wp rfl fun v' w' hs ⟨e1,e2⟩=>by subst e1;exact hk _ _ hs (e2▸hI) (e2▸h2)
   |false=>rw[hc]at h;exact h.wp rfl fun v' w' hs ⟨k1,k2⟩=>hk _ _ hs k1 k2
  ·rename_i hw;rw[if_neg hw]at h;exact hk _ _ (bW.refl w) hI h
def anyI(P:Program)(ops:Array Oper)(Inv:Hp→Prop)(st:Nat→Bool)(K:Act→Hp→Prop):Nat→Array Bool→Act→Hp→Prop
 |0,listed,a,H=>Region.ready .any ops listed=[]∧K a H
 |cS+1,listed,a,H=>
  (Region.ready .any ops listed=[]→K a H)∧
  ∀i∈Region.ready .any ops listed,gZ P ops Inv st i (anyI P ops Inv st K cS (listed.setIfInBounds i true)) a H
theorem Ik{K:Act→Hp→Prop}{Q:Exit→Act→World→Prop}{w₀:World}
  (hQ:∀a w,bW w₀ w→K a w.heap→Q .normal a w):∀ (cS:Nat) (listed:Array Bool) (a:Act) (w:World),bW w₀ w→Inv w.heap→
   anyI P ops Inv st K cS listed a w.heap→wpAny P .any ops Q cS listed a w:=by
 intro cS
 induction cS with
 |zero=>intro listed a w hs _ h;exact⟨h.1,hQ _ _ hs h.2⟩
 |succ cS ih=>
  intro listed a w hs hI h
  exact⟨fun hr=>hQ _ _ hs (h.1 hr),fun i hi=>Ij hI (fun a' w' BO Uq hk=>ih _ _ _ (hs.trans BO) Uq hk) (h.2 i hi)⟩
theorem acH{i j:Nat}{oi oj:Oper}(hi:ops[i]? =some oi)(hj:ops[j]? =some oj)(Vm:oi.apart ops oj=true)(ma:st i=true)
  (hsi:∀cs b,oi.op≠ .select cs b)(hsj:∀cs b,oj.op≠ .select cs b){K:Act→Hp→Prop}{a:Act}{H:Hp}
  (h:gZ P ops Inv st i (fun a' H'=>gZ P ops Inv st j K a' H') a H):gZ P ops Inv st j (fun a' H'=>gZ P ops Inv st i K a' H') a H:=by
 obtain⟨h1,h2,h3⟩:=Oper.apart_spec Vm
 have wi:∀u,Region.wanted oi (yielded ops (a.put oj.dst u).tmps)=Region.wanted oi (yielded ops a.tmps):=fun u=>wanted_put oi a oj.dst u h3
 have wj:∀u,Region.wanted oj (yielded ops (a.put oi.dst u).tmps)=Region.wanted oj (yielded ops a.tmps):=fun u=>wanted_put oj a oi.dst u h1
 have cm:∀v u,(a.put oi.dst v).put oj.dst u=(a.put oj.dst u).put oi.dst v:=fun v u=>Act.put_comm a v u h2
 unfold gZ at*
 simp only[hi,hj,ma]at*
 simp only[wi,wj,cm,Bz (P:=P) hsi h3,Bz (P:=P) hsj h1]at*
 rcases iY (o:=oi) (y:=yielded ops a.tmps)with hwi|hwi<;>rcases iY (o:=oj) (y:=yielded ops a.tmps)with hwj|hwj<;>
  simp only[hwi,hwj,if_true,if_false,apJ]at*
 ·cases YD:st j<;>simp only[YD]at h ⊢
  ·obtain⟨v,e1,k⟩:=h;exact k.mono fun u H' ⟨k1,k2⟩=>⟨k1,v,e1,k2⟩
  ·obtain⟨v,e1,u,e2,k⟩:=h;exact⟨u,e2,v,e1,k⟩
 ·exact h
 ·cases YD:st j<;>simp only[YD]at h ⊢ <;>exact h
 ·exact h
def ir(ops:Array Oper)(my:Array Nat)(st:Nat→Bool)(listed:Array Bool)(i:Nat):Bool:=
 st i && match ops[i]? with
 |none=>false
 |some oi=>(List.range ops.size).all fun j=>j==i || listed.getD j false || (my.getD j 0).testBit i ||
   match ops[j]? with
   |none=>false
   |some oj=>oi.apart ops oj
def TS(ops:Array Oper)(my:Array Nat)(st:Nat→Bool):Ot→Array Bool→List Nat→Bool
 | .done,listed,_=>(Region.ready .any ops listed).isEmpty
 | .step i t,listed,_=>(Region.ready .any ops listed).contains i && ir ops my st listed i && TS ops my st t (listed.setIfInBounds i true) []
 | .bc i t r,listed,hd=>(Region.ready .any ops listed).contains i && TS ops my st t (listed.setIfInBounds i true) [] && TS ops my st r listed (i::hd)
 | .stop,listed,hd=> !(Region.ready .any ops listed).isEmpty && (Region.ready .any ops listed).all (hd.contains ·)
def PP(P:Program)(ops:Array Oper)(Inv:Hp→Prop)(st:Nat→Bool)(K:Act→Hp→Prop):Ot→Act→Hp→Prop
 | .done,a,H=>K a H
 | .step i t,a,H=>gZ P ops Inv st i (PP P ops Inv st K t) a H
 | .bc i t r,a,H=>gZ P ops Inv st i (PP P ops Inv st K t) a H∧PP P ops Inv st K r a H
 | .stop,_,_=>True
theorem QN{listed:Array Bool}{i j:Nat}(h:listed.getD j false=true):(listed.setIfInBounds i true).getD j false=true:=getD_set_true h
theorem GD{my:Array Nat}{listed:Array Bool}{i j:Nat}(h:ir ops my st listed i=true):ir ops my st (listed.setIfInBounds j true) i=true:=by
 unfold ir at*
 rw[apf]at*
 refine⟨h.1,?_⟩
 have h:=h.2
 split at h
 ·cases h
 ·rename_i oi ho
  rw[apF]at*
  intro k hk
  have:=h k hk
  simp only[Bool.or_eq_true]at this ⊢
  rcases this with ((h|h)|h)|h
  ·exact .inl (.inl (.inl h))
  ·exact .inl (.inl (.inr (QN h)))
  ·exact .inl (.inr h)
  ·exact .inr h
theorem iZ{listed:Array Bool}{i:Nat}(h:i∈Region.ready .any ops listed):listed.getD i false=false:=by
 obtain⟨hun,_⟩:=mem_ready.1 h
 rcases apK i listed.size with h'|h'
 ·simpa[h']using hun
 ·simp[apB h']
theorem QO{my:Array Nat}(Df:zU ops my=true){K:Act→Hp→Prop}{i:Nat}{oi:Oper}(hi:ops[i]? =some oi)
  (Dg:∀ (j:Nat) (o:Oper) cs b,ops[j]? =some o→o.op≠ .select cs b):
  ∀ (cS:Nat) (listed:Array Bool) (a:Act) (H:Hp),Inv H→uZ ops listed→ir ops my st listed i=true→
   i∈Region.ready .any ops listed→
   gZ P ops Inv st i (anyI P ops Inv st K cS (listed.setIfInBounds i true)) a H→anyI P ops Inv st K (cS+1) listed a H:=by
 intro cS
 induction cS with
 |zero=>
  intro listed a H hI _ lT hr h
  refine⟨fun h0=>(by rw[h0]at hr;cases hr),fun j hj=>?_⟩
  by_cases MM:j=i
  ·subst MM;exact h
  ·exfalso
   have ma:st i=true:=by unfold ir at lT;rw[apf]at lT;exact lT.1
   have GC:Region.ready .any ops (listed.setIfInBounds i true)=[]:=by
    unfold gZ at h
    simp only[hi,ma]at h
    split at h
    ·obtain⟨v,_,k⟩:=h;exact k.1
    ·exact h.1
   have:=ready_mono hj MM
   rw[GC]at this
   cases this
 |succ cS ih=>
  intro listed a H hI tD lT hr h
  refine⟨fun h0=>(by rw[h0]at hr;cases hr),fun j hj=>?_⟩
  by_cases MM:j=i
  ·subst MM;exact h
  ·obtain⟨acF,oj,T8,dJ⟩:=mem_ready.1 hj
   have hjs:=iZ hj
   have his:=iZ hr
   have ma:st i=true:=by have hf:=lT;unfold ir at hf;rw[apf]at hf;exact hf.1
   have YE:(my.getD j 0).testBit i=false:=by
    cases hb:(my.getD j 0).testBit i with
    |false=>rfl
    |true=>have:=GB Df tD j oj T8 dJ hb;rw[his]at this;cases this
   have Vm:oi.apart ops oj=true:=by
    have hf:=lT
    unfold ir at hf
    rw[apf]at hf
    have hf:=hf.2
    rw[hi]at hf
    simp only at hf
    have aK:j<ops.size:=(aps.1 T8).1
    have:=(apF.1 hf) j (apx.2 aK)
    have aQ:(j==i)=false:=by simpa using MM
    simp only[T8,YE,hjs,aQ,aqF]at this
    exact this
   have h2:gZ P ops Inv st i (fun a' H'=>gZ P ops Inv st j (anyI P ops Inv st K cS ((listed.setIfInBounds i true).setIfInBounds j true)) a' H') a H:=
    rJ hI (fun a' H' _ hk=>hk.2 j (ready_mono hj MM)) h
   have h3:=acH hi T8 Vm ma (fun cs b=>Dg i oi cs b hi) (fun cs b=>Dg j oj cs b T8) h2
   refine rJ hI (fun a' H' Uq hk=>?_) h3
   refine ih (listed.setIfInBounds j true) a' H' Uq (tD.set hj) (GD lT) (ready_mono hr (Ne.symm MM)) ?_
   rw[Array.setIfInBounds_comm _ _ MM];exact hk
theorem count_set:∀ (l:List Bool) (i:Nat),l[i]? =some false→(l.set i true).count false+1=l.count false:=by
 intro l
 induction l with
 |nil=>intro i h;simp at h
 |cons b l ih=>
  intro i h
  cases i with
  |zero=>
   simp only[ao2,aoz]at h
   subst h
   simp
  |succ i=>
   have:=ih i (by simpa using h)
   rw[apb,aqe,aqe]
   omega
theorem BA{listed:Array Bool}{i cS:Nat}(hs:listed.size=ops.size)(hc:listed.toList.count false=cS)(h:i∈Region.ready .any ops listed):
  ∃f,cS=f+1∧(listed.setIfInBounds i true).toList.count false=f∧(listed.setIfInBounds i true).size=ops.size:=by
 have h1:=iZ h
 obtain⟨_,o,ho,_⟩:=mem_ready.1 h
 have aK:i<listed.size:=by rw[hs];exact(aps.1 ho).1
 have h2:listed.toList[i]? =some false:=by
  simp only[aqt]
  simp[aK]at h1 ⊢
  exact h1
 have h3:=count_set _ i h2
 refine⟨(listed.setIfInBounds i true).toList.count false,?_,rfl,by simpa using hs⟩
 rw[Array.toList_setIfInBounds]
 omega
theorem Kc{my:Array Nat}(Df:zU ops my=true)(Dg:Region.noSelect ops=true){K:Act→Hp→Prop}:
  ∀ (t:Ot) (listed:Array Bool) (hd:List Nat) (cS:Nat) (a:Act) (H:Hp),TS ops my st t listed hd=true→Inv H→uZ ops listed→listed.size=ops.size→listed.toList.count false=cS→
   (∀i∈hd,i∈Region.ready .any ops listed→∃f,cS=f+1∧gZ P ops Inv st i (anyI P ops Inv st K f (listed.setIfInBounds i true)) a H)→PP P ops Inv st K t a H→anyI P ops Inv st K cS listed a H:=by
 intro t
 induction t with
 |done=>
  intro listed hd cS a H tR _ _ _ _ _ h
  simp only[TS,List.isEmpty_iff]at tR
  cases cS with
  |zero=>exact⟨tR,h⟩
  |succ cS=>exact⟨fun _=>h,fun i hi=>by rw[tR]at hi;cases hi⟩
 |step i t ih=>
  intro listed hd cS a H tR hI tD hs hc _ h
  simp only[TS,apf,List.contains_iff_mem]at tR
  obtain⟨⟨hr,lT⟩,tR⟩:=tR
  obtain⟨f,rfl,GW,BO⟩:=BA hs hc hr
  obtain⟨_,o,ho,_⟩:=mem_ready.1 hr
  refine QO Df ho (Region.noSelect_spec Dg) f listed a H hI tD lT hr ?_
  refine rJ hI (fun a' H' Uq hk=>?_) h
  exact ih _ [] f a' H' tR Uq (tD.set hr) BO GW (fun i hi=>by cases hi) hk
 |bc i t r iht ihr=>
  intro listed hd cS a H tR hI tD hs hc Vb h
  simp only[TS,apf,List.contains_iff_mem]at tR
  obtain⟨⟨hr,agY⟩,agZ⟩:=tR
  obtain⟨f,rfl,GW,BO⟩:=BA hs hc hr
  refine ihr listed (i::hd) (f+1) a H agZ hI tD hs hc ?_ h.2
  intro j hj hjr
  rcases apa.1 hj with rfl|hj
  ·refine⟨f,rfl,rJ hI (fun a' H' Uq hk=>?_) h.1⟩
   exact iht _ [] f a' H' agY Uq (tD.set hr) BO GW (fun i hi=>by cases hi) hk
  ·exact Vb j hj hjr
 |stop=>
  intro listed hd cS a H tR hI tD hs hc Vb _
  simp only[TS,apf,apF,List.contains_iff_mem]at tR
  obtain⟨aQ,dJ⟩:=tR
  by_cases hre:Region.ready .any ops listed=[]
  ·exact absurd (List.isEmpty_iff.2 hre) (by simpa using aQ)
  ·obtain⟨i,hi⟩:=List.exists_mem_of_ne_nil _ hre
   obtain⟨f,rfl,_⟩:=Vb i (dJ i hi) hi
   refine⟨fun h0=>absurd h0 hre,fun j hj=>?_⟩
   obtain⟨f',e,h⟩:=Vb j (dJ j hj) hj
   have:f'=f:=by omega
   subst this
   exact h
theorem Ft{id:Nat}{my:Array Nat}{t:Ot}(hm:P.follows .mixedOrders=true)(Df:zU ops my=true)(tR:TS ops my st t (Array.replicate ops.size false) []=true)
  (Dg:Region.noSelect ops=true){K:Act→Hp→Prop}{Q:Exit→Act→World→Prop}{a:Act}{w:World}(hI:Inv w.heap)
  (hQ:∀a' w',bW w w'→K a' w'.heap→Q .normal a' w')(h:PP P ops Inv st K t a w.heap):(Code.region id ops true).wp P Q a w:=by
 refine wp_region_any hm ?_
 refine Ik (Inv:=Inv) (st:=st) (K:=K) (w₀:=w) hQ _ _ _ _ ⟨rfl,rfl⟩ hI ?_
 refine Kc Df Dg t _ [] _ _ _ tR hI ?_ (by simp) (by simp) (fun i hi=>by cases hi) h
 intro k ok _ hl
 exfalso
 by_cases hk:k<ops.size<;>simp[hk]at hl
end
end Go.Vc
