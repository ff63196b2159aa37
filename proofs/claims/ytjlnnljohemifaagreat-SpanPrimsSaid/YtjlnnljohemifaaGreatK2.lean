/- Texts put behind each other. -/
import Derived.Test.YtjlnnljohemifaaGreatK98
import Derived.Orders
import Derived.Laws.Sem
import Derived.Laws.World
import Derived.KernelRfl
set_option maxRecDepth 100000
set_option maxHeartbeats 8000000
namespace Go.Vc
structure Tag{α:Sort _}(F:α):Type where
abbrev Hp:=Array Obj
structure cf(w w':World):Prop where
 os:w'.os=w.os
 output:w'.output=w.output
theorem cf.refl(w:World):cf w w:=⟨rfl,rfl⟩
theorem cf.trans{a b c:World}(h:cf a b)(k:cf b c):cf a c:=⟨k.os.trans h.os,k.output.trans h.output⟩
def af(P:Program)(f:FuncId)(args:List Value)(H:Hp)(K:Value→Hp→Prop)(_t:Tag K:=⟨⟩):Prop:=
 ∀w,w.heap=H→Calls P f args.toArray w fun e w'=>∃v,e= .returned v∧cf w w'∧K v w'.heap
theorem af.mono{P:Program}{f:FuncId}{args:List Value}{H:Hp}{K K':Value→Hp→Prop}(h:af P f args H K)(hk:∀v H',K v H'→K' v H'):
  af P f args H K':=
 fun w hw=>(h w hw).mono fun _ _ ⟨v,e,s,k⟩=>⟨v,e,s,hk _ _ k⟩
def dU(P:Program)(o:Oper)(a:Act)(H:Hp)(K:Value→Hp→Prop):Prop:=
 ∀w,w.heap=H→
  (∃v w',(execOp a.eval o).run P w= .ok (.value v) w'∧cf w w'∧K v w'.heap)∨
  (∃w',(execOp a.eval o).run P w= .ok .skip w'∧cf w w'∧K undef w'.heap)∨
  (∃f args w',(execOp a.eval o).run P w= .ok (.enter f args) w'∧cf w w'∧af P f args.toList w'.heap K)
theorem dU.mono{P:Program}{o:Oper}{a:Act}{H:Hp}{K K':Value→Hp→Prop}(h:dU P o a H K)(hk:∀v H',K v H'→K' v H'):dU P o a H K':=by
 intro w hw
 rcases h w hw with ⟨v,w',h1,h2,h3⟩| ⟨w',h1,h2,h3⟩| ⟨f,args,w',h1,h2,h3⟩
 ·exact .inl ⟨v,w',h1,h2,hk _ _ h3⟩
 ·exact .inr (.inl ⟨w',h1,h2,hk _ _ h3⟩)
 ·exact .inr (.inr ⟨f,args,w',h1,h2,h3.mono hk⟩)
theorem dU.wp{P:Program}{o:Oper}{a:Act}{H:Hp}{K:Value→Hp→Prop}{next:Act→World→Prop}{Q:Exit→Act→World→Prop}{w:World}
  (h:dU P o a H K)(hw:w.heap=H)(hn:∀v w',cf w w'→K v w'.heap→next (a.put o.dst v) w'):o.wp P a w next Q:=by
 unfold Oper.wp
 rcases h w hw with ⟨v,w',h1,h2,h3⟩| ⟨w',h1,h2,h3⟩| ⟨f,args,w',h1,h2,h3⟩
 ·rw[h1];exact hn _ _ h2 h3
 ·rw[h1];exact hn _ _ h2 h3
 ·rw[h1]
  have h4:=h3 w' rfl
  simp only[apT]at h4
  show Calls P f args w' _
  refine h4.mono fun e w'' he=>?_
  obtain⟨v,rfl,hs,hk⟩:=he
  exact hn _ _ (h2.trans hs) hk
def Lf(P:Program)(ops:Array Oper)(K:Act→Hp→Prop):List Nat→Act→Hp→Prop
 | [],a,H=>K a H
 |i::r,a,H=>
  match ops[i]? with
  |none=>Lf P ops K r a H
  |some o=>if Region.wanted o (yielded ops a.tmps)then dU P o a H (fun v H'=>Lf P ops K r (a.put o.dst v) H')else Lf P ops K r (a.put o.dst undef) H
theorem HH{P:Program}{ops:Array Oper}{K:Act→Hp→Prop}{Q:Exit→Act→World→Prop}{w₀:World}
  (hQ:∀a w,cf w₀ w→K a w.heap→Q .normal a w):∀ (l:List Nat) (a:Act) (w:World),cf w₀ w→Lf P ops K l a w.heap→wpOps P ops Q l a w:=by
 intro l
 induction l with
 |nil=>intro a w hs h;exact hQ a w hs h
 |cons i r ih=>
  intro a w hs h
  simp only[wpOps,Lf]at*
  cases ho:ops[i]? with
  |none=>rw[ho]at h;exact ih _ _ hs h
  |some o=>
   rw[ho]at h
   simp only at h ⊢
   split
   ·rename_i hw
    rw[if_pos hw]at h
    exact .inl (h.wp rfl fun v w' Ea hk=>ih _ _ (hs.trans Ea) hk)
   ·rename_i hw
    rw[if_neg hw]at h
    exact ih _ _ hs h
inductive Lg where
 |pure|quiet|HI
 deriving DecidableEq,Inhabited
def jR(P:Program)(ops:Array Oper)(cls:Nat→Lg)(i:Nat)(K:Act→Hp→Prop)(a:Act)(H:Hp):Prop:=
 match ops[i]? with
 |none=>K a H
 |some o=>
  if Region.wanted o (yielded ops a.tmps)then
   match cls i with
   | .pure=>∃v,(∀w,(execOp a.eval o).run P w= .ok (.value v) w)∧K (a.put o.dst v) H
   | .quiet=>∃v,dU P o a H (fun v' H'=>v'=v∧H'=H)∧K (a.put o.dst v) H
   | .HI=>dU P o a H fun v H'=>K (a.put o.dst v) H'
  else K (a.put o.dst undef) H
theorem zx{P:Program}{ops:Array Oper}{cls:Nat→Lg}{i:Nat}{K K':Act→Hp→Prop}{a:Act}{H:Hp}(hk:∀a H,K a H→K' a H)
  (h:jR P ops cls i K a H):jR P ops cls i K' a H:=by
 unfold jR at*
 split
 ·exact hk _ _ (by simpa[*]using h)
 ·rename_i o ho
  simp only[ho]at h
  split
  ·rename_i hw
   rw[if_pos hw]at h
   cases hc:cls i with
   |pure=>rw[hc]at h;obtain⟨v,h1,h2⟩:=h;exact⟨v,h1,hk _ _ h2⟩
   |quiet=>rw[hc]at h;obtain⟨v,h1,h2⟩:=h;exact⟨v,h1,hk _ _ h2⟩
   |HI=>rw[hc]at h;exact h.mono fun v H'=>hk _ _
  ·rename_i hw;rw[if_neg hw]at h;exact hk _ _ h
theorem AX{P:Program}{o:Oper}{a:Act}{v:Value}(h:∀w,(execOp a.eval o).run P w= .ok (.value v) w)(H:Hp):
  dU P o a H fun v' H'=>v'=v∧H'=H:=fun w hw=>.inl ⟨v,w,h w,cf.refl w,rfl,hw⟩
theorem HJ{P:Program}{ops:Array Oper}{cls:Nat→Lg}{i:Nat}{K:Act→Hp→Prop}{a:Act}{w:World}{K':Act→World→Prop}
  {Q:Exit→Act→World→Prop}(hk:∀a w',cf w w'→K a w'.heap→K' a w')(h:jR P ops cls i K a w.heap):wpOp P ops Q i K' a w:=by
 unfold jR at h
 unfold wpOp
 split
 ·rename_i ho;rw[ho]at h;exact hk _ _ (cf.refl w) h
 ·rename_i o ho
  simp only[ho]at h
  split
  ·rename_i hw
   rw[if_pos hw]at h
   refine .inl ?_
   cases hc:cls i with
   |pure=>
    rw[hc]at h
    obtain⟨v,h1,h2⟩:=h
    exact(AX h1 w.heap).wp rfl fun v' w' hs ⟨e1,e2⟩=>by subst e1;exact hk _ _ hs (e2▸h2)
   |quiet=>
    rw[hc]at h
    obtain⟨v,h1,h2⟩:=h
    exact h1.wp rfl fun v' w' hs ⟨e1,e2⟩=>by subst e1;exact hk _ _ hs (e2▸h2)
   |HI=>rw[hc]at h;exact h.wp rfl fun v' w' hs Lc=>hk _ _ hs Lc
  ·rename_i hw;rw[if_neg hw]at h;exact hk _ _ (cf.refl w) h
def PI(P:Program)(ops:Array Oper)(cls:Nat→Lg)(K:Act→Hp→Prop):Nat→Array Bool→Act→Hp→Prop
 |0,listed,a,H=>Region.ready .any ops listed=[]∧K a H
 |cW+1,listed,a,H=>
  (Region.ready .any ops listed=[]→K a H)∧
  ∀i∈Region.ready .any ops listed,jR P ops cls i (PI P ops cls K cW (listed.setIfInBounds i true)) a H
theorem HK{P:Program}{ops:Array Oper}{cls:Nat→Lg}{K:Act→Hp→Prop}{Q:Exit→Act→World→Prop}{w₀:World}
  (hQ:∀a w,cf w₀ w→K a w.heap→Q .normal a w):∀ (cW:Nat) (listed:Array Bool) (a:Act) (w:World),cf w₀ w→
   PI P ops cls K cW listed a w.heap→wpAny P .any ops Q cW listed a w:=by
 intro cW
 induction cW with
 |zero=>intro listed a w hs h;exact⟨h.1,hQ _ _ hs h.2⟩
 |succ cW ih=>
  intro listed a w hs h
  exact⟨fun hr=>hQ _ _ hs (h.1 hr),fun i hi=>HJ (fun a' w' Ea hk=>ih _ _ _ (hs.trans Ea) hk) (h.2 i hi)⟩
def Lg.OM:Lg→Lg→Bool
 | .pure,_=>true
 |_,.pure=>true
 | .quiet,.quiet=>true
 |_,_=>false
section
variable {P : Program} {ops : Array Oper} {cls : Nat → Lg}
theorem AY(H:Hp):∃w:World,w.heap=H:=⟨{ (default:World)with heap:=H},rfl⟩
theorem jg{o:Oper}{y:Nat→Option Bool}:Region.wanted o y=true∨Region.wanted o y=false:=by cases Region.wanted o y<;>simp
theorem AZ{o:Oper}{a:Act}{dst:Option Tmp}{u:Value}(hs:∀cs b,o.op≠ .select cs b)(h:∀d,dst=some d→d∉o.looksAt ops){H:Hp}{K:Value→Hp→Prop}:
  dU P o (a.put dst u) H K↔dU P o a H K:=by
 unfold dU
 rw[execOp_put (ops:=ops) o hs a dst u h]
theorem aaA{i j:Nat}{oi oj:Oper}(hi:ops[i]? =some oi)(hj:ops[j]? =some oj)(TT:oi.apart ops oj=true)(Wx:(cls i).OM (cls j)=true)
  (hsi:∀cs b,oi.op≠ .select cs b)(hsj:∀cs b,oj.op≠ .select cs b){K:Act→Hp→Prop}{a:Act}{H:Hp}
  (h:jR P ops cls i (fun a' H'=>jR P ops cls j K a' H') a H):jR P ops cls j (fun a' H'=>jR P ops cls i K a' H') a H:=by
 obtain⟨h1,h2,h3⟩:=Oper.apart_spec TT
 have wi:∀u,Region.wanted oi (yielded ops (a.put oj.dst u).tmps)=Region.wanted oi (yielded ops a.tmps):=fun u=>wanted_put oi a oj.dst u h3
 have wj:∀u,Region.wanted oj (yielded ops (a.put oi.dst u).tmps)=Region.wanted oj (yielded ops a.tmps):=fun u=>wanted_put oj a oi.dst u h1
 have ei:∀u,execOp (a.put oj.dst u).eval oi=execOp a.eval oi:=fun u=>execOp_put oi hsi a oj.dst u h3
 have ej:∀u,execOp (a.put oi.dst u).eval oj=execOp a.eval oj:=fun u=>execOp_put oj hsj a oi.dst u h1
 have cm:∀v u,(a.put oi.dst v).put oj.dst u=(a.put oj.dst u).put oi.dst v:=fun v u=>Act.put_comm a v u h2
 unfold jR at*
 simp only[hi,hj]at*
 simp only[wi,wj,ei,ej,cm,AZ (P:=P) hsi h3,AZ (P:=P) hsj h1]at*
 rcases jg (o:=oi) (y:=yielded ops a.tmps)with Ti|Ti<;>rcases jg (o:=oj) (y:=yielded ops a.tmps)with TU|TU<;>
  simp only[Ti,TU,if_true,if_false,api]at*
 ·cases Wy:cls i<;>cases Wz:cls j<;>simp only[Wy,Wz,Lg.OM,api]at h Wx ⊢
  ·obtain⟨v,e1,u,e2,k⟩:=h;exact⟨u,e2,v,e1,k⟩
  ·obtain⟨v,e1,u,e2,k⟩:=h;exact⟨u,e2,v,e1,k⟩
  ·obtain⟨v,e1,k⟩:=h;exact k.mono fun u H' k'=>⟨v,e1,k'⟩
  ·obtain⟨v,e1,u,e2,k⟩:=h;exact⟨u,e2,v,e1,k⟩
  ·obtain⟨v,e1,u,e2,k⟩:=h;exact⟨u,e2,v,e1,k⟩
  ·obtain⟨w,hw⟩:=AY H
   have pick:∃u,∀w,(execOp a.eval oj).run P w= .ok (.value u) w:=by
    rcases h w hw with ⟨v,w',_,_,u,e,_⟩| ⟨w',_,_,u,e,_⟩| ⟨f,args,w',_,_,hc⟩
    ·exact⟨u,e⟩
    ·exact⟨u,e⟩
    ·obtain⟨e,w'',fr,⟨v,_,_,u,eu,_⟩,_⟩:=hc w' rfl []
     exact⟨u,eu⟩
   obtain⟨u,eu⟩:=pick
   refine⟨u,eu,h.mono fun v H' ⟨u',eu',k⟩=>?_⟩
   have:=eu w
   rw[eu' w]at this
   injection this with h1 h2
   injection h1 with h1
   exact h1▸k
 ·cases Wy:cls i<;>simp only[Wy]at h ⊢ <;>exact h
 ·cases Wz:cls j<;>simp only[Wz]at h ⊢ <;>exact h
 ·exact h
def uD(ops:Array Oper)(listed:Array Bool):Prop:=
 ∀k ok,ops[k]? =some ok→listed.getD k false=true→∀e∈ok.after,Region.binds .any e=true→listed.getD e.on false=true
theorem uD.set{listed:Array Bool}(h:uD ops listed){i:Nat}(hi:i∈Region.ready .any ops listed):uD ops (listed.setIfInBounds i true):=by
 intro k ok hk hl e he hb
 by_cases hik:i=k
 ·subst hik
  obtain⟨_,o,ho,cX⟩:=mem_ready.1 hi
  rw[hk]at ho
  injection ho with ho
  subst ho
  exact getD_set_true (cX e he hb)
 ·rw[getD_set_ne false hik]at hl
  exact getD_set_true (h k ok hk hl e he hb)
def up(mE:Array Nat)(o:Oper):Nat:=o.after.toList.foldl (fun s e=>if Region.binds .any e then s ||| (2^e.on |||mE.getD e.on 0)else s) 0
theorem Na{mE:Array Nat}{i:Nat}:∀ (l:List Edge) (s:Nat),
  (l.foldl (fun s e=>if Region.binds .any e then s ||| (2^e.on |||mE.getD e.on 0)else s) s).testBit i=true→
   s.testBit i=true∨∃e∈l,Region.binds .any e=true∧(e.on=i∨(mE.getD e.on 0).testBit i=true):=by
 intro l
 induction l with
 |nil=>intro s h;exact .inl h
 |cons e l ih=>
  intro s h
  rw[List.foldl_cons]at h
  rcases ih _ h with h| ⟨x,hx,h⟩
  ·split at h
   ·rename_i hb
    rw[Nat.testBit_or,Nat.testBit_or,Nat.testBit_two_pow]at h
    simp only[ap6,aoL]at h
    rcases h with h|h|h
    ·exact .inl h
    ·exact .inr ⟨e,ao5,hb,.inl h⟩
    ·exact .inr ⟨e,ao5,hb,.inr h⟩
   ·exact .inl h
  ·exact .inr ⟨x,aoQ _ hx,h⟩
def A5(ops:Array Oper)(mE:Array Nat):Bool:=
 (List.range ops.size).all fun j=>
  match ops[j]? with
  |none=>false
  |some oj=>oj.after.all (fun e=> !Region.binds .any e || decide (e.on<j)) && (mE.getD j 0 |||up mE oj==up mE oj)
theorem Fw{mE:Array Nat}(h:A5 ops mE=true){listed:Array Bool}(hc:uD ops listed){i:Nat}:∀ (j:Nat) (oj:Oper),ops[j]? =some oj→
  (∀e∈oj.after,Region.binds .any e=true→listed.getD e.on false=true)→(mE.getD j 0).testBit i=true→listed.getD i false=true:=by
 intro j
 induction j using Nat.strongRecOn with
 |_ j ih=>
  intro oj hj cX hb
  have aO:j<ops.size:=(apd.1 hj).1
  have h1:=(apn.1 h) j (apj.2 aO)
  simp only[hj,ao7,beq_iff_eq]at h1
  obtain⟨Jx,Kl⟩:=h1
  have hu:(up mE oj).testBit i=true:=by rw[←Kl,Nat.testBit_or,hb,Bool.true_or]
  rcases Na _ _ hu with h0| ⟨e,he,TV,h2⟩
  ·simp at h0
  ·have hem:e∈oj.after:=by simpa using he
   have hl:=cX e hem TV
   rcases h2 with h2|h2
   ·exact h2▸hl
   ·have afg:e.on<j:=by
     have:=(apO.1 Jx) e hem
     simpa[TV]using this
    cases hoe:ops[e.on]? with
    |none=>
     have:ops.size≤e.on:=by simpa using hoe
     omega
    |some oe=>exact ih e.on afg oe hoe (hc e.on oe hoe hl) h2
def A6(ops:Array Oper)(mE:Array Nat)(cls:Nat→Lg):Bool:=
 (List.range ops.size).all fun j=>
  match ops[j]? with
  |none=>false
  |some oj=>(List.range j).all fun i=>(mE.getD j 0).testBit i ||
    match ops[i]? with
    |none=>false
    |some oi=>oi.apart ops oj && (cls i).OM (cls j)
theorem Jy{mE:Array Nat}(h:A6 ops mE cls=true){i j:Nat}{oi oj:Oper}(hi:ops[i]? =some oi)(hj:ops[j]? =some oj)(Km:i<j)
  (hn:(mE.getD j 0).testBit i=false):oi.apart ops oj=true∧(cls i).OM (cls j)=true:=by
 have aO:j<ops.size:=(apd.1 hj).1
 have h1:=(apn.1 h) j (apj.2 aO)
 simp only[hj,apn,apj]at h1
 have h2:=h1 i Km
 simp only[hi,hn,aqs,ao7]at h2
 exact h2
theorem Nb{mE:Array Nat}(CE:A5 ops mE=true)(Wx:A6 ops mE cls=true){K:Act→Hp→Prop}{i:Nat}{oi:Oper}(hi:ops[i]? =some oi)
  (CF:∀ (j:Nat) (o:Oper) cs b,ops[j]? =some o→o.op≠ .select cs b):
  ∀ (cW:Nat) (listed:Array Bool) (a:Act) (H:Hp),uD ops listed→(∀j,j<i→listed.getD j false=true)→
   i∈Region.ready .any ops listed→
   jR P ops cls i (PI P ops cls K cW (listed.setIfInBounds i true)) a H→PI P ops cls K (cW+1) listed a H:=by
 intro cW
 induction cW with
 |zero=>
  intro listed a H _ _ hr h
  refine⟨fun h0=>(by rw[h0]at hr;cases hr),fun j hj=>?_⟩
  by_cases ME:j=i
  ·subst ME;exact h
  ·exfalso
   have Fx:Region.ready .any ops (listed.setIfInBounds i true)=[]:=by
    unfold jR at h
    simp only[hi]at h
    split at h
    ·cases hc:cls i<;>simp only[hc]at h
     ·obtain⟨v,_,k⟩:=h;exact k.1
     ·obtain⟨v,_,k⟩:=h;exact k.1
     ·obtain⟨w,hw⟩:=AY H
      rcases h w hw with ⟨v,w',_,_,k⟩| ⟨w',_,_,k⟩| ⟨f,args,w',_,_,hc⟩
      ·exact k.1
      ·exact k.1
      ·obtain⟨e,w'',fr,⟨v,_,_,k⟩,_⟩:=hc w' rfl []
       exact k.1
    ·exact h.1
   have:=ready_mono hj ME
   rw[Fx]at this
   cases this
 |succ cW ih=>
  intro listed a H nU PJ hr h
  refine⟨fun h0=>(by rw[h0]at hr;cases hr),fun j hj=>?_⟩
  by_cases ME:j=i
  ·subst ME;exact h
  ·obtain⟨aaC,oj,Tj,cX⟩:=mem_ready.1 hj
   have afh:=(mem_ready.1 hr).1
   have hjs:listed.getD j false=false:=by
    rcases apA j listed.size with h'|h'
    ·simpa[h']using aaC
    ·simp[apy h']
   have his:listed.getD i false=false:=by
    rcases apA i listed.size with h'|h'
    ·simpa[h']using afh
    ·simp[apy h']
   have Km:i<j:=by
    rcases apA i j with h'|h'
    ·exact h'
    ·have h1:=PJ j (by omega)
     rw[hjs]at h1;cases h1
   have WA:(mE.getD j 0).testBit i=false:=by
    cases hb:(mE.getD j 0).testBit i with
    |false=>rfl
    |true=>have:=Fw CE nU j oj Tj cX hb;rw[his]at this;cases this
   obtain⟨TT,aaD⟩:=Jy Wx hi Tj Km WA
   have h2:jR P ops cls i (fun a' H'=>jR P ops cls j (PI P ops cls K cW ((listed.setIfInBounds i true).setIfInBounds j true)) a' H') a H:=
    zx (fun a' H' hk=>hk.2 j (ready_mono hj ME)) h
   have h3:=aaA hi Tj TT aaD (fun cs b=>CF i oi cs b hi) (fun cs b=>CF j oj cs b Tj) h2
   refine zx (fun a' H' hk=>?_) h3
   refine ih (listed.setIfInBounds j true) a' H' (nU.set hj) (fun k Lc=>getD_set_true (PJ k Lc)) (ready_mono hr (Ne.symm ME)) ?_
   rw[Array.setIfInBounds_comm _ _ ME];exact hk
def Rt(P:Program)(ops:Array Oper)(cls:Nat→Lg)(K:Act→Hp→Prop):List Nat→Act→Hp→Prop
 | [],a,H=>K a H
 |i::r,a,H=>jR P ops cls i (Rt P ops cls K r) a H
theorem Jz{mE:Array Nat}(CE:A5 ops mE=true)(Wx:A6 ops mE cls=true)(CF:Region.noSelect ops=true){K:Act→Hp→Prop}:
  ∀ (m k:Nat) (listed:Array Bool) (a:Act) (H:Hp),k+m=ops.size→listed.size=ops.size→(∀j,listed.getD j false=decide (j<k))→
   Rt P ops cls K (List.range' k m) a H→PI P ops cls K m listed a H:=by
 intro m
 induction m with
 |zero=>
  intro k listed a H hk hs hl h
  refine⟨?_,h⟩
  refine List.eq_nil_iff_forall_not_mem.2 fun j hj=>?_
  obtain⟨h0,o,ho,_⟩:=mem_ready.1 hj
  have aO:j<ops.size:=(apd.1 ho).1
  have h1:=hl j
  rw[aow (by omega)]at h1
  simp[show j<listed.size by omega]at h0 h1
  rw[h0]at h1;cases h1
 |succ m ih=>
  intro k listed a H hk hs hl h
  have aO:k<ops.size:=by omega
  obtain⟨o,ho⟩:∃o,ops[k]? =some o:=⟨ops[k],by simp[aO]⟩
  have TW:uD ops listed:=by
   intro x ox hx TD e he hb
   have jZ:x<ops.size:=(apd.1 hx).1
   have h1:=(apn.1 CE) x (apj.2 jZ)
   simp only[hx,ao7]at h1
   have h2:=(apO.1 h1.1) e he
   simp only[hb,aqa,aqs,aoL]at h2
   rw[hl x,aoL]at TD
   rw[hl e.on]
   exact aow (by omega)
  have Fx:k∈Region.ready .any ops listed:=by
   refine mem_ready.2 ⟨?_,o,ho,fun e he hb=>?_⟩
   ·have h1:=hl k
    rw[aoJ (by omega)]at h1
    simpa[show k<listed.size by omega]using h1
   ·have h1:=(apn.1 CE) k (apj.2 aO)
    simp only[ho,ao7]at h1
    have h2:=(apO.1 h1.1) e he
    simp only[hb,aqa,aqs,aoL]at h2
    rw[hl e.on];exact aow h2
  refine Nb CE Wx ho (Region.noSelect_spec CF) m listed a H TW (fun j hj=>by rw[hl j];exact aow hj) Fx ?_
  rw[List.range'_succ]at h
  simp only[Rt]at h
  refine zx (fun a' H' Lc=>ih (k+1) _ a' H' (by omega) (by simpa using hs) (fun j=>?_) Lc) h
  by_cases Y3:k=j
  ·subst Y3
   simp[show k<listed.size by omega]
  ·rw[getD_set_ne false Y3,hl j]
   by_cases hjk:j<k
   ·rw[aow hjk,aow (by omega)]
   ·rw[aoJ hjk,aoJ (by omega)]
theorem Fy{id:Nat}{mE:Array Nat}(hm:P.follows .mixedOrders=true)(CE:A5 ops mE=true)(Wx:A6 ops mE cls=true)
  (CF:Region.noSelect ops=true){K:Act→Hp→Prop}{Q:Exit→Act→World→Prop}{a:Act}{w:World}
  (hQ:∀a' w',cf w w'→K a' w'.heap→Q .normal a' w')(h:Rt P ops cls K (List.range ops.size) a w.heap):(Code.region id ops true).wp P Q a w:=by
 refine wp_region_any hm ?_
 refine HK (cls:=cls) (K:=K) (w₀:=w) hQ _ _ _ _ ⟨rfl,rfl⟩ ?_
 refine Jz CE Wx CF ops.size 0 _ _ _ (by omega) (by simp) (fun j=>?_) (by rw[List.range_eq_range']at h;exact h)
 simp only[Nat.not_lt_zero,decide_false]
 by_cases hj:j<ops.size<;>simp[hj]
theorem Fz{id:Nat}{K:Act→Hp→Prop}{Q:Exit→Act→World→Prop}{a:Act}{w:World}
  (hQ:∀a' w',cf w w'→K a' w'.heap→Q .normal a' w')(h:Lf P ops K (List.range ops.size) a w.heap):(Code.region id ops false).wp P Q a w:=
 wp_region (HH hQ _ _ _ (cf.refl w) h)
inductive Ot where
 |done
 |step(i:Nat)(t:Ot)
 |aE(i:Nat)(t r:Ot)
 |stop
 deriving Inhabited
def iE(P:Program)(ops:Array Oper)(Inv:Hp→Prop)(st:Nat→Bool)(i:Nat)(K:Act→Hp→Prop)(a:Act)(H:Hp):Prop:=
 match ops[i]? with
 |none=>K a H
 |some o=>
  if Region.wanted o (yielded ops a.tmps)then
   match st i with
   |true=>∃v,(∀H',Inv H'→dU P o a H' fun v' GQ=>v'=v∧GQ=H')∧K (a.put o.dst v) H
   |false=>dU P o a H fun v H'=>Inv H'∧K (a.put o.dst v) H'
  else K (a.put o.dst undef) H
variable {Inv : Hp → Prop} {st : Nat → Bool}
theorem rQ{i:Nat}{K K':Act→Hp→Prop}{a:Act}{H:Hp}(hI:Inv H)(hk:∀a H,Inv H→K a H→K' a H)
  (h:iE P ops Inv st i K a H):iE P ops Inv st i K' a H:=by
 unfold iE at*
 split
 ·exact hk _ _ hI (by simpa[*]using h)
 ·rename_i o ho
  simp only[ho]at h
  split
  ·rename_i hw
   rw[if_pos hw]at h
   cases hc:st i with
   |true=>rw[hc]at h;obtain⟨v,h1,h2⟩:=h;exact⟨v,h1,hk _ _ hI h2⟩
   |false=>rw[hc]at h;exact h.mono fun v H' ⟨k1,k2⟩=>⟨k1,hk _ _ k1 k2⟩
  ·rename_i hw;rw[if_neg hw]at h;exact hk _ _ hI h
theorem HL{i:Nat}{K:Act→Hp→Prop}{a:Act}{w:World}{K':Act→World→Prop}
  {Q:Exit→Act→World→Prop}(hI:Inv w.heap)(hk:∀a w',cf w w'→Inv w'.heap→K a w'.heap→K' a w')(h:iE P ops Inv st i K a w.heap):wpOp P ops Q i K' a w:=by
 unfold iE at h
 unfold wpOp
 split
 ·rename_i ho;rw[ho]at h;exact hk _ _ (cf.refl w) hI h
 ·rename_i o ho
  simp only[ho]at h
  split
  ·rename_i hw
   rw[if_pos hw]at h
   refine .inl ?_
   cases hc:st i with
   |true=>
    rw[hc]at h
    obtain⟨v,h1,h2⟩:=h
    exact(h1 w.heap hI).wp rfl fun v' w' hs ⟨e1,e2⟩=>by subst e1;exact hk _ _ hs (e2▸hI) (e2▸h2)
   |false=>rw[hc]at h;exact h.wp rfl fun v' w' hs ⟨k1,k2⟩=>hk _ _ hs k1 k2
  ·rename_i hw;rw[if_neg hw]at h;exact hk _ _ (cf.refl w) hI h
def anyI(P:Program)(ops:Array Oper)(Inv:Hp→Prop)(st:Nat→Bool)(K:Act→Hp→Prop):Nat→Array Bool→Act→Hp→Prop
 |0,listed,a,H=>Region.ready .any ops listed=[]∧K a H
 |cW+1,listed,a,H=>
  (Region.ready .any ops listed=[]→K a H)∧
  ∀i∈Region.ready .any ops listed,iE P ops Inv st i (anyI P ops Inv st K cW (listed.setIfInBounds i true)) a H
theorem HM{K:Act→Hp→Prop}{Q:Exit→Act→World→Prop}{w₀:World}
  (hQ:∀a w,cf w₀ w→K a w.heap→Q .normal a w):∀ (cW:Nat) (listed:Array Bool) (a:Act) (w:World),cf w₀ w→Inv w.heap→
   anyI P ops Inv st K cW listed a w.heap→wpAny P .any ops Q cW listed a w:=by
 intro cW
 induction cW with
 |zero=>intro listed a w hs _ h;exact⟨h.1,hQ _ _ hs h.2⟩
 |succ cW ih=>
  intro listed a w hs hI h
  exact⟨fun hr=>hQ _ _ hs (h.1 hr),fun i hi=>HL hI (fun a' w' Ea TX hk=>ih _ _ _ (hs.trans Ea) TX hk) (h.2 i hi)⟩
theorem aaE{i j:Nat}{oi oj:Oper}(hi:ops[i]? =some oi)(hj:ops[j]? =some oj)(TT:oi.apart ops oj=true)(uE:st i=true)
  (hsi:∀cs b,oi.op≠ .select cs b)(hsj:∀cs b,oj.op≠ .select cs b){K:Act→Hp→Prop}{a:Act}{H:Hp}
  (h:iE P ops Inv st i (fun a' H'=>iE P ops Inv st j K a' H') a H):iE P ops Inv st j (fun a' H'=>iE P ops Inv st i K a' H') a H:=by
 obtain⟨h1,h2,h3⟩:=Oper.apart_spec TT
 have wi:∀u,Region.wanted oi (yielded ops (a.put oj.dst u).tmps)=Region.wanted oi (yielded ops a.tmps):=fun u=>wanted_put oi a oj.dst u h3
 have wj:∀u,Region.wanted oj (yielded ops (a.put oi.dst u).tmps)=Region.wanted oj (yielded ops a.tmps):=fun u=>wanted_put oj a oi.dst u h1
 have cm:∀v u,(a.put oi.dst v).put oj.dst u=(a.put oj.dst u).put oi.dst v:=fun v u=>Act.put_comm a v u h2
 unfold iE at*
 simp only[hi,hj,uE]at*
 simp only[wi,wj,cm,AZ (P:=P) hsi h3,AZ (P:=P) hsj h1]at*
 rcases jg (o:=oi) (y:=yielded ops a.tmps)with Ti|Ti<;>rcases jg (o:=oj) (y:=yielded ops a.tmps)with TU|TU<;>
  simp only[Ti,TU,if_true,if_false,api]at*
 ·cases Wz:st j<;>simp only[Wz]at h ⊢
  ·obtain⟨v,e1,k⟩:=h;exact k.mono fun u H' ⟨k1,k2⟩=>⟨k1,v,e1,k2⟩
  ·obtain⟨v,e1,u,e2,k⟩:=h;exact⟨u,e2,v,e1,k⟩
 ·exact h
 ·cases Wz:st j<;>simp only[Wz]at h ⊢ <;>exact h
 ·exact h
def iF(ops:Array Oper)(mE:Array Nat)(st:Nat→Bool)(listed:Array Bool)(i:Nat):Bool:=
 st i && match ops[i]? with
 |none=>false
 |some oi=>(List.range ops.size).all fun j=>j==i || listed.getD j false || (mE.getD j 0).testBit i ||
   match ops[j]? with
   |none=>false
   |some oj=>oi.apart ops oj
def Tk(ops:Array Oper)(mE:Array Nat)(st:Nat→Bool):Ot→Array Bool→List Nat→Bool
 | .done,listed,_=>(Region.ready .any ops listed).isEmpty
 | .step i t,listed,_=>(Region.ready .any ops listed).contains i && iF ops mE st listed i && Tk ops mE st t (listed.setIfInBounds i true) []
 | .aE i t r,listed,hd=>(Region.ready .any ops listed).contains i && Tk ops mE st t (listed.setIfInBounds i true) [] && Tk ops mE st r listed (i::hd)
 | .stop,listed,hd=> !(Region.ready .any ops listed).isEmpty && (Region.ready .any ops listed).all (hd.contains ·)
def PK(P:Program)(ops:Array Oper)(Inv:Hp→Prop)(st:Nat→Bool)(K:Act→Hp→Prop):Ot→Act→Hp→Prop
 | .done,a,H=>K a H
 | .step i t,a,H=>iE P ops Inv st i (PK P ops Inv st K t) a H
 | .aE i t r,a,H=>iE P ops Inv st i (PK P ops Inv st K t) a H∧PK P ops Inv st K r a H
 | .stop,_,_=>True
theorem PL{listed:Array Bool}{i j:Nat}(h:listed.getD j false=true):(listed.setIfInBounds i true).getD j false=true:=getD_set_true h
theorem FA{mE:Array Nat}{listed:Array Bool}{i j:Nat}(h:iF ops mE st listed i=true):iF ops mE st (listed.setIfInBounds j true) i=true:=by
 unfold iF at*
 rw[ao7]at*
 refine⟨h.1,?_⟩
 have h:=h.2
 split at h
 ·cases h
 ·rename_i oi ho
  rw[apn]at*
  intro k hk
  have:=h k hk
  simp only[ap6]at this ⊢
  rcases this with ((h|h)|h)|h
  ·exact .inl (.inl (.inl h))
  ·exact .inl (.inl (.inr (PL h)))
  ·exact .inl (.inr h)
  ·exact .inr h
theorem jh{listed:Array Bool}{i:Nat}(h:i∈Region.ready .any ops listed):listed.getD i false=false:=by
 obtain⟨hun,_⟩:=mem_ready.1 h
 rcases apA i listed.size with h'|h'
 ·simpa[h']using hun
 ·simp[apy h']
theorem PM{mE:Array Nat}(CE:A5 ops mE=true){K:Act→Hp→Prop}{i:Nat}{oi:Oper}(hi:ops[i]? =some oi)
  (CF:∀ (j:Nat) (o:Oper) cs b,ops[j]? =some o→o.op≠ .select cs b):
  ∀ (cW:Nat) (listed:Array Bool) (a:Act) (H:Hp),Inv H→uD ops listed→iF ops mE st listed i=true→
   i∈Region.ready .any ops listed→
   iE P ops Inv st i (anyI P ops Inv st K cW (listed.setIfInBounds i true)) a H→anyI P ops Inv st K (cW+1) listed a H:=by
 intro cW
 induction cW with
 |zero=>
  intro listed a H hI _ Ba hr h
  refine⟨fun h0=>(by rw[h0]at hr;cases hr),fun j hj=>?_⟩
  by_cases ME:j=i
  ·subst ME;exact h
  ·exfalso
   have uE:st i=true:=by unfold iF at Ba;rw[ao7]at Ba;exact Ba.1
   have Fx:Region.ready .any ops (listed.setIfInBounds i true)=[]:=by
    unfold iE at h
    simp only[hi,uE]at h
    split at h
    ·obtain⟨v,_,k⟩:=h;exact k.1
    ·exact h.1
   have:=ready_mono hj ME
   rw[Fx]at this
   cases this
 |succ cW ih=>
  intro listed a H hI nU Ba hr h
  refine⟨fun h0=>(by rw[h0]at hr;cases hr),fun j hj=>?_⟩
  by_cases ME:j=i
  ·subst ME;exact h
  ·obtain⟨aaC,oj,Tj,cX⟩:=mem_ready.1 hj
   have hjs:=jh hj
   have his:=jh hr
   have uE:st i=true:=by have hf:=Ba;unfold iF at hf;rw[ao7]at hf;exact hf.1
   have WA:(mE.getD j 0).testBit i=false:=by
    cases hb:(mE.getD j 0).testBit i with
    |false=>rfl
    |true=>have:=Fw CE nU j oj Tj cX hb;rw[his]at this;cases this
   have TT:oi.apart ops oj=true:=by
    have hf:=Ba
    unfold iF at hf
    rw[ao7]at hf
    have hf:=hf.2
    rw[hi]at hf
    simp only at hf
    have aO:j<ops.size:=(apd.1 Tj).1
    have:=(apn.1 hf) j (apj.2 aO)
    have aP:(j==i)=false:=by simpa using ME
    simp only[Tj,WA,hjs,aP,aqs]at this
    exact this
   have h2:iE P ops Inv st i (fun a' H'=>iE P ops Inv st j (anyI P ops Inv st K cW ((listed.setIfInBounds i true).setIfInBounds j true)) a' H') a H:=
    rQ hI (fun a' H' _ hk=>hk.2 j (ready_mono hj ME)) h
   have h3:=aaE hi Tj TT uE (fun cs b=>CF i oi cs b hi) (fun cs b=>CF j oj cs b Tj) h2
   refine rQ hI (fun a' H' TX hk=>?_) h3
   refine ih (listed.setIfInBounds j true) a' H' TX (nU.set hj) (FA Ba) (ready_mono hr (Ne.symm ME)) ?_
   rw[Array.setIfInBounds_comm _ _ ME];exact hk
theorem count_set:∀ (l:List Bool) (i:Nat),l[i]? =some false→(l.set i true).count false+1=l.count false:=by
 intro l
 induction l with
 |nil=>intro i h;simp at h
 |cons b l ih=>
  intro i h
  cases i with
  |zero=>
   simp only[aoM,aos]at h
   subst h
   simp
  |succ i=>
   have:=ih i (by simpa using h)
   rw[ao1,ap8,ap8]
   omega
theorem Bb{listed:Array Bool}{i cW:Nat}(hs:listed.size=ops.size)(hc:listed.toList.count false=cW)(h:i∈Region.ready .any ops listed):
  ∃f,cW=f+1∧(listed.setIfInBounds i true).toList.count false=f∧(listed.setIfInBounds i true).size=ops.size:=by
 have h1:=jh h
 obtain⟨_,o,ho,_⟩:=mem_ready.1 h
 have aO:i<listed.size:=by rw[hs];exact(apd.1 ho).1
 have h2:listed.toList[i]? =some false:=by
  simp only[Array.getElem?_toList]
  simp[aO]at h1 ⊢
  exact h1
 have h3:=count_set _ i h2
 refine⟨(listed.setIfInBounds i true).toList.count false,?_,rfl,by simpa using hs⟩
 rw[Array.toList_setIfInBounds]
 omega
theorem JA{mE:Array Nat}(CE:A5 ops mE=true)(CF:Region.noSelect ops=true){K:Act→Hp→Prop}:
  ∀ (t:Ot) (listed:Array Bool) (hd:List Nat) (cW:Nat) (a:Act) (H:Hp),Tk ops mE st t listed hd=true→Inv H→uD ops listed→listed.size=ops.size→listed.toList.count false=cW→
   (∀i∈hd,i∈Region.ready .any ops listed→∃f,cW=f+1∧iE P ops Inv st i (anyI P ops Inv st K f (listed.setIfInBounds i true)) a H)→PK P ops Inv st K t a H→anyI P ops Inv st K cW listed a H:=by
 intro t
 induction t with
 |done=>
  intro listed hd cW a H tW _ _ _ _ _ h
  simp only[Tk,List.isEmpty_iff]at tW
  cases cW with
  |zero=>exact⟨tW,h⟩
  |succ cW=>exact⟨fun _=>h,fun i hi=>by rw[tW]at hi;cases hi⟩
 |step i t ih=>
  intro listed hd cW a H tW hI nU hs hc _ h
  simp only[Tk,ao7,List.contains_iff_mem]at tW
  obtain⟨⟨hr,Ba⟩,tW⟩:=tW
  obtain⟨f,rfl,Jc,Ea⟩:=Bb hs hc hr
  obtain⟨_,o,ho,_⟩:=mem_ready.1 hr
  refine PM CE ho (Region.noSelect_spec CF) f listed a H hI nU Ba hr ?_
  refine rQ hI (fun a' H' TX hk=>?_) h
  exact ih _ [] f a' H' tW TX (nU.set hr) Ea Jc (fun i hi=>by cases hi) hk
 |aE i t r iht ihr=>
  intro listed hd cW a H tW hI nU hs hc TY h
  simp only[Tk,ao7,List.contains_iff_mem]at tW
  obtain⟨⟨hr,afk⟩,afl⟩:=tW
  obtain⟨f,rfl,Jc,Ea⟩:=Bb hs hc hr
  refine ihr listed (i::hd) (f+1) a H afl hI nU hs hc ?_ h.2
  intro j hj hjr
  rcases aot.1 hj with rfl|hj
  ·refine⟨f,rfl,rQ hI (fun a' H' TX hk=>?_) h.1⟩
   exact iht _ [] f a' H' afk TX (nU.set hr) Ea Jc (fun i hi=>by cases hi) hk
  ·exact TY j hj hjr
 |stop=>
  intro listed hd cW a H tW hI nU hs hc TY _
  simp only[Tk,ao7,apn,List.contains_iff_mem]at tW
  obtain⟨aP,cX⟩:=tW
  by_cases hre:Region.ready .any ops listed=[]
  ·exact absurd (List.isEmpty_iff.2 hre) (by simpa using aP)
  ·obtain⟨i,hi⟩:=List.exists_mem_of_ne_nil _ hre
   obtain⟨f,rfl,_⟩:=TY i (cX i hi) hi
   refine⟨fun h0=>absurd h0 hre,fun j hj=>?_⟩
   obtain⟨f',e,h⟩:=TY j (cX j hj) hj
   have:f'=f:=by omega
   subst this
   exact h
theorem FC{id:Nat}{mE:Array Nat}{t:Ot}(hm:P.follows .mixedOrders=true)(CE:A5 ops mE=true)(tW:Tk ops mE st t (Array.replicate ops.size false) []=true)
  (CF:Region.noSelect ops=true){K:Act→Hp→Prop}{Q:Exit→Act→World→Prop}{a:Act}{w:World}(hI:Inv w.heap)
  (hQ:∀a' w',cf w w'→K a' w'.heap→Q .normal a' w')(h:PK P ops Inv st K t a w.heap):(Code.region id ops true).wp P Q a w:=by
 refine wp_region_any hm ?_
 refine HM (Inv:=Inv) (st:=st) (K:=K) (w₀:=w) hQ _ _ _ _ ⟨rfl,rfl⟩ hI ?_
 refine JA CE CF t _ [] _ _ _ tW hI ?_ (by simp) (by simp) (fun i hi=>by cases hi) h
 intro k ok _ hl
 exfalso
 by_cases hk:k<ops.size<;>simp[hk]at hl
end
end Go.Vc
