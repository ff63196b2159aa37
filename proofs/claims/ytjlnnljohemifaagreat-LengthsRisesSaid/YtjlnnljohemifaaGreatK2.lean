/-
  Texts put behind each other by a program: Vc.
-/
import Derived.Orders
import Derived.Laws.Sem
import Derived.Laws.World
import Derived.KernelRfl
namespace Go.Vc
structure Tag{α:Sort _}(F:α):Type where
abbrev Hp:=Array Obj
structure bZ(w w':World):Prop where
 os:w'.os=w.os
 output:w'.output=w.output
theorem bZ.refl(w:World):bZ w w:=⟨rfl,rfl⟩
theorem bZ.trans{a b c:World}(h:bZ a b)(k:bZ b c):bZ a c:=⟨k.os.trans h.os,k.output.trans h.output⟩
def ah(P:Program)(f:FuncId)(args:List Value)(H:Hp)(K:Value→Hp→Prop)(_t:Tag K:=⟨⟩):Prop:=
 ∀w,w.heap=H→Calls P f args.toArray w fun e w'=>∃v,e= .returned v∧bZ w w'∧K v w'.heap
theorem ah.mono{P:Program}{f:FuncId}{args:List Value}{H:Hp}{K K':Value→Hp→Prop}(h:ah P f args H K)(hk:∀v H',K v H'→K' v H'):
  ah P f args H K':=
 fun w hw=>(h w hw).mono fun _ _ ⟨v,e,s,k⟩=>⟨v,e,s,hk _ _ k⟩
def dV(P:Program)(o:Oper)(a:Act)(H:Hp)(K:Value→Hp→Prop):Prop:=
 ∀w,w.heap=H→
  (∃v w',(execOp a.eval o).run P w= .ok (.value v) w'∧bZ w w'∧K v w'.heap)∨
  (∃w',(execOp a.eval o).run P w= .ok .skip w'∧bZ w w'∧K undef w'.heap)∨
  (∃f args w',(execOp a.eval o).run P w= .ok (.enter f args) w'∧bZ w w'∧ah P f args.toList w'.heap K)
theorem dV.mono{P:Program}{o:Oper}{a:Act}{H:Hp}{K K':Value→Hp→Prop}(h:dV P o a H K)(hk:∀v H',K v H'→K' v H'):dV P o a H K':=by
 intro w hw
 rcases h w hw with ⟨v,w',h1,h2,h3⟩| ⟨w',h1,h2,h3⟩| ⟨f,args,w',h1,h2,h3⟩
 ·exact .inl ⟨v,w',h1,h2,hk _ _ h3⟩
 ·exact .inr (.inl ⟨w',h1,h2,hk _ _ h3⟩)
 ·exact .inr (.inr ⟨f,args,w',h1,h2,h3.mono hk⟩)
theorem dV.wp{P:Program}{o:Oper}{a:Act}{H:Hp}{K:Value→Hp→Prop}{next:Act→World→Prop}{Q:Exit→Act→World→Prop}{w:World}
  (h:dV P o a H K)(hw:w.heap=H)(hn:∀v w',bZ w w'→K v w'.heap→next (a.put o.dst v) w'):o.wp P a w next Q:=by
 unfold Oper.wp
 rcases h w hw with ⟨v,w',h1,h2,h3⟩| ⟨w',h1,h2,h3⟩| ⟨f,args,w',h1,h2,h3⟩
 ·rw[h1];exact hn _ _ h2 h3
 ·rw[h1];exact hn _ _ h2 h3
 ·rw[h1]
  have h4:=h3 w' rfl
  simp only[Array.toArray_toList]at h4
  show Calls P f args w' _
  refine h4.mono fun e w'' he=>?_
  obtain⟨v,rfl,hs,hk⟩:=he
  exact hn _ _ (h2.trans hs) hk
def Ln(P:Program)(ops:Array Oper)(K:Act→Hp→Prop):List Nat→Act→Hp→Prop
 | [],a,H=>K a H
 |i::r,a,H=>
  match ops[i]? with
  |none=>Ln P ops K r a H
  |some o=>if Region.wanted o (yielded ops a.tmps)then dV P o a H (fun v H'=>Ln P ops K r (a.put o.dst v) H')else Ln P ops K r (a.put o.dst undef) H
theorem Ih{P:Program}{ops:Array Oper}{K:Act→Hp→Prop}{Q:Exit→Act→World→Prop}{w₀:World}
  (hQ:∀a w,bZ w₀ w→K a w.heap→Q .normal a w):∀ (l:List Nat) (a:Act) (w:World),bZ w₀ w→Ln P ops K l a w.heap→wpOps P ops Q l a w:=by
 intro l
 induction l with
 |nil=>intro a w hs h;exact hQ a w hs h
 |cons i r ih=>
  intro a w hs h
  simp only[wpOps,Ln]at*
  cases ho:ops[i]? with
  |none=>rw[ho]at h;exact ih _ _ hs h
  |some o=>
   rw[ho]at h
   simp only at h ⊢
   split
   ·rename_i hw
    rw[if_pos hw]at h
    exact .inl (h.wp rfl fun v w' E8 hk=>ih _ _ (hs.trans E8) hk)
   ·rename_i hw
    rw[if_neg hw]at h
    exact ih _ _ hs h
inductive Lo where
 |pure|quiet|Ii
 deriving DecidableEq,Inhabited
def my(P:Program)(ops:Array Oper)(cls:Nat→Lo)(i:Nat)(K:Act→Hp→Prop)(a:Act)(H:Hp):Prop:=
 match ops[i]? with
 |none=>K a H
 |some o=>
  if Region.wanted o (yielded ops a.tmps)then
   match cls i with
   | .pure=>∃v,(∀w,(execOp a.eval o).run P w= .ok (.value v) w)∧K (a.put o.dst v) H
   | .quiet=>∃v,dV P o a H (fun v' H'=>v'=v∧H'=H)∧K (a.put o.dst v) H
   | .Ii=>dV P o a H fun v H'=>K (a.put o.dst v) H'
  else K (a.put o.dst undef) H
theorem AR{P:Program}{ops:Array Oper}{cls:Nat→Lo}{i:Nat}{K K':Act→Hp→Prop}{a:Act}{H:Hp}(hk:∀a H,K a H→K' a H)
  (h:my P ops cls i K a H):my P ops cls i K' a H:=by
 unfold my at*
 split
 ·exact hk _ _ (by simpa[*]using h)
 ·rename_i o ho
  simp only[ho]at h
  split
  ·rename_i hw
   rw[if_pos hw]at h
   cases hc:cls i with
   |pure=>rw[hc]at h;obtain⟨v,h1,h2⟩:=h;exact⟨v,h1,hk _ _ h2⟩
   |quiet=>rw[hc]at h;obtain⟨v,h1,h2⟩:=h;exact⟨v,h1,hk _ _ h2⟩
   |Ii=>rw[hc]at h;exact h.mono fun v H'=>hk _ _
  ·rename_i hw;rw[if_neg hw]at h;exact hk _ _ h
theorem Cg{P:Program}{o:Oper}{a:Act}{v:Value}(h:∀w,(execOp a.eval o).run P w= .ok (.value v) w)(H:Hp):
  dV P o a H fun v' H'=>v'=v∧H'=H:=fun w hw=>.inl ⟨v,w,h w,bZ.refl w,rfl,hw⟩
theorem Ij{P:Program}{ops:Array Oper}{cls:Nat→Lo}{i:Nat}{K:Act→Hp→Prop}{a:Act}{w:World}{K':Act→World→Prop}
  {Q:Exit→Act→World→Prop}(hk:∀a w',bZ w w'→K a w'.heap→K' a w')(h:my P ops cls i K a w.heap):wpOp P ops Q i K' a w:=by
 unfold my at h
 unfold wpOp
 split
 ·rename_i ho;rw[ho]at h;exact hk _ _ (bZ.refl w) h
 ·rename_i o ho
  simp only[ho]at h
  split
  ·rename_i hw
   rw[if_pos hw]at h
   refine .inl ?_
   cases hc:cls i with
   |pure=>
    rw[hc]at h
    obtain⟨v,h1,h2⟩:=h
    exact(Cg h1 w.heap).wp rfl fun v' w' hs ⟨e1,e2⟩=>by subst e1;exact hk _ _ hs (e2▸h2)
   |quiet=>
    rw[hc]at h
    obtain⟨v,h1,h2⟩:=h
    exact h1.wp rfl fun v' w' hs ⟨e1,e2⟩=>by subst e1;exact hk _ _ hs (e2▸h2)
   |Ii=>rw[hc]at h;exact h.wp rfl fun v' w' hs Pq=>hk _ _ hs Pq
  ·rename_i hw;rw[if_neg hw]at h;exact hk _ _ (bZ.refl w) h
def Pu(P:Program)(ops:Array Oper)(cls:Nat→Lo)(K:Act→Hp→Prop):Nat→Array Bool→Act→Hp→Prop
 |0,listed,a,H=>Region.ready .any ops listed=[]∧K a H
 |cW+1,listed,a,H=>
  (Region.ready .any ops listed=[]→K a H)∧
  ∀i∈Region.ready .any ops listed,my P ops cls i (Pu P ops cls K cW (listed.setIfInBounds i true)) a H
theorem Ik{P:Program}{ops:Array Oper}{cls:Nat→Lo}{K:Act→Hp→Prop}{Q:Exit→Act→World→Prop}{w₀:World}
  (hQ:∀a w,bZ w₀ w→K a w.heap→Q .normal a w):∀ (cW:Nat) (listed:Array Bool) (a:Act) (w:World),bZ w₀ w→
   Pu P ops cls K cW listed a w.heap→wpAny P .any ops Q cW listed a w:=by
 intro cW
 induction cW with
 |zero=>intro listed a w hs h;exact⟨h.1,hQ _ _ hs h.2⟩
 |succ cW ih=>
  intro listed a w hs h
  exact⟨fun hr=>hQ _ _ hs (h.1 hr),fun i hi=>Ij (fun a' w' E8 hk=>ih _ _ _ (hs.trans E8) hk) (h.2 i hi)⟩
def Lo.OB:Lo→Lo→Bool
 | .pure,_=>true
 |_,.pure=>true
 | .quiet,.quiet=>true
 |_,_=>false
section
variable {P : Program} {ops : Array Oper} {cls : Nat → Lo}
theorem Ch(H:Hp):∃w:World,w.heap=H:=⟨{ (default:World)with heap:=H},rfl⟩
theorem lG{o:Oper}{y:Nat→Option Bool}:Region.wanted o y=true∨Region.wanted o y=false:=by cases Region.wanted o y<;>simp
theorem Ci{o:Oper}{a:Act}{dst:Option Tmp}{u:Value}(hs:∀cs b,o.op≠ .select cs b)(h:∀d,dst=some d→d∉o.looksAt ops){H:Hp}{K:Value→Hp→Prop}:
  dV P o (a.put dst u) H K↔dV P o a H K:=by
 unfold dV
 rw[execOp_put (ops:=ops) o hs a dst u h]
theorem ZB{i j:Nat}{oi oj:Oper}(hi:ops[i]? =some oi)(hj:ops[j]? =some oj)(TG:oi.apart ops oj=true)(VR:(cls i).OB (cls j)=true)
  (hsi:∀cs b,oi.op≠ .select cs b)(ZC:∀cs b,oj.op≠ .select cs b){K:Act→Hp→Prop}{a:Act}{H:Hp}
  (h:my P ops cls i (fun a' H'=>my P ops cls j K a' H') a H):my P ops cls j (fun a' H'=>my P ops cls i K a' H') a H:=by
 obtain⟨h1,h2,h3⟩:=Oper.apart_spec TG
 have wi:∀u,Region.wanted oi (yielded ops (a.put oj.dst u).tmps)=Region.wanted oi (yielded ops a.tmps):=fun u=>wanted_put oi a oj.dst u h3
 have wj:∀u,Region.wanted oj (yielded ops (a.put oi.dst u).tmps)=Region.wanted oj (yielded ops a.tmps):=fun u=>wanted_put oj a oi.dst u h1
 have ei:∀u,execOp (a.put oj.dst u).eval oi=execOp a.eval oi:=fun u=>execOp_put oi hsi a oj.dst u h3
 have ej:∀u,execOp (a.put oi.dst u).eval oj=execOp a.eval oj:=fun u=>execOp_put oj ZC a oi.dst u h1
 have cm:∀v u,(a.put oi.dst v).put oj.dst u=(a.put oj.dst u).put oi.dst v:=fun v u=>Act.put_comm a v u h2
 unfold my at*
 simp only[hi,hj]at*
 simp only[wi,wj,ei,ej,cm,Ci (P:=P) hsi h3,Ci (P:=P) ZC h1]at*
 rcases lG (o:=oi) (y:=yielded ops a.tmps)with ZD|ZD<;>rcases lG (o:=oj) (y:=yielded ops a.tmps)with ZE|ZE<;>
  simp only[ZD,ZE,if_true,if_false,Bool.false_eq_true]at*
 ·cases VS:cls i<;>cases VT:cls j<;>simp only[VS,VT,Lo.OB,Bool.false_eq_true]at h VR ⊢
  ·obtain⟨v,e1,u,e2,k⟩:=h;exact⟨u,e2,v,e1,k⟩
  ·obtain⟨v,e1,u,e2,k⟩:=h;exact⟨u,e2,v,e1,k⟩
  ·obtain⟨v,e1,k⟩:=h;exact k.mono fun u H' k'=>⟨v,e1,k'⟩
  ·obtain⟨v,e1,u,e2,k⟩:=h;exact⟨u,e2,v,e1,k⟩
  ·obtain⟨v,e1,u,e2,k⟩:=h;exact⟨u,e2,v,e1,k⟩
  ·obtain⟨w,hw⟩:=Ch H
   have pick:∃u,∀w,(execOp a.eval oj).run P w= .ok (.value u) w:=by
    rcases h w hw with ⟨v,w',_,_,u,e,_⟩| ⟨w',_,_,u,e,_⟩| ⟨f,args,w',_,_,hc⟩
    ·exact⟨u,e⟩
    ·exact⟨u,e⟩
    ·obtain⟨e,w'',fr,⟨v,_,_,u,eu,_⟩,_⟩:=hc w' rfl []
     exact⟨u,eu⟩
   obtain⟨u,eu⟩:=pick
   refine⟨u,eu,h.mono fun v H' ⟨u',eu',k⟩=>?_⟩
   have:=eu w
   rw[eu' w]at this
   injection this with h1 h2
   injection h1 with h1
   exact h1▸k
 ·cases VS:cls i<;>simp only[VS]at h ⊢ <;>exact h
 ·cases VT:cls j<;>simp only[VT]at h ⊢ <;>exact h
 ·exact h
def w7(ops:Array Oper)(listed:Array Bool):Prop:=
 ∀k ok,ops[k]? =some ok→listed.getD k false=true→∀e∈ok.after,Region.binds .any e=true→listed.getD e.on false=true
theorem w7.set{listed:Array Bool}(h:w7 ops listed){i:Nat}(hi:i∈Region.ready .any ops listed):w7 ops (listed.setIfInBounds i true):=by
 intro k ok hk hl e he hb
 by_cases VD:i=k
 ·subst VD
  obtain⟨_,o,ho,fY⟩:=mem_ready.1 hi
  rw[hk]at ho
  injection ho with ho
  subst ho
  exact getD_set_true (fY e he hb)
 ·rw[getD_set_ne false VD]at hl
  exact getD_set_true (h k ok hk hl e he hb)
def up(pB:Array Nat)(o:Oper):Nat:=o.after.toList.foldl (fun s e=>if Region.binds .any e then s ||| (2^e.on |||pB.getD e.on 0)else s) 0
theorem M6{pB:Array Nat}{i:Nat}:∀ (l:List Edge) (s:Nat),
  (l.foldl (fun s e=>if Region.binds .any e then s ||| (2^e.on |||pB.getD e.on 0)else s) s).testBit i=true→
   s.testBit i=true∨∃e∈l,Region.binds .any e=true∧(e.on=i∨(pB.getD e.on 0).testBit i=true):=by
 intro l
 induction l with
 |nil=>intro s h;exact .inl h
 |cons e l ih=>
  intro s h
  rw[List.foldl_cons]at h
  rcases ih _ h with h| ⟨x,hx,h⟩
  ·split at h
   ·rename_i hb
    rw[Nat.testBit_or,Nat.testBit_or,Nat.testBit_two_pow]at h
    simp only[Bool.or_eq_true,decide_eq_true_eq]at h
    rcases h with h|h|h
    ·exact .inl h
    ·exact .inr ⟨e,List.mem_cons_self,hb,.inl h⟩
    ·exact .inr ⟨e,List.mem_cons_self,hb,.inr h⟩
   ·exact .inl h
  ·exact .inr ⟨x,List.mem_cons_of_mem _ hx,h⟩
def Cj(ops:Array Oper)(pB:Array Nat):Bool:=
 (List.range ops.size).all fun j=>
  match ops[j]? with
  |none=>false
  |some oj=>oj.after.all (fun e=> !Region.binds .any e || decide (e.on<j)) && (pB.getD j 0 |||up pB oj==up pB oj)
theorem Gg{pB:Array Nat}(h:Cj ops pB=true){listed:Array Bool}(hc:w7 ops listed){i:Nat}:∀ (j:Nat) (oj:Oper),ops[j]? =some oj→
  (∀e∈oj.after,Region.binds .any e=true→listed.getD e.on false=true)→(pB.getD j 0).testBit i=true→listed.getD i false=true:=by
 intro j
 induction j using Nat.strongRecOn with
 |_ j ih=>
  intro oj hj fY hb
  have aR:j<ops.size:=(Array.getElem?_eq_some_iff.1 hj).1
  have h1:=(List.all_eq_true.1 h) j (List.mem_range.2 aR)
  simp only[hj,Bool.and_eq_true,beq_iff_eq]at h1
  obtain⟨VU,KI⟩:=h1
  have hu:(up pB oj).testBit i=true:=by rw[←KI,Nat.testBit_or,hb,Bool.true_or]
  rcases M6 _ _ hu with h0| ⟨e,he,hbd,h2⟩
  ·simp at h0
  ·have hem:e∈oj.after:=by simpa using he
   have hl:=fY e hem hbd
   rcases h2 with h2|h2
   ·exact h2▸hl
   ·have adL:e.on<j:=by
     have:=(Array.all_eq_true_iff_forall_mem.1 VU) e hem
     simpa[hbd]using this
    cases hoe:ops[e.on]? with
    |none=>
     have:ops.size≤e.on:=by simpa using hoe
     omega
    |some oe=>exact ih e.on adL oe hoe (hc e.on oe hoe hl) h2
def Ck(ops:Array Oper)(pB:Array Nat)(cls:Nat→Lo):Bool:=
 (List.range ops.size).all fun j=>
  match ops[j]? with
  |none=>false
  |some oj=>(List.range j).all fun i=>(pB.getD j 0).testBit i ||
    match ops[i]? with
    |none=>false
    |some oi=>oi.apart ops oj && (cls i).OB (cls j)
theorem JS{pB:Array Nat}(h:Ck ops pB cls=true){i j:Nat}{oi oj:Oper}(hi:ops[i]? =some oi)(hj:ops[j]? =some oj)(KJ:i<j)
  (hn:(pB.getD j 0).testBit i=false):oi.apart ops oj=true∧(cls i).OB (cls j)=true:=by
 have aR:j<ops.size:=(Array.getElem?_eq_some_iff.1 hj).1
 have h1:=(List.all_eq_true.1 h) j (List.mem_range.2 aR)
 simp only[hj,List.all_eq_true,List.mem_range]at h1
 have h2:=h1 i KJ
 simp only[hi,hn,Bool.false_or,Bool.and_eq_true]at h2
 exact h2
theorem M7{pB:Array Nat}(DH:Cj ops pB=true)(VR:Ck ops pB cls=true){K:Act→Hp→Prop}{i:Nat}{oi:Oper}(hi:ops[i]? =some oi)
  (DI:∀ (j:Nat) (o:Oper) cs b,ops[j]? =some o→o.op≠ .select cs b):
  ∀ (cW:Nat) (listed:Array Bool) (a:Act) (H:Hp),w7 ops listed→(∀j,j<i→listed.getD j false=true)→
   i∈Region.ready .any ops listed→
   my P ops cls i (Pu P ops cls K cW (listed.setIfInBounds i true)) a H→Pu P ops cls K (cW+1) listed a H:=by
 intro cW
 induction cW with
 |zero=>
  intro listed a H _ _ hr h
  refine⟨fun h0=>(by rw[h0]at hr;cases hr),fun j hj=>?_⟩
  by_cases MB:j=i
  ·subst MB;exact h
  ·exfalso
   have Gh:Region.ready .any ops (listed.setIfInBounds i true)=[]:=by
    unfold my at h
    simp only[hi]at h
    split at h
    ·cases hc:cls i<;>simp only[hc]at h
     ·obtain⟨v,_,k⟩:=h;exact k.1
     ·obtain⟨v,_,k⟩:=h;exact k.1
     ·obtain⟨w,hw⟩:=Ch H
      rcases h w hw with ⟨v,w',_,_,k⟩| ⟨w',_,_,k⟩| ⟨f,args,w',_,_,hc⟩
      ·exact k.1
      ·exact k.1
      ·obtain⟨e,w'',fr,⟨v,_,_,k⟩,_⟩:=hc w' rfl []
       exact k.1
    ·exact h.1
   have:=ready_mono hj MB
   rw[Gh]at this
   cases this
 |succ cW ih=>
  intro listed a H qQ Rx hr h
  refine⟨fun h0=>(by rw[h0]at hr;cases hr),fun j hj=>?_⟩
  by_cases MB:j=i
  ·subst MB;exact h
  ·obtain⟨ZF,oj,Tc,fY⟩:=mem_ready.1 hj
   have adN:=(mem_ready.1 hr).1
   have hjs:listed.getD j false=false:=by
    rcases Nat.lt_or_ge j listed.size with h'|h'
    ·simpa[h']using ZF
    ·simp[Array.getElem?_eq_none h']
   have his:listed.getD i false=false:=by
    rcases Nat.lt_or_ge i listed.size with h'|h'
    ·simpa[h']using adN
    ·simp[Array.getElem?_eq_none h']
   have KJ:i<j:=by
    rcases Nat.lt_or_ge i j with h'|h'
    ·exact h'
    ·have h1:=Rx j (by omega)
     rw[hjs]at h1;cases h1
   have VV:(pB.getD j 0).testBit i=false:=by
    cases hb:(pB.getD j 0).testBit i with
    |false=>rfl
    |true=>have:=Gg DH qQ j oj Tc fY hb;rw[his]at this;cases this
   obtain⟨TG,ZG⟩:=JS VR hi Tc KJ VV
   have h2:my P ops cls i (fun a' H'=>my P ops cls j (Pu P ops cls K cW ((listed.setIfInBounds i true).setIfInBounds j true)) a' H') a H:=
    AR (fun a' H' hk=>hk.2 j (ready_mono hj MB)) h
   have h3:=ZB hi Tc TG ZG (fun cs b=>DI i oi cs b hi) (fun cs b=>DI j oj cs b Tc) h2
   refine AR (fun a' H' hk=>?_) h3
   refine ih (listed.setIfInBounds j true) a' H' (qQ.set hj) (fun k Pq=>getD_set_true (Rx k Pq)) (ready_mono hr (Ne.symm MB)) ?_
   rw[Array.setIfInBounds_comm _ _ MB];exact hk
def Ry(P:Program)(ops:Array Oper)(cls:Nat→Lo)(K:Act→Hp→Prop):List Nat→Act→Hp→Prop
 | [],a,H=>K a H
 |i::r,a,H=>my P ops cls i (Ry P ops cls K r) a H
theorem JT{pB:Array Nat}(DH:Cj ops pB=true)(VR:Ck ops pB cls=true)(DI:Region.noSelect ops=true){K:Act→Hp→Prop}:
  ∀ (m k:Nat) (listed:Array Bool) (a:Act) (H:Hp),k+m=ops.size→listed.size=ops.size→(∀j,listed.getD j false=decide (j<k))→
   Ry P ops cls K (List.range' k m) a H→Pu P ops cls K m listed a H:=by
 intro m
 induction m with
 |zero=>
  intro k listed a H hk hs hl h
  refine⟨?_,h⟩
  refine List.eq_nil_iff_forall_not_mem.2 fun j hj=>?_
  obtain⟨h0,o,ho,_⟩:=mem_ready.1 hj
  have aR:j<ops.size:=(Array.getElem?_eq_some_iff.1 ho).1
  have h1:=hl j
  rw[decide_eq_true (by omega)]at h1
  simp[show j<listed.size by omega]at h0 h1
  rw[h0]at h1;cases h1
 |succ m ih=>
  intro k listed a H hk hs hl h
  have aR:k<ops.size:=by omega
  obtain⟨o,ho⟩:∃o,ops[k]? =some o:=⟨ops[k],by simp[aR]⟩
  have TH:w7 ops listed:=by
   intro x ox hx UR e he hb
   have j5:x<ops.size:=(Array.getElem?_eq_some_iff.1 hx).1
   have h1:=(List.all_eq_true.1 DH) x (List.mem_range.2 j5)
   simp only[hx,Bool.and_eq_true]at h1
   have h2:=(Array.all_eq_true_iff_forall_mem.1 h1.1) e he
   simp only[hb,Bool.not_true,Bool.false_or,decide_eq_true_eq]at h2
   rw[hl x,decide_eq_true_eq]at UR
   rw[hl e.on]
   exact decide_eq_true (by omega)
  have Gh:k∈Region.ready .any ops listed:=by
   refine mem_ready.2 ⟨?_,o,ho,fun e he hb=>?_⟩
   ·have h1:=hl k
    rw[decide_eq_false (by omega)]at h1
    simpa[show k<listed.size by omega]using h1
   ·have h1:=(List.all_eq_true.1 DH) k (List.mem_range.2 aR)
    simp only[ho,Bool.and_eq_true]at h1
    have h2:=(Array.all_eq_true_iff_forall_mem.1 h1.1) e he
    simp only[hb,Bool.not_true,Bool.false_or,decide_eq_true_eq]at h2
    rw[hl e.on];exact decide_eq_true h2
  refine M7 DH VR ho (Region.noSelect_spec DI) m listed a H TH (fun j hj=>by rw[hl j];exact decide_eq_true hj) Gh ?_
  rw[List.range'_succ]at h
  simp only[Ry]at h
  refine AR (fun a' H' Pq=>ih (k+1) _ a' H' (by omega) (by simpa using hs) (fun j=>?_) Pq) h
  by_cases Ya:k=j
  ·subst Ya
   simp[show k<listed.size by omega]
  ·rw[getD_set_ne false Ya,hl j]
   by_cases hjk:j<k
   ·rw[decide_eq_true hjk,decide_eq_true (by omega)]
   ·rw[decide_eq_false hjk,decide_eq_false (by omega)]
theorem Gi{id:Nat}{pB:Array Nat}(hm:P.follows .mixedOrders=true)(DH:Cj ops pB=true)(VR:Ck ops pB cls=true)
  (DI:Region.noSelect ops=true){K:Act→Hp→Prop}{Q:Exit→Act→World→Prop}{a:Act}{w:World}
  (hQ:∀a' w',bZ w w'→K a' w'.heap→Q .normal a' w')(h:Ry P ops cls K (List.range ops.size) a w.heap):(Code.region id ops true).wp P Q a w:=by
 refine wp_region_any hm ?_
 refine Ik (cls:=cls) (K:=K) (w₀:=w) hQ _ _ _ _ ⟨rfl,rfl⟩ ?_
 refine JT DH VR DI ops.size 0 _ _ _ (by omega) (by simp) (fun j=>?_) (by rw[List.range_eq_range']at h;exact h)
 simp only[Nat.not_lt_zero,decide_false]
 by_cases hj:j<ops.size<;>simp[hj]
theorem Gj{id:Nat}{K:Act→Hp→Prop}{Q:Exit→Act→World→Prop}{a:Act}{w:World}
  (hQ:∀a' w',bZ w w'→K a' w'.heap→Q .normal a' w')(h:Ln P ops K (List.range ops.size) a w.heap):(Code.region id ops false).wp P Q a w:=
 wp_region (Ih hQ _ _ _ (bZ.refl w) h)
inductive Ot where
 |done
 |step(i:Nat)(t:Ot)
 |aQ(i:Nat)(t r:Ot)
 |stop
 deriving Inhabited
def kA(P:Program)(ops:Array Oper)(Inv:Hp→Prop)(st:Nat→Bool)(i:Nat)(K:Act→Hp→Prop)(a:Act)(H:Hp):Prop:=
 match ops[i]? with
 |none=>K a H
 |some o=>
  if Region.wanted o (yielded ops a.tmps)then
   match st i with
   |true=>∃v,(∀H',Inv H'→dV P o a H' fun v' Gk=>v'=v∧Gk=H')∧K (a.put o.dst v) H
   |false=>dV P o a H fun v H'=>Inv H'∧K (a.put o.dst v) H'
  else K (a.put o.dst undef) H
variable {Inv : Hp → Prop} {st : Nat → Bool}
theorem uo{i:Nat}{K K':Act→Hp→Prop}{a:Act}{H:Hp}(hI:Inv H)(hk:∀a H,Inv H→K a H→K' a H)
  (h:kA P ops Inv st i K a H):kA P ops Inv st i K' a H:=by
 unfold kA at*
 split
 ·exact hk _ _ hI (by simpa[*]using h)
 ·rename_i o ho
  simp only[ho]at h
  split
  ·rename_i hw
   rw[if_pos hw]at h
   cases hc:st i with
   |true=>rw[hc]at h;obtain⟨v,h1,h2⟩:=h;exact⟨v,h1,hk _ _ hI h2⟩
   |false=>rw[hc]at h;exact h.mono fun v H' ⟨k1,k2⟩=>⟨k1,hk _ _ k1 k2⟩
  ·rename_i hw;rw[if_neg hw]at h;exact hk _ _ hI h
theorem Il{i:Nat}{K:Act→Hp→Prop}{a:Act}{w:World}{K':Act→World→Prop}
  {Q:Exit→Act→World→Prop}(hI:Inv w.heap)(hk:∀a w',bZ w w'→Inv w'.heap→K a w'.heap→K' a w')(h:kA P ops Inv st i K a w.heap):wpOp P ops Q i K' a w:=by
 unfold kA at h
 unfold wpOp
 split
 ·rename_i ho;rw[ho]at h;exact hk _ _ (bZ.refl w) hI h
 ·rename_i o ho
  simp only[ho]at h
  split
  ·rename_i hw
   rw[if_pos hw]at h
   refine .inl ?_
   cases hc:st i with
   |true=>
    rw[hc]at h
    obtain⟨v,h1,h2⟩:=h
    exact(h1 w.heap hI).wp rfl fun v' w' hs ⟨e1,e2⟩=>by subst e1;exact hk _ _ hs (e2▸hI) (e2▸h2)
   |false=>rw[hc]at h;exact h.wp rfl fun v' w' hs ⟨k1,k2⟩=>hk _ _ hs k1 k2
  ·rename_i hw;rw[if_neg hw]at h;exact hk _ _ (bZ.refl w) hI h
def anyI(P:Program)(ops:Array Oper)(Inv:Hp→Prop)(st:Nat→Bool)(K:Act→Hp→Prop):Nat→Array Bool→Act→Hp→Prop
 |0,listed,a,H=>Region.ready .any ops listed=[]∧K a H
 |cW+1,listed,a,H=>
  (Region.ready .any ops listed=[]→K a H)∧
  ∀i∈Region.ready .any ops listed,kA P ops Inv st i (anyI P ops Inv st K cW (listed.setIfInBounds i true)) a H
theorem Im{K:Act→Hp→Prop}{Q:Exit→Act→World→Prop}{w₀:World}
  (hQ:∀a w,bZ w₀ w→K a w.heap→Q .normal a w):∀ (cW:Nat) (listed:Array Bool) (a:Act) (w:World),bZ w₀ w→Inv w.heap→
   anyI P ops Inv st K cW listed a w.heap→wpAny P .any ops Q cW listed a w:=by
 intro cW
 induction cW with
 |zero=>intro listed a w hs _ h;exact⟨h.1,hQ _ _ hs h.2⟩
 |succ cW ih=>
  intro listed a w hs hI h
  exact⟨fun hr=>hQ _ _ hs (h.1 hr),fun i hi=>Il hI (fun a' w' E8 TI hk=>ih _ _ _ (hs.trans E8) TI hk) (h.2 i hi)⟩
theorem ZH{i j:Nat}{oi oj:Oper}(hi:ops[i]? =some oi)(hj:ops[j]? =some oj)(TG:oi.apart ops oj=true)(w8:st i=true)
  (hsi:∀cs b,oi.op≠ .select cs b)(ZC:∀cs b,oj.op≠ .select cs b){K:Act→Hp→Prop}{a:Act}{H:Hp}
  (h:kA P ops Inv st i (fun a' H'=>kA P ops Inv st j K a' H') a H):kA P ops Inv st j (fun a' H'=>kA P ops Inv st i K a' H') a H:=by
 obtain⟨h1,h2,h3⟩:=Oper.apart_spec TG
 have wi:∀u,Region.wanted oi (yielded ops (a.put oj.dst u).tmps)=Region.wanted oi (yielded ops a.tmps):=fun u=>wanted_put oi a oj.dst u h3
 have wj:∀u,Region.wanted oj (yielded ops (a.put oi.dst u).tmps)=Region.wanted oj (yielded ops a.tmps):=fun u=>wanted_put oj a oi.dst u h1
 have cm:∀v u,(a.put oi.dst v).put oj.dst u=(a.put oj.dst u).put oi.dst v:=fun v u=>Act.put_comm a v u h2
 unfold kA at*
 simp only[hi,hj,w8]at*
 simp only[wi,wj,cm,Ci (P:=P) hsi h3,Ci (P:=P) ZC h1]at*
 rcases lG (o:=oi) (y:=yielded ops a.tmps)with ZD|ZD<;>rcases lG (o:=oj) (y:=yielded ops a.tmps)with ZE|ZE<;>
  simp only[ZD,ZE,if_true,if_false,Bool.false_eq_true]at*
 ·cases VT:st j<;>simp only[VT]at h ⊢
  ·obtain⟨v,e1,k⟩:=h;exact k.mono fun u H' ⟨k1,k2⟩=>⟨k1,v,e1,k2⟩
  ·obtain⟨v,e1,u,e2,k⟩:=h;exact⟨u,e2,v,e1,k⟩
 ·exact h
 ·cases VT:st j<;>simp only[VT]at h ⊢ <;>exact h
 ·exact h
def kB(ops:Array Oper)(pB:Array Nat)(st:Nat→Bool)(listed:Array Bool)(i:Nat):Bool:=
 st i && match ops[i]? with
 |none=>false
 |some oi=>(List.range ops.size).all fun j=>j==i || listed.getD j false || (pB.getD j 0).testBit i ||
   match ops[j]? with
   |none=>false
   |some oj=>oi.apart ops oj
def Td(ops:Array Oper)(pB:Array Nat)(st:Nat→Bool):Ot→Array Bool→List Nat→Bool
 | .done,listed,_=>(Region.ready .any ops listed).isEmpty
 | .step i t,listed,_=>(Region.ready .any ops listed).contains i && kB ops pB st listed i && Td ops pB st t (listed.setIfInBounds i true) []
 | .aQ i t r,listed,hd=>(Region.ready .any ops listed).contains i && Td ops pB st t (listed.setIfInBounds i true) [] && Td ops pB st r listed (i::hd)
 | .stop,listed,hd=> !(Region.ready .any ops listed).isEmpty && (Region.ready .any ops listed).all (hd.contains ·)
def Pv(P:Program)(ops:Array Oper)(Inv:Hp→Prop)(st:Nat→Bool)(K:Act→Hp→Prop):Ot→Act→Hp→Prop
 | .done,a,H=>K a H
 | .step i t,a,H=>kA P ops Inv st i (Pv P ops Inv st K t) a H
 | .aQ i t r,a,H=>kA P ops Inv st i (Pv P ops Inv st K t) a H∧Pv P ops Inv st K r a H
 | .stop,_,_=>True
theorem Pw{listed:Array Bool}{i j:Nat}(h:listed.getD j false=true):(listed.setIfInBounds i true).getD j false=true:=getD_set_true h
theorem Gl{pB:Array Nat}{listed:Array Bool}{i j:Nat}(h:kB ops pB st listed i=true):kB ops pB st (listed.setIfInBounds j true) i=true:=by
 unfold kB at*
 rw[Bool.and_eq_true]at*
 refine⟨h.1,?_⟩
 have h:=h.2
 split at h
 ·cases h
 ·rename_i oi ho
  rw[List.all_eq_true]at*
  intro k hk
  have:=h k hk
  simp only[Bool.or_eq_true]at this ⊢
  rcases this with ((h|h)|h)|h
  ·exact .inl (.inl (.inl h))
  ·exact .inl (.inl (.inr (Pw h)))
  ·exact .inl (.inr h)
  ·exact .inr h
theorem lH{listed:Array Bool}{i:Nat}(h:i∈Region.ready .any ops listed):listed.getD i false=false:=by
 obtain⟨hun,_⟩:=mem_ready.1 h
 rcases Nat.lt_or_ge i listed.size with h'|h'
 ·simpa[h']using hun
 ·simp[Array.getElem?_eq_none h']
theorem Px{pB:Array Nat}(DH:Cj ops pB=true){K:Act→Hp→Prop}{i:Nat}{oi:Oper}(hi:ops[i]? =some oi)
  (DI:∀ (j:Nat) (o:Oper) cs b,ops[j]? =some o→o.op≠ .select cs b):
  ∀ (cW:Nat) (listed:Array Bool) (a:Act) (H:Hp),Inv H→w7 ops listed→kB ops pB st listed i=true→
   i∈Region.ready .any ops listed→
   kA P ops Inv st i (anyI P ops Inv st K cW (listed.setIfInBounds i true)) a H→anyI P ops Inv st K (cW+1) listed a H:=by
 intro cW
 induction cW with
 |zero=>
  intro listed a H hI _ Cl hr h
  refine⟨fun h0=>(by rw[h0]at hr;cases hr),fun j hj=>?_⟩
  by_cases MB:j=i
  ·subst MB;exact h
  ·exfalso
   have w8:st i=true:=by unfold kB at Cl;rw[Bool.and_eq_true]at Cl;exact Cl.1
   have Gh:Region.ready .any ops (listed.setIfInBounds i true)=[]:=by
    unfold kA at h
    simp only[hi,w8]at h
    split at h
    ·obtain⟨v,_,k⟩:=h;exact k.1
    ·exact h.1
   have:=ready_mono hj MB
   rw[Gh]at this
   cases this
 |succ cW ih=>
  intro listed a H hI qQ Cl hr h
  refine⟨fun h0=>(by rw[h0]at hr;cases hr),fun j hj=>?_⟩
  by_cases MB:j=i
  ·subst MB;exact h
  ·obtain⟨ZF,oj,Tc,fY⟩:=mem_ready.1 hj
   have hjs:=lH hj
   have his:=lH hr
   have w8:st i=true:=by have hf:=Cl;unfold kB at hf;rw[Bool.and_eq_true]at hf;exact hf.1
   have VV:(pB.getD j 0).testBit i=false:=by
    cases hb:(pB.getD j 0).testBit i with
    |false=>rfl
    |true=>have:=Gg DH qQ j oj Tc fY hb;rw[his]at this;cases this
   have TG:oi.apart ops oj=true:=by
    have hf:=Cl
    unfold kB at hf
    rw[Bool.and_eq_true]at hf
    have hf:=hf.2
    rw[hi]at hf
    simp only at hf
    have aR:j<ops.size:=(Array.getElem?_eq_some_iff.1 Tc).1
    have:=(List.all_eq_true.1 hf) j (List.mem_range.2 aR)
    have aS:(j==i)=false:=by simpa using MB
    simp only[Tc,VV,hjs,aS,Bool.false_or]at this
    exact this
   have h2:kA P ops Inv st i (fun a' H'=>kA P ops Inv st j (anyI P ops Inv st K cW ((listed.setIfInBounds i true).setIfInBounds j true)) a' H') a H:=
    uo hI (fun a' H' _ hk=>hk.2 j (ready_mono hj MB)) h
   have h3:=ZH hi Tc TG w8 (fun cs b=>DI i oi cs b hi) (fun cs b=>DI j oj cs b Tc) h2
   refine uo hI (fun a' H' TI hk=>?_) h3
   refine ih (listed.setIfInBounds j true) a' H' TI (qQ.set hj) (Gl Cl) (ready_mono hr (Ne.symm MB)) ?_
   rw[Array.setIfInBounds_comm _ _ MB];exact hk
theorem count_set:∀ (l:List Bool) (i:Nat),l[i]? =some false→(l.set i true).count false+1=l.count false:=by
 intro l
 induction l with
 |nil=>intro i h;simp at h
 |cons b l ih=>
  intro i h
  cases i with
  |zero=>
   simp only[List.getElem?_cons_zero,Option.some.injEq]at h
   subst h
   simp
  |succ i=>
   have:=ih i (by simpa using h)
   rw[List.set_cons_succ,List.count_cons,List.count_cons]
   omega
theorem Cm{listed:Array Bool}{i cW:Nat}(hs:listed.size=ops.size)(hc:listed.toList.count false=cW)(h:i∈Region.ready .any ops listed):
  ∃f,cW=f+1∧(listed.setIfInBounds i true).toList.count false=f∧(listed.setIfInBounds i true).size=ops.size:=by
 have h1:=lH h
 obtain⟨_,o,ho,_⟩:=mem_ready.1 h
 have aR:i<listed.size:=by rw[hs];exact(Array.getElem?_eq_some_iff.1 ho).1
 have h2:listed.toList[i]? =some false:=by
  simp only[Array.getElem?_toList]
  simp[aR]at h1 ⊢
  exact h1
 have h3:=count_set _ i h2
 refine⟨(listed.setIfInBounds i true).toList.count false,?_,rfl,by simpa using hs⟩
 rw[Array.toList_setIfInBounds]
 omega
theorem JU{pB:Array Nat}(DH:Cj ops pB=true)(DI:Region.noSelect ops=true){K:Act→Hp→Prop}:
  ∀ (t:Ot) (listed:Array Bool) (hd:List Nat) (cW:Nat) (a:Act) (H:Hp),Td ops pB st t listed hd=true→Inv H→w7 ops listed→listed.size=ops.size→listed.toList.count false=cW→
   (∀i∈hd,i∈Region.ready .any ops listed→∃f,cW=f+1∧kA P ops Inv st i (anyI P ops Inv st K f (listed.setIfInBounds i true)) a H)→Pv P ops Inv st K t a H→anyI P ops Inv st K cW listed a H:=by
 intro t
 induction t with
 |done=>
  intro listed hd cW a H uQ _ _ _ _ _ h
  simp only[Td,List.isEmpty_iff]at uQ
  cases cW with
  |zero=>exact⟨uQ,h⟩
  |succ cW=>exact⟨fun _=>h,fun i hi=>by rw[uQ]at hi;cases hi⟩
 |step i t ih=>
  intro listed hd cW a H uQ hI qQ hs hc _ h
  simp only[Td,Bool.and_eq_true,List.contains_iff_mem]at uQ
  obtain⟨⟨hr,Cl⟩,uQ⟩:=uQ
  obtain⟨f,rfl,KU,E8⟩:=Cm hs hc hr
  obtain⟨_,o,ho,_⟩:=mem_ready.1 hr
  refine Px DH ho (Region.noSelect_spec DI) f listed a H hI qQ Cl hr ?_
  refine uo hI (fun a' H' TI hk=>?_) h
  exact ih _ [] f a' H' uQ TI (qQ.set hr) E8 KU (fun i hi=>by cases hi) hk
 |aQ i t r iht ZI=>
  intro listed hd cW a H uQ hI qQ hs hc TJ h
  simp only[Td,Bool.and_eq_true,List.contains_iff_mem]at uQ
  obtain⟨⟨hr,adQ⟩,adR⟩:=uQ
  obtain⟨f,rfl,KU,E8⟩:=Cm hs hc hr
  refine ZI listed (i::hd) (f+1) a H adR hI qQ hs hc ?_ h.2
  intro j hj hjr
  rcases List.mem_cons.1 hj with rfl|hj
  ·refine⟨f,rfl,uo hI (fun a' H' TI hk=>?_) h.1⟩
   exact iht _ [] f a' H' adQ TI (qQ.set hr) E8 KU (fun i hi=>by cases hi) hk
  ·exact TJ j hj hjr
 |stop=>
  intro listed hd cW a H uQ hI qQ hs hc TJ _
  simp only[Td,Bool.and_eq_true,List.all_eq_true,List.contains_iff_mem]at uQ
  obtain⟨aS,fY⟩:=uQ
  by_cases ZJ:Region.ready .any ops listed=[]
  ·exact absurd (List.isEmpty_iff.2 ZJ) (by simpa using aS)
  ·obtain⟨i,hi⟩:=List.exists_mem_of_ne_nil _ ZJ
   obtain⟨f,rfl,_⟩:=TJ i (fY i hi) hi
   refine⟨fun h0=>absurd h0 ZJ,fun j hj=>?_⟩
   obtain⟨f',e,h⟩:=TJ j (fY j hj) hj
   have:f'=f:=by omega
   subst this
   exact h
theorem Gm{id:Nat}{pB:Array Nat}{t:Ot}(hm:P.follows .mixedOrders=true)(DH:Cj ops pB=true)(uQ:Td ops pB st t (Array.replicate ops.size false) []=true)
  (DI:Region.noSelect ops=true){K:Act→Hp→Prop}{Q:Exit→Act→World→Prop}{a:Act}{w:World}(hI:Inv w.heap)
  (hQ:∀a' w',bZ w w'→K a' w'.heap→Q .normal a' w')(h:Pv P ops Inv st K t a w.heap):(Code.region id ops true).wp P Q a w:=by
 refine wp_region_any hm ?_
 refine Im (Inv:=Inv) (st:=st) (K:=K) (w₀:=w) hQ _ _ _ _ ⟨rfl,rfl⟩ hI ?_
 refine JU DH DI t _ [] _ _ _ uQ hI ?_ (by simp) (by simp) (fun i hi=>by cases hi) h
 intro k ok _ hl
 exfalso
 by_cases hk:k<ops.size<;>simp[hk]at hl
end
end Go.Vc
