/- Texts put behind each other. -/
import Derived.Test.YtjlnnljohemifaaGreatK98
import Derived.Orders
import Derived.Laws.Sem
import Derived.Laws.World
import Derived.KernelRfl
set_option maxRecDepth 100000
set_option maxHeartbeats 8000000
namespace Go.Vc
structure Tag{α:Sort _}(F:α):Type where
abbrev Hp:=Array Obj
structure bZ(w w':World):Prop where
 os:w'.os=w.os
 output:w'.output=w.output
theorem bZ.refl(w:World):bZ w w:=⟨rfl,rfl⟩
theorem bZ.trans{a b c:World}(h:bZ a b)(k:bZ b c):bZ a c:=⟨k.os.trans h.os,k.output.trans h.output⟩
def af(P:Program)(f:FuncId)(args:List Value)(H:Hp)(K:Value→Hp→Prop)(_t:Tag K:=⟨⟩):Prop:=
 ∀w,w.heap=H→Calls P f args.toArray w fun e w'=>∃v,e= .returned v∧bZ w w'∧K v w'.heap
theorem af.mono{P:Program}{f:FuncId}{args:List Value}{H:Hp}{K K':Value→Hp→Prop}(h:af P f args H K)(hk:∀v H',K v H'→K' v H'):
  af P f args H K':=
 fun w hw=>(h w hw).mono fun _ _ ⟨v,e,s,k⟩=>⟨v,e,s,hk _ _ k⟩
def dO(P:Program)(o:Oper)(a:Act)(H:Hp)(K:Value→Hp→Prop):Prop:=
 ∀w,w.heap=H→
  (∃v w',(execOp a.eval o).run P w= .ok (.value v) w'∧bZ w w'∧K v w'.heap)∨
  (∃w',(execOp a.eval o).run P w= .ok .skip w'∧bZ w w'∧K undef w'.heap)∨
  (∃f args w',(execOp a.eval o).run P w= .ok (.enter f args) w'∧bZ w w'∧af P f args.toList w'.heap K)
theorem dO.mono{P:Program}{o:Oper}{a:Act}{H:Hp}{K K':Value→Hp→Prop}(h:dO P o a H K)(hk:∀v H',K v H'→K' v H'):dO P o a H K':=by
 intro w hw
 rcases h w hw with ⟨v,w',h1,h2,h3⟩| ⟨w',h1,h2,h3⟩| ⟨f,args,w',h1,h2,h3⟩
 ·exact .inl ⟨v,w',h1,h2,hk _ _ h3⟩
 ·exact .inr (.inl ⟨w',h1,h2,hk _ _ h3⟩)
 ·exact .inr (.inr ⟨f,args,w',h1,h2,h3.mono hk⟩)
theorem dO.wp{P:Program}{o:Oper}{a:Act}{H:Hp}{K:Value→Hp→Prop}{next:Act→World→Prop}{Q:Exit→Act→World→Prop}{w:World}
  (h:dO P o a H K)(hw:w.heap=H)(hn:∀v w',bZ w w'→K v w'.heap→next (a.put o.dst v) w'):o.wp P a w next Q:=by
 unfold Oper.wp
 rcases h w hw with ⟨v,w',h1,h2,h3⟩| ⟨w',h1,h2,h3⟩| ⟨f,args,w',h1,h2,h3⟩
 ·rw[h1];exact hn _ _ h2 h3
 ·rw[h1];exact hn _ _ h2 h3
 ·rw[h1]
  have h4:=h3 w' rfl
  simp only[ao3]at h4
  show Calls P f args w' _
  refine h4.mono fun e w'' he=>?_
  obtain⟨v,rfl,hs,hk⟩:=he
  exact hn _ _ (h2.trans hs) hk
def Kv(P:Program)(ops:Array Oper)(K:Act→Hp→Prop):List Nat→Act→Hp→Prop
 | [],a,H=>K a H
 |i::r,a,H=>
  match ops[i]? with
  |none=>Kv P ops K r a H
  |some o=>if Region.wanted o (yielded ops a.tmps)then dO P o a H (fun v H'=>Kv P ops K r (a.put o.dst v) H')else Kv P ops K r (a.put o.dst undef) H
theorem HR{P:Program}{ops:Array Oper}{K:Act→Hp→Prop}{Q:Exit→Act→World→Prop}{w₀:World}
  (hQ:∀a w,bZ w₀ w→K a w.heap→Q .normal a w):∀ (l:List Nat) (a:Act) (w:World),bZ w₀ w→Kv P ops K l a w.heap→wpOps P ops Q l a w:=by
 intro l
 induction l with
 |nil=>intro a w hs h;exact hQ a w hs h
 |cons i r ih=>
  intro a w hs h
  simp only[wpOps,Kv]at*
  cases ho:ops[i]? with
  |none=>rw[ho]at h;exact ih _ _ hs h
  |some o=>
   rw[ho]at h
   simp only at h ⊢
   split
   ·rename_i hw
    rw[if_pos hw]at h
    exact .inl (h.wp rfl fun v w' Dz hk=>ih _ _ (hs.trans Dz) hk)
   ·rename_i hw
    rw[if_neg hw]at h
    exact ih _ _ hs h
inductive Km where
 |pure|quiet|GG
 deriving DecidableEq,Inhabited
def jA(P:Program)(ops:Array Oper)(cls:Nat→Km)(i:Nat)(K:Act→Hp→Prop)(a:Act)(H:Hp):Prop:=
 match ops[i]? with
 |none=>K a H
 |some o=>
  if Region.wanted o (yielded ops a.tmps)then
   match cls i with
   | .pure=>∃v,(∀w,(execOp a.eval o).run P w= .ok (.value v) w)∧K (a.put o.dst v) H
   | .quiet=>∃v,dO P o a H (fun v' H'=>v'=v∧H'=H)∧K (a.put o.dst v) H
   | .GG=>dO P o a H fun v H'=>K (a.put o.dst v) H'
  else K (a.put o.dst undef) H
theorem zA{P:Program}{ops:Array Oper}{cls:Nat→Km}{i:Nat}{K K':Act→Hp→Prop}{a:Act}{H:Hp}(hk:∀a H,K a H→K' a H)
  (h:jA P ops cls i K a H):jA P ops cls i K' a H:=by
 unfold jA at*
 split
 ·exact hk _ _ (by simpa[*]using h)
 ·rename_i o ho
  simp only[ho]at h
  split
  ·rename_i hw
   rw[if_pos hw]at h
   cases hc:cls i with
   |pure=>rw[hc]at h;obtain⟨v,h1,h2⟩:=h;exact⟨v,h1,hk _ _ h2⟩
   |quiet=>rw[hc]at h;obtain⟨v,h1,h2⟩:=h;exact⟨v,h1,hk _ _ h2⟩
   |GG=>rw[hc]at h;exact h.mono fun v H'=>hk _ _
  ·rename_i hw;rw[if_neg hw]at h;exact hk _ _ h
theorem zU{P:Program}{o:Oper}{a:Act}{v:Value}(h:∀w,(execOp a.eval o).run P w= .ok (.value v) w)(H:Hp):
  dO P o a H fun v' H'=>v'=v∧H'=H:=fun w hw=>.inl ⟨v,w,h w,bZ.refl w,rfl,hw⟩
theorem HS{P:Program}{ops:Array Oper}{cls:Nat→Km}{i:Nat}{K:Act→Hp→Prop}{a:Act}{w:World}{K':Act→World→Prop}
  {Q:Exit→Act→World→Prop}(hk:∀a w',bZ w w'→K a w'.heap→K' a w')(h:jA P ops cls i K a w.heap):wpOp P ops Q i K' a w:=by
 unfold jA at h
 unfold wpOp
 split
 ·rename_i ho;rw[ho]at h;exact hk _ _ (bZ.refl w) h
 ·rename_i o ho
  simp only[ho]at h
  split
  ·rename_i hw
   rw[if_pos hw]at h
   refine .inl ?_
   cases hc:cls i with
   |pure=>
    rw[hc]at h
    obtain⟨v,h1,h2⟩:=h
    exact(zU h1 w.heap).wp rfl fun v' w' hs ⟨e1,e2⟩=>by subst e1;exact hk _ _ hs (e2▸h2)
   |quiet=>
    rw[hc]at h
    obtain⟨v,h1,h2⟩:=h
    exact h1.wp rfl fun v' w' hs ⟨e1,e2⟩=>by subst e1;exact hk _ _ hs (e2▸h2)
   |GG=>rw[hc]at h;exact h.wp rfl fun v' w' hs J9=>hk _ _ hs J9
  ·rename_i hw;rw[if_neg hw]at h;exact hk _ _ (bZ.refl w) h
def Qk(P:Program)(ops:Array Oper)(cls:Nat→Km)(K:Act→Hp→Prop):Nat→Array Bool→Act→Hp→Prop
 |0,listed,a,H=>Region.ready .any ops listed=[]∧K a H
 |cS+1,listed,a,H=>
  (Region.ready .any ops listed=[]→K a H)∧
  ∀i∈Region.ready .any ops listed,jA P ops cls i (Qk P ops cls K cS (listed.setIfInBounds i true)) a H
theorem HT{P:Program}{ops:Array Oper}{cls:Nat→Km}{K:Act→Hp→Prop}{Q:Exit→Act→World→Prop}{w₀:World}
  (hQ:∀a w,bZ w₀ w→K a w.heap→Q .normal a w):∀ (cS:Nat) (listed:Array Bool) (a:Act) (w:World),bZ w₀ w→
   Qk P ops cls K cS listed a w.heap→wpAny P .any ops Q cS listed a w:=by
 intro cS
 induction cS with
 |zero=>intro listed a w hs h;exact⟨h.1,hQ _ _ hs h.2⟩
 |succ cS ih=>
  intro listed a w hs h
  exact⟨fun hr=>hQ _ _ hs (h.1 hr),fun i hi=>HS (fun a' w' Dz hk=>ih _ _ _ (hs.trans Dz) hk) (h.2 i hi)⟩
def Km.OH:Km→Km→Bool
 | .pure,_=>true
 |_,.pure=>true
 | .quiet,.quiet=>true
 |_,_=>false
section
variable {P : Program} {ops : Array Oper} {cls : Nat → Km}
theorem By(H:Hp):∃w:World,w.heap=H:=⟨{ (default:World)with heap:=H},rfl⟩
theorem jr{o:Oper}{y:Nat→Option Bool}:Region.wanted o y=true∨Region.wanted o y=false:=by cases Region.wanted o y<;>simp
theorem Bz{o:Oper}{a:Act}{dst:Option Tmp}{u:Value}(hs:∀cs b,o.op≠ .select cs b)(h:∀d,dst=some d→d∉o.looksAt ops){H:Hp}{K:Value→Hp→Prop}:
  dO P o (a.put dst u) H K↔dO P o a H K:=by
 unfold dO
 rw[execOp_put (ops:=ops) o hs a dst u h]
theorem abZ{i j:Nat}{oi oj:Oper}(hi:ops[i]? =some oi)(hj:ops[j]? =some oj)(Ud:oi.apart ops oj=true)(XJ:(cls i).OH (cls j)=true)
  (hsi:∀cs b,oi.op≠ .select cs b)(hsj:∀cs b,oj.op≠ .select cs b){K:Act→Hp→Prop}{a:Act}{H:Hp}
  (h:jA P ops cls i (fun a' H'=>jA P ops cls j K a' H') a H):jA P ops cls j (fun a' H'=>jA P ops cls i K a' H') a H:=by
 obtain⟨h1,h2,h3⟩:=Oper.apart_spec Ud
 have wi:∀u,Region.wanted oi (yielded ops (a.put oj.dst u).tmps)=Region.wanted oi (yielded ops a.tmps):=fun u=>wanted_put oi a oj.dst u h3
 have wj:∀u,Region.wanted oj (yielded ops (a.put oi.dst u).tmps)=Region.wanted oj (yielded ops a.tmps):=fun u=>wanted_put oj a oi.dst u h1
 have ei:∀u,execOp (a.put oj.dst u).eval oi=execOp a.eval oi:=fun u=>execOp_put oi hsi a oj.dst u h3
 have ej:∀u,execOp (a.put oi.dst u).eval oj=execOp a.eval oj:=fun u=>execOp_put oj hsj a oi.dst u h1
 have cm:∀v u,(a.put oi.dst v).put oj.dst u=(a.put oj.dst u).put oi.dst v:=fun v u=>Act.put_comm a v u h2
 unfold jA at*
 simp only[hi,hj]at*
 simp only[wi,wj,ei,ej,cm,Bz (P:=P) hsi h3,Bz (P:=P) hsj h1]at*
 rcases jr (o:=oi) (y:=yielded ops a.tmps)with Ta|Ta<;>rcases jr (o:=oj) (y:=yielded ops a.tmps)with Uq|Uq<;>
  simp only[Ta,Uq,if_true,if_false,aox]at*
 ·cases Tr:cls i<;>cases XK:cls j<;>simp only[Tr,XK,Km.OH,aox]at h XJ ⊢
  ·obtain⟨v,e1,u,e2,k⟩:=h;exact⟨u,e2,v,e1,k⟩
  ·obtain⟨v,e1,u,e2,k⟩:=h;exact⟨u,e2,v,e1,k⟩
  ·obtain⟨v,e1,k⟩:=h;exact k.mono fun u H' k'=>⟨v,e1,k'⟩
  ·obtain⟨v,e1,u,e2,k⟩:=h;exact⟨u,e2,v,e1,k⟩
  ·obtain⟨v,e1,u,e2,k⟩:=h;exact⟨u,e2,v,e1,k⟩
  ·obtain⟨w,hw⟩:=By H
   have pick:∃u,∀w,(execOp a.eval oj).run P w= .ok (.value u) w:=by
    rcases h w hw with ⟨v,w',_,_,u,e,_⟩| ⟨w',_,_,u,e,_⟩| ⟨f,args,w',_,_,hc⟩
    ·exact⟨u,e⟩
    ·exact⟨u,e⟩
    ·obtain⟨e,w'',fr,⟨v,_,_,u,eu,_⟩,_⟩:=hc w' rfl []
     exact⟨u,eu⟩
   obtain⟨u,eu⟩:=pick
   refine⟨u,eu,h.mono fun v H' ⟨u',eu',k⟩=>?_⟩
   have:=eu w
   rw[eu' w]at this
   injection this with h1 h2
   injection h1 with h1
   exact h1▸k
 ·cases Tr:cls i<;>simp only[Tr]at h ⊢ <;>exact h
 ·cases XK:cls j<;>simp only[XK]at h ⊢ <;>exact h
 ·exact h
def uW(ops:Array Oper)(listed:Array Bool):Prop:=
 ∀k ok,ops[k]? =some ok→listed.getD k false=true→∀e∈ok.after,Region.binds .any e=true→listed.getD e.on false=true
theorem uW.set{listed:Array Bool}(h:uW ops listed){i:Nat}(hi:i∈Region.ready .any ops listed):uW ops (listed.setIfInBounds i true):=by
 intro k ok hk hl e he hb
 by_cases hik:i=k
 ·subst hik
  obtain⟨_,o,ho,db⟩:=mem_ready.1 hi
  rw[hk]at ho
  injection ho with ho
  subst ho
  exact getD_set_true (db e he hb)
 ·rw[getD_set_ne false hik]at hl
  exact getD_set_true (h k ok hk hl e he hb)
def up(mH:Array Nat)(o:Oper):Nat:=o.after.toList.foldl (fun s e=>if Region.binds .any e then s ||| (2^e.on |||mH.getD e.on 0)else s) 0
theorem NI{mH:Array Nat}{i:Nat}:∀ (l:List Edge) (s:Nat),
  (l.foldl (fun s e=>if Region.binds .any e then s ||| (2^e.on |||mH.getD e.on 0)else s) s).testBit i=true→
   s.testBit i=true∨∃e∈l,Region.binds .any e=true∧(e.on=i∨(mH.getD e.on 0).testBit i=true):=by
 intro l
 induction l with
 |nil=>intro s h;exact .inl h
 |cons e l ih=>
  intro s h
  rw[List.foldl_cons]at h
  rcases ih _ h with h| ⟨x,hx,h⟩
  ·split at h
   ·rename_i hb
    rw[Nat.testBit_or,Nat.testBit_or,Nat.testBit_two_pow]at h
    simp only[ape,anU]at h
    rcases h with h|h|h
    ·exact .inl h
    ·exact .inr ⟨e,aok,hb,.inl h⟩
    ·exact .inr ⟨e,aok,hb,.inr h⟩
   ·exact .inl h
  ·exact .inr ⟨x,anZ _ hx,h⟩
def zV(ops:Array Oper)(mH:Array Nat):Bool:=
 (List.range ops.size).all fun j=>
  match ops[j]? with
  |none=>false
  |some oj=>oj.after.all (fun e=> !Region.binds .any e || decide (e.on<j)) && (mH.getD j 0 |||up mH oj==up mH oj)
theorem Gl{mH:Array Nat}(h:zV ops mH=true){listed:Array Bool}(hc:uW ops listed){i:Nat}:∀ (j:Nat) (oj:Oper),ops[j]? =some oj→
  (∀e∈oj.after,Region.binds .any e=true→listed.getD e.on false=true)→(mH.getD j 0).testBit i=true→listed.getD i false=true:=by
 intro j
 induction j using Nat.strongRecOn with
 |_ j ih=>
  intro oj hj db hb
  have aO:j<ops.size:=(aot.1 hj).1
  have h1:=(aoA.1 h) j (aoy.2 aO)
  simp only[hj,aol,beq_iff_eq]at h1
  obtain⟨NF,JV⟩:=h1
  have hu:(up mH oj).testBit i=true:=by rw[←JV,Nat.testBit_or,hb,Bool.true_or]
  rcases NI _ _ hu with h0| ⟨e,he,Uo,h2⟩
  ·simp at h0
  ·have hem:e∈oj.after:=by simpa using he
   have hl:=db e hem Uo
   rcases h2 with h2|h2
   ·exact h2▸hl
   ·have agO:e.on<j:=by
     have:=(aoZ.1 NF) e hem
     simpa[Uo]using this
    cases hoe:ops[e.on]? with
    |none=>
     have:ops.size≤e.on:=by simpa using hoe
     omega
    |some oe=>exact ih e.on agO oe hoe (hc e.on oe hoe hl) h2
def zW(ops:Array Oper)(mH:Array Nat)(cls:Nat→Km):Bool:=
 (List.range ops.size).all fun j=>
  match ops[j]? with
  |none=>false
  |some oj=>(List.range j).all fun i=>(mH.getD j 0).testBit i ||
    match ops[i]? with
    |none=>false
    |some oi=>oi.apart ops oj && (cls i).OH (cls j)
theorem JP{mH:Array Nat}(h:zW ops mH cls=true){i j:Nat}{oi oj:Oper}(hi:ops[i]? =some oi)(hj:ops[j]? =some oj)(JT:i<j)
  (hn:(mH.getD j 0).testBit i=false):oi.apart ops oj=true∧(cls i).OH (cls j)=true:=by
 have aO:j<ops.size:=(aot.1 hj).1
 have h1:=(aoA.1 h) j (aoy.2 aO)
 simp only[hj,aoA,aoy]at h1
 have h2:=h1 i JT
 simp only[hi,hn,apE,aol]at h2
 exact h2
theorem NJ{mH:Array Nat}(C3:zV ops mH=true)(XJ:zW ops mH cls=true){K:Act→Hp→Prop}{i:Nat}{oi:Oper}(hi:ops[i]? =some oi)
  (C4:∀ (j:Nat) (o:Oper) cs b,ops[j]? =some o→o.op≠ .select cs b):
  ∀ (cS:Nat) (listed:Array Bool) (a:Act) (H:Hp),uW ops listed→(∀j,j<i→listed.getD j false=true)→
   i∈Region.ready .any ops listed→
   jA P ops cls i (Qk P ops cls K cS (listed.setIfInBounds i true)) a H→Qk P ops cls K (cS+1) listed a H:=by
 intro cS
 induction cS with
 |zero=>
  intro listed a H _ _ hr h
  refine⟨fun h0=>(by rw[h0]at hr;cases hr),fun j hj=>?_⟩
  by_cases Mh:j=i
  ·subst Mh;exact h
  ·exfalso
   have Gm:Region.ready .any ops (listed.setIfInBounds i true)=[]:=by
    unfold jA at h
    simp only[hi]at h
    split at h
    ·cases hc:cls i<;>simp only[hc]at h
     ·obtain⟨v,_,k⟩:=h;exact k.1
     ·obtain⟨v,_,k⟩:=h;exact k.1
     ·obtain⟨w,hw⟩:=By H
      rcases h w hw with ⟨v,w',_,_,k⟩| ⟨w',_,_,k⟩| ⟨f,args,w',_,_,hc⟩
      ·exact k.1
      ·exact k.1
      ·obtain⟨e,w'',fr,⟨v,_,_,k⟩,_⟩:=hc w' rfl []
       exact k.1
    ·exact h.1
   have:=ready_mono hj Mh
   rw[Gm]at this
   cases this
 |succ cS ih=>
  intro listed a H nO PU hr h
  refine⟨fun h0=>(by rw[h0]at hr;cases hr),fun j hj=>?_⟩
  by_cases Mh:j=i
  ·subst Mh;exact h
  ·obtain⟨ab0,oj,Tb,db⟩:=mem_ready.1 hj
   have agQ:=(mem_ready.1 hr).1
   have hjs:listed.getD j false=false:=by
    rcases aoL j listed.size with h'|h'
    ·simpa[h']using ab0
    ·simp[aoJ h']
   have his:listed.getD i false=false:=by
    rcases aoL i listed.size with h'|h'
    ·simpa[h']using agQ
    ·simp[aoJ h']
   have JT:i<j:=by
    rcases aoL i j with h'|h'
    ·exact h'
    ·have h1:=PU j (by omega)
     rw[hjs]at h1;cases h1
   have XL:(mH.getD j 0).testBit i=false:=by
    cases hb:(mH.getD j 0).testBit i with
    |false=>rfl
    |true=>have:=Gl C3 nO j oj Tb db hb;rw[his]at this;cases this
   obtain⟨Ud,ab1⟩:=JP XJ hi Tb JT XL
   have h2:jA P ops cls i (fun a' H'=>jA P ops cls j (Qk P ops cls K cS ((listed.setIfInBounds i true).setIfInBounds j true)) a' H') a H:=
    zA (fun a' H' hk=>hk.2 j (ready_mono hj Mh)) h
   have h3:=abZ hi Tb Ud ab1 (fun cs b=>C4 i oi cs b hi) (fun cs b=>C4 j oj cs b Tb) h2
   refine zA (fun a' H' hk=>?_) h3
   refine ih (listed.setIfInBounds j true) a' H' (nO.set hj) (fun k J9=>getD_set_true (PU k J9)) (ready_mono hr (Ne.symm Mh)) ?_
   rw[Array.setIfInBounds_comm _ _ Mh];exact hk
def Q4(P:Program)(ops:Array Oper)(cls:Nat→Km)(K:Act→Hp→Prop):List Nat→Act→Hp→Prop
 | [],a,H=>K a H
 |i::r,a,H=>jA P ops cls i (Q4 P ops cls K r) a H
theorem JQ{mH:Array Nat}(C3:zV ops mH=true)(XJ:zW ops mH cls=true)(C4:Region.noSelect ops=true){K:Act→Hp→Prop}:
  ∀ (m k:Nat) (listed:Array Bool) (a:Act) (H:Hp),k+m=ops.size→listed.size=ops.size→(∀j,listed.getD j false=decide (j<k))→
   Q4 P ops cls K (List.range' k m) a H→Qk P ops cls K m listed a H:=by
 intro m
 induction m with
 |zero=>
  intro k listed a H hk hs hl h
  refine⟨?_,h⟩
  refine List.eq_nil_iff_forall_not_mem.2 fun j hj=>?_
  obtain⟨h0,o,ho,_⟩:=mem_ready.1 hj
  have aO:j<ops.size:=(aot.1 ho).1
  have h1:=hl j
  rw[anI (by omega)]at h1
  simp[show j<listed.size by omega]at h0 h1
  rw[h0]at h1;cases h1
 |succ m ih=>
  intro k listed a H hk hs hl h
  have aO:k<ops.size:=by omega
  obtain⟨o,ho⟩:∃o,ops[k]? =some o:=⟨ops[k],by simp[aO]⟩
  have UA:uW ops listed:=by
   intro x ox hx Tg e he hb
   have kU:x<ops.size:=(aot.1 hx).1
   have h1:=(aoA.1 C3) x (aoy.2 kU)
   simp only[hx,aol]at h1
   have h2:=(aoZ.1 h1.1) e he
   simp only[hb,api,apE,anU]at h2
   rw[hl x,anU]at Tg
   rw[hl e.on]
   exact anI (by omega)
  have Gm:k∈Region.ready .any ops listed:=by
   refine mem_ready.2 ⟨?_,o,ho,fun e he hb=>?_⟩
   ·have h1:=hl k
    rw[anV (by omega)]at h1
    simpa[show k<listed.size by omega]using h1
   ·have h1:=(aoA.1 C3) k (aoy.2 aO)
    simp only[ho,aol]at h1
    have h2:=(aoZ.1 h1.1) e he
    simp only[hb,api,apE,anU]at h2
    rw[hl e.on];exact anI h2
  refine NJ C3 XJ ho (Region.noSelect_spec C4) m listed a H UA (fun j hj=>by rw[hl j];exact anI hj) Gm ?_
  rw[List.range'_succ]at h
  simp only[Q4]at h
  refine zA (fun a' H' J9=>ih (k+1) _ a' H' (by omega) (by simpa using hs) (fun j=>?_) J9) h
  by_cases YM:k=j
  ·subst YM
   simp[show k<listed.size by omega]
  ·rw[getD_set_ne false YM,hl j]
   by_cases hjk:j<k
   ·rw[anI hjk,anI (by omega)]
   ·rw[anV hjk,anV (by omega)]
theorem Ff{id:Nat}{mH:Array Nat}(hm:P.follows .mixedOrders=true)(C3:zV ops mH=true)(XJ:zW ops mH cls=true)
  (C4:Region.noSelect ops=true){K:Act→Hp→Prop}{Q:Exit→Act→World→Prop}{a:Act}{w:World}
  (hQ:∀a' w',bZ w w'→K a' w'.heap→Q .normal a' w')(h:Q4 P ops cls K (List.range ops.size) a w.heap):(Code.region id ops true).wp P Q a w:=by
 refine wp_region_any hm ?_
 refine HT (cls:=cls) (K:=K) (w₀:=w) hQ _ _ _ _ ⟨rfl,rfl⟩ ?_
 refine JQ C3 XJ C4 ops.size 0 _ _ _ (by omega) (by simp) (fun j=>?_) (by rw[List.range_eq_range']at h;exact h)
 simp only[Nat.not_lt_zero,decide_false]
 by_cases hj:j<ops.size<;>simp[hj]
theorem Fe{id:Nat}{K:Act→Hp→Prop}{Q:Exit→Act→World→Prop}{a:Act}{w:World}
  (hQ:∀a' w',bZ w w'→K a' w'.heap→Q .normal a' w')(h:Kv P ops K (List.range ops.size) a w.heap):(Code.region id ops false).wp P Q a w:=
 wp_region (HR hQ _ _ _ (bZ.refl w) h)
inductive Ot where
 |done
 |step(i:Nat)(t:Ot)
 |aE(i:Nat)(t r:Ot)
 |stop
 deriving Inhabited
def iq(P:Program)(ops:Array Oper)(Inv:Hp→Prop)(st:Nat→Bool)(i:Nat)(K:Act→Hp→Prop)(a:Act)(H:Hp):Prop:=
 match ops[i]? with
 |none=>K a H
 |some o=>
  if Region.wanted o (yielded ops a.tmps)then
   match st i with
   |true=>∃v,(∀H',Inv H'→dO P o a H' fun v' Gu=>v'=v∧Gu=H')∧K (a.put o.dst v) H
   |false=>dO P o a H fun v H'=>Inv H'∧K (a.put o.dst v) H'
  else K (a.put o.dst undef) H
variable {Inv : Hp → Prop} {st : Nat → Bool}
theorem r9{i:Nat}{K K':Act→Hp→Prop}{a:Act}{H:Hp}(hI:Inv H)(hk:∀a H,Inv H→K a H→K' a H)
  (h:iq P ops Inv st i K a H):iq P ops Inv st i K' a H:=by
 unfold iq at*
 split
 ·exact hk _ _ hI (by simpa[*]using h)
 ·rename_i o ho
  simp only[ho]at h
  split
  ·rename_i hw
   rw[if_pos hw]at h
   cases hc:st i with
   |true=>rw[hc]at h;obtain⟨v,h1,h2⟩:=h;exact⟨v,h1,hk _ _ hI h2⟩
   |false=>rw[hc]at h;exact h.mono fun v H' ⟨k1,k2⟩=>⟨k1,hk _ _ k1 k2⟩
  ·rename_i hw;rw[if_neg hw]at h;exact hk _ _ hI h
theorem HU{i:Nat}{K:Act→Hp→Prop}{a:Act}{w:World}{K':Act→World→Prop}
  {Q:Exit→Act→World→Prop}(hI:Inv w.heap)(hk:∀a w',bZ w w'→Inv w'.heap→K a w'.heap→K' a w')(h:iq P ops Inv st i K a w.heap):wpOp P ops Q i K' a w:=by
 unfold iq at h
 unfold wpOp
 split
 ·rename_i ho;rw[ho]at h;exact hk _ _ (bZ.refl w) hI h
 ·rename_i o ho
  simp only[ho]at h
  split
  ·rename_i hw
   rw[if_pos hw]at h
   refine .inl ?_
   cases hc:st i with
   |true=>
    rw[hc]at h
    obtain⟨v,h1,h2⟩:=h
    exact(h1 w.heap hI).wp rfl fun v' w' hs ⟨e1,e2⟩=>by subst e1;exact hk _ _ hs (e2▸hI) (e2▸h2)
   |false=>rw[hc]at h;exact h.wp rfl fun v' w' hs ⟨k1,k2⟩=>hk _ _ hs k1 k2
  ·rename_i hw;rw[if_neg hw]at h;exact hk _ _ (bZ.refl w) hI h
def anyI(P:Program)(ops:Array Oper)(Inv:Hp→Prop)(st:Nat→Bool)(K:Act→Hp→Prop):Nat→Array Bool→Act→Hp→Prop
 |0,listed,a,H=>Region.ready .any ops listed=[]∧K a H
 |cS+1,listed,a,H=>
  (Region.ready .any ops listed=[]→K a H)∧
  ∀i∈Region.ready .any ops listed,iq P ops Inv st i (anyI P ops Inv st K cS (listed.setIfInBounds i true)) a H
theorem HV{K:Act→Hp→Prop}{Q:Exit→Act→World→Prop}{w₀:World}
  (hQ:∀a w,bZ w₀ w→K a w.heap→Q .normal a w):∀ (cS:Nat) (listed:Array Bool) (a:Act) (w:World),bZ w₀ w→Inv w.heap→
   anyI P ops Inv st K cS listed a w.heap→wpAny P .any ops Q cS listed a w:=by
 intro cS
 induction cS with
 |zero=>intro listed a w hs _ h;exact⟨h.1,hQ _ _ hs h.2⟩
 |succ cS ih=>
  intro listed a w hs hI h
  exact⟨fun hr=>hQ _ _ hs (h.1 hr),fun i hi=>HU hI (fun a' w' Dz Tv hk=>ih _ _ _ (hs.trans Dz) Tv hk) (h.2 i hi)⟩
theorem ab2{i j:Nat}{oi oj:Oper}(hi:ops[i]? =some oi)(hj:ops[j]? =some oj)(Ud:oi.apart ops oj=true)(tK:st i=true)
  (hsi:∀cs b,oi.op≠ .select cs b)(hsj:∀cs b,oj.op≠ .select cs b){K:Act→Hp→Prop}{a:Act}{H:Hp}
  (h:iq P ops Inv st i (fun a' H'=>iq P ops Inv st j K a' H') a H):iq P ops Inv st j (fun a' H'=>iq P ops Inv st i K a' H') a H:=by
 obtain⟨h1,h2,h3⟩:=Oper.apart_spec Ud
 have wi:∀u,Region.wanted oi (yielded ops (a.put oj.dst u).tmps)=Region.wanted oi (yielded ops a.tmps):=fun u=>wanted_put oi a oj.dst u h3
 have wj:∀u,Region.wanted oj (yielded ops (a.put oi.dst u).tmps)=Region.wanted oj (yielded ops a.tmps):=fun u=>wanted_put oj a oi.dst u h1
 have cm:∀v u,(a.put oi.dst v).put oj.dst u=(a.put oj.dst u).put oi.dst v:=fun v u=>Act.put_comm a v u h2
 unfold iq at*
 simp only[hi,hj,tK]at*
 simp only[wi,wj,cm,Bz (P:=P) hsi h3,Bz (P:=P) hsj h1]at*
 rcases jr (o:=oi) (y:=yielded ops a.tmps)with Ta|Ta<;>rcases jr (o:=oj) (y:=yielded ops a.tmps)with Uq|Uq<;>
  simp only[Ta,Uq,if_true,if_false,aox]at*
 ·cases XK:st j<;>simp only[XK]at h ⊢
  ·obtain⟨v,e1,k⟩:=h;exact k.mono fun u H' ⟨k1,k2⟩=>⟨k1,v,e1,k2⟩
  ·obtain⟨v,e1,u,e2,k⟩:=h;exact⟨u,e2,v,e1,k⟩
 ·exact h
 ·cases XK:st j<;>simp only[XK]at h ⊢ <;>exact h
 ·exact h
def iG(ops:Array Oper)(mH:Array Nat)(st:Nat→Bool)(listed:Array Bool)(i:Nat):Bool:=
 st i && match ops[i]? with
 |none=>false
 |some oi=>(List.range ops.size).all fun j=>j==i || listed.getD j false || (mH.getD j 0).testBit i ||
   match ops[j]? with
   |none=>false
   |some oj=>oi.apart ops oj
def SP(ops:Array Oper)(mH:Array Nat)(st:Nat→Bool):Ot→Array Bool→List Nat→Bool
 | .done,listed,_=>(Region.ready .any ops listed).isEmpty
 | .step i t,listed,_=>(Region.ready .any ops listed).contains i && iG ops mH st listed i && SP ops mH st t (listed.setIfInBounds i true) []
 | .aE i t r,listed,hd=>(Region.ready .any ops listed).contains i && SP ops mH st t (listed.setIfInBounds i true) [] && SP ops mH st r listed (i::hd)
 | .stop,listed,hd=> !(Region.ready .any ops listed).isEmpty && (Region.ready .any ops listed).all (hd.contains ·)
def Pa(P:Program)(ops:Array Oper)(Inv:Hp→Prop)(st:Nat→Bool)(K:Act→Hp→Prop):Ot→Act→Hp→Prop
 | .done,a,H=>K a H
 | .step i t,a,H=>iq P ops Inv st i (Pa P ops Inv st K t) a H
 | .aE i t r,a,H=>iq P ops Inv st i (Pa P ops Inv st K t) a H∧Pa P ops Inv st K r a H
 | .stop,_,_=>True
theorem Ql{listed:Array Bool}{i j:Nat}(h:listed.getD j false=true):(listed.setIfInBounds i true).getD j false=true:=getD_set_true h
theorem Gn{mH:Array Nat}{listed:Array Bool}{i j:Nat}(h:iG ops mH st listed i=true):iG ops mH st (listed.setIfInBounds j true) i=true:=by
 unfold iG at*
 rw[aol]at*
 refine⟨h.1,?_⟩
 have h:=h.2
 split at h
 ·cases h
 ·rename_i oi ho
  rw[aoA]at*
  intro k hk
  have:=h k hk
  simp only[ape]at this ⊢
  rcases this with ((h|h)|h)|h
  ·exact .inl (.inl (.inl h))
  ·exact .inl (.inl (.inr (Ql h)))
  ·exact .inl (.inr h)
  ·exact .inr h
theorem js{listed:Array Bool}{i:Nat}(h:i∈Region.ready .any ops listed):listed.getD i false=false:=by
 obtain⟨hun,_⟩:=mem_ready.1 h
 rcases aoL i listed.size with h'|h'
 ·simpa[h']using hun
 ·simp[aoJ h']
theorem Qm{mH:Array Nat}(C3:zV ops mH=true){K:Act→Hp→Prop}{i:Nat}{oi:Oper}(hi:ops[i]? =some oi)
  (C4:∀ (j:Nat) (o:Oper) cs b,ops[j]? =some o→o.op≠ .select cs b):
  ∀ (cS:Nat) (listed:Array Bool) (a:Act) (H:Hp),Inv H→uW ops listed→iG ops mH st listed i=true→
   i∈Region.ready .any ops listed→
   iq P ops Inv st i (anyI P ops Inv st K cS (listed.setIfInBounds i true)) a H→anyI P ops Inv st K (cS+1) listed a H:=by
 intro cS
 induction cS with
 |zero=>
  intro listed a H hI _ BA hr h
  refine⟨fun h0=>(by rw[h0]at hr;cases hr),fun j hj=>?_⟩
  by_cases Mh:j=i
  ·subst Mh;exact h
  ·exfalso
   have tK:st i=true:=by unfold iG at BA;rw[aol]at BA;exact BA.1
   have Gm:Region.ready .any ops (listed.setIfInBounds i true)=[]:=by
    unfold iq at h
    simp only[hi,tK]at h
    split at h
    ·obtain⟨v,_,k⟩:=h;exact k.1
    ·exact h.1
   have:=ready_mono hj Mh
   rw[Gm]at this
   cases this
 |succ cS ih=>
  intro listed a H hI nO BA hr h
  refine⟨fun h0=>(by rw[h0]at hr;cases hr),fun j hj=>?_⟩
  by_cases Mh:j=i
  ·subst Mh;exact h
  ·obtain⟨ab0,oj,Tb,db⟩:=mem_ready.1 hj
   have hjs:=js hj
   have his:=js hr
   have tK:st i=true:=by have hf:=BA;unfold iG at hf;rw[aol]at hf;exact hf.1
   have XL:(mH.getD j 0).testBit i=false:=by
    cases hb:(mH.getD j 0).testBit i with
    |false=>rfl
    |true=>have:=Gl C3 nO j oj Tb db hb;rw[his]at this;cases this
   have Ud:oi.apart ops oj=true:=by
    have hf:=BA
    unfold iG at hf
    rw[aol]at hf
    have hf:=hf.2
    rw[hi]at hf
    simp only at hf
    have aO:j<ops.size:=(aot.1 Tb).1
    have:=(aoA.1 hf) j (aoy.2 aO)
    have aP:(j==i)=false:=by simpa using Mh
    simp only[Tb,XL,hjs,aP,apE]at this
    exact this
   have h2:iq P ops Inv st i (fun a' H'=>iq P ops Inv st j (anyI P ops Inv st K cS ((listed.setIfInBounds i true).setIfInBounds j true)) a' H') a H:=
    r9 hI (fun a' H' _ hk=>hk.2 j (ready_mono hj Mh)) h
   have h3:=ab2 hi Tb Ud tK (fun cs b=>C4 i oi cs b hi) (fun cs b=>C4 j oj cs b Tb) h2
   refine r9 hI (fun a' H' Tv hk=>?_) h3
   refine ih (listed.setIfInBounds j true) a' H' Tv (nO.set hj) (Gn BA) (ready_mono hr (Ne.symm Mh)) ?_
   rw[Array.setIfInBounds_comm _ _ Mh];exact hk
theorem count_set:∀ (l:List Bool) (i:Nat),l[i]? =some false→(l.set i true).count false+1=l.count false:=by
 intro l
 induction l with
 |nil=>intro i h;simp at h
 |cons b l ih=>
  intro i h
  cases i with
  |zero=>
   simp only[anY,anE]at h
   subst h
   simp
  |succ i=>
   have:=ih i (by simpa using h)
   rw[aoe,apg,apg]
   omega
theorem BB{listed:Array Bool}{i cS:Nat}(hs:listed.size=ops.size)(hc:listed.toList.count false=cS)(h:i∈Region.ready .any ops listed):
  ∃f,cS=f+1∧(listed.setIfInBounds i true).toList.count false=f∧(listed.setIfInBounds i true).size=ops.size:=by
 have h1:=js h
 obtain⟨_,o,ho,_⟩:=mem_ready.1 h
 have aO:i<listed.size:=by rw[hs];exact(aot.1 ho).1
 have h2:listed.toList[i]? =some false:=by
  simp only[Array.getElem?_toList]
  simp[aO]at h1 ⊢
  exact h1
 have h3:=count_set _ i h2
 refine⟨(listed.setIfInBounds i true).toList.count false,?_,rfl,by simpa using hs⟩
 rw[Array.toList_setIfInBounds]
 omega
theorem JR{mH:Array Nat}(C3:zV ops mH=true)(C4:Region.noSelect ops=true){K:Act→Hp→Prop}:
  ∀ (t:Ot) (listed:Array Bool) (hd:List Nat) (cS:Nat) (a:Act) (H:Hp),SP ops mH st t listed hd=true→Inv H→uW ops listed→listed.size=ops.size→listed.toList.count false=cS→
   (∀i∈hd,i∈Region.ready .any ops listed→∃f,cS=f+1∧iq P ops Inv st i (anyI P ops Inv st K f (listed.setIfInBounds i true)) a H)→Pa P ops Inv st K t a H→anyI P ops Inv st K cS listed a H:=by
 intro t
 induction t with
 |done=>
  intro listed hd cS a H tS _ _ _ _ _ h
  simp only[SP,List.isEmpty_iff]at tS
  cases cS with
  |zero=>exact⟨tS,h⟩
  |succ cS=>exact⟨fun _=>h,fun i hi=>by rw[tS]at hi;cases hi⟩
 |step i t ih=>
  intro listed hd cS a H tS hI nO hs hc _ h
  simp only[SP,aol,List.contains_iff_mem]at tS
  obtain⟨⟨hr,BA⟩,tS⟩:=tS
  obtain⟨f,rfl,Kl,Dz⟩:=BB hs hc hr
  obtain⟨_,o,ho,_⟩:=mem_ready.1 hr
  refine Qm C3 ho (Region.noSelect_spec C4) f listed a H hI nO BA hr ?_
  refine r9 hI (fun a' H' Tv hk=>?_) h
  exact ih _ [] f a' H' tS Tv (nO.set hr) Dz Kl (fun i hi=>by cases hi) hk
 |aE i t r iht Z5=>
  intro listed hd cS a H tS hI nO hs hc TZ h
  simp only[SP,aol,List.contains_iff_mem]at tS
  obtain⟨⟨hr,agT⟩,agU⟩:=tS
  obtain⟨f,rfl,Kl,Dz⟩:=BB hs hc hr
  refine Z5 listed (i::hd) (f+1) a H agU hI nO hs hc ?_ h.2
  intro j hj hjr
  rcases anF.1 hj with rfl|hj
  ·refine⟨f,rfl,r9 hI (fun a' H' Tv hk=>?_) h.1⟩
   exact iht _ [] f a' H' agT Tv (nO.set hr) Dz Kl (fun i hi=>by cases hi) hk
  ·exact TZ j hj hjr
 |stop=>
  intro listed hd cS a H tS hI nO hs hc TZ _
  simp only[SP,aol,aoA,List.contains_iff_mem]at tS
  obtain⟨aP,db⟩:=tS
  by_cases hre:Region.ready .any ops listed=[]
  ·exact absurd (List.isEmpty_iff.2 hre) (by simpa using aP)
  ·obtain⟨i,hi⟩:=List.exists_mem_of_ne_nil _ hre
   obtain⟨f,rfl,_⟩:=TZ i (db i hi) hi
   refine⟨fun h0=>absurd h0 hre,fun j hj=>?_⟩
   obtain⟨f',e,h⟩:=TZ j (db j hj) hj
   have:f'=f:=by omega
   subst this
   exact h
theorem Fc{id:Nat}{mH:Array Nat}{t:Ot}(hm:P.follows .mixedOrders=true)(C3:zV ops mH=true)(tS:SP ops mH st t (Array.replicate ops.size false) []=true)
  (C4:Region.noSelect ops=true){K:Act→Hp→Prop}{Q:Exit→Act→World→Prop}{a:Act}{w:World}(hI:Inv w.heap)
  (hQ:∀a' w',bZ w w'→K a' w'.heap→Q .normal a' w')(h:Pa P ops Inv st K t a w.heap):(Code.region id ops true).wp P Q a w:=by
 refine wp_region_any hm ?_
 refine HV (Inv:=Inv) (st:=st) (K:=K) (w₀:=w) hQ _ _ _ _ ⟨rfl,rfl⟩ hI ?_
 refine JR C3 C4 t _ [] _ _ _ tS hI ?_ (by simp) (by simp) (fun i hi=>by cases hi) h
 intro k ok _ hl
 exfalso
 by_cases hk:k<ops.size<;>simp[hk]at hl
end
end Go.Vc
