/- Texts put behind each other. -/
import Derived.Test.YtjlnnljohemifaaGreatK98
import Derived.Orders
import Derived.Laws.Sem
import Derived.Laws.World
import Derived.KernelRfl
namespace Go.Vc
structure Tag{α:Sort _}(F:α):Type where
abbrev Hp:=Array Obj
structure bZ(w w':World):Prop where
 os:w'.os=w.os
 output:w'.output=w.output
theorem bZ.refl(w:World):bZ w w:=⟨rfl,rfl⟩
theorem bZ.trans{a b c:World}(h:bZ a b)(k:bZ b c):bZ a c:=⟨k.os.trans h.os,k.output.trans h.output⟩
def ah(P:Program)(f:FuncId)(args:List Value)(H:Hp)(K:Value→Hp→Prop)(_t:Tag K:=⟨⟩):Prop:=
 ∀w,w.heap=H→Calls P f args.toArray w fun e w'=>∃v,e= .returned v∧bZ w w'∧K v w'.heap
theorem ah.mono{P:Program}{f:FuncId}{args:List Value}{H:Hp}{K K':Value→Hp→Prop}(h:ah P f args H K)(hk:∀v H',K v H'→K' v H'):
  ah P f args H K':=
 fun w hw=>(h w hw).mono fun _ _ ⟨v,e,s,k⟩=>⟨v,e,s,hk _ _ k⟩
def dV(P:Program)(o:Oper)(a:Act)(H:Hp)(K:Value→Hp→Prop):Prop:=
 ∀w,w.heap=H→
  (∃v w',(execOp a.eval o).run P w= .ok (.value v) w'∧bZ w w'∧K v w'.heap)∨
  (∃w',(execOp a.eval o).run P w= .ok .skip w'∧bZ w w'∧K undef w'.heap)∨
  (∃f args w',(execOp a.eval o).run P w= .ok (.enter f args) w'∧bZ w w'∧ah P f args.toList w'.heap K)
theorem dV.mono{P:Program}{o:Oper}{a:Act}{H:Hp}{K K':Value→Hp→Prop}(h:dV P o a H K)(hk:∀v H',K v H'→K' v H'):dV P o a H K':=by
 intro w hw
 rcases h w hw with ⟨v,w',h1,h2,h3⟩| ⟨w',h1,h2,h3⟩| ⟨f,args,w',h1,h2,h3⟩
 ·exact .inl ⟨v,w',h1,h2,hk _ _ h3⟩
 ·exact .inr (.inl ⟨w',h1,h2,hk _ _ h3⟩)
 ·exact .inr (.inr ⟨f,args,w',h1,h2,h3.mono hk⟩)
theorem dV.wp{P:Program}{o:Oper}{a:Act}{H:Hp}{K:Value→Hp→Prop}{next:Act→World→Prop}{Q:Exit→Act→World→Prop}{w:World}
  (h:dV P o a H K)(hw:w.heap=H)(hn:∀v w',bZ w w'→K v w'.heap→next (a.put o.dst v) w'):o.wp P a w next Q:=by
 unfold Oper.wp
 rcases h w hw with ⟨v,w',h1,h2,h3⟩| ⟨w',h1,h2,h3⟩| ⟨f,args,w',h1,h2,h3⟩
 ·rw[h1];exact hn _ _ h2 h3
 ·rw[h1];exact hn _ _ h2 h3
 ·rw[h1]
  have h4:=h3 w' rfl
  simp only[anB]at h4
  show Calls P f args w' _
  refine h4.mono fun e w'' he=>?_
  obtain⟨v,rfl,hs,hk⟩:=he
  exact hn _ _ (h2.trans hs) hk
def LF(P:Program)(ops:Array Oper)(K:Act→Hp→Prop):List Nat→Act→Hp→Prop
 | [],a,H=>K a H
 |i::r,a,H=>
  match ops[i]? with
  |none=>LF P ops K r a H
  |some o=>if Region.wanted o (yielded ops a.tmps)then dV P o a H (fun v H'=>LF P ops K r (a.put o.dst v) H')else LF P ops K r (a.put o.dst undef) H
theorem IF{P:Program}{ops:Array Oper}{K:Act→Hp→Prop}{Q:Exit→Act→World→Prop}{w₀:World}
  (hQ:∀a w,bZ w₀ w→K a w.heap→Q .normal a w):∀ (l:List Nat) (a:Act) (w:World),bZ w₀ w→LF P ops K l a w.heap→wpOps P ops Q l a w:=by
 intro l
 induction l with
 |nil=>intro a w hs h;exact hQ a w hs h
 |cons i r ih=>
  intro a w hs h
  simp only[wpOps,LF]at*
  cases ho:ops[i]? with
  |none=>rw[ho]at h;exact ih _ _ hs h
  |some o=>
   rw[ho]at h
   simp only at h ⊢
   split
   ·rename_i hw
    rw[if_pos hw]at h
    exact .inl (h.wp rfl fun v w' Fo hk=>ih _ _ (hs.trans Fo) hk)
   ·rename_i hw
    rw[if_neg hw]at h
    exact ih _ _ hs h
inductive LG where
 |pure|quiet|IG
 deriving DecidableEq,Inhabited
def mG(P:Program)(ops:Array Oper)(cls:Nat→LG)(i:Nat)(K:Act→Hp→Prop)(a:Act)(H:Hp):Prop:=
 match ops[i]? with
 |none=>K a H
 |some o=>
  if Region.wanted o (yielded ops a.tmps)then
   match cls i with
   | .pure=>∃v,(∀w,(execOp a.eval o).run P w= .ok (.value v) w)∧K (a.put o.dst v) H
   | .quiet=>∃v,dV P o a H (fun v' H'=>v'=v∧H'=H)∧K (a.put o.dst v) H
   | .IG=>dV P o a H fun v H'=>K (a.put o.dst v) H'
  else K (a.put o.dst undef) H
theorem AZ{P:Program}{ops:Array Oper}{cls:Nat→LG}{i:Nat}{K K':Act→Hp→Prop}{a:Act}{H:Hp}(hk:∀a H,K a H→K' a H)
  (h:mG P ops cls i K a H):mG P ops cls i K' a H:=by
 unfold mG at*
 split
 ·exact hk _ _ (by simpa[*]using h)
 ·rename_i o ho
  simp only[ho]at h
  split
  ·rename_i hw
   rw[if_pos hw]at h
   cases hc:cls i with
   |pure=>rw[hc]at h;obtain⟨v,h1,h2⟩:=h;exact⟨v,h1,hk _ _ h2⟩
   |quiet=>rw[hc]at h;obtain⟨v,h1,h2⟩:=h;exact⟨v,h1,hk _ _ h2⟩
   |IG=>rw[hc]at h;exact h.mono fun v H'=>hk _ _
  ·rename_i hw;rw[if_neg hw]at h;exact hk _ _ h
theorem Cl{P:Program}{o:Oper}{a:Act}{v:Value}(h:∀w,(execOp a.eval o).run P w= .ok (.value v) w)(H:Hp):
  dV P o a H fun v' H'=>v'=v∧H'=H:=fun w hw=>.inl ⟨v,w,h w,bZ.refl w,rfl,hw⟩
theorem IH{P:Program}{ops:Array Oper}{cls:Nat→LG}{i:Nat}{K:Act→Hp→Prop}{a:Act}{w:World}{K':Act→World→Prop}
  {Q:Exit→Act→World→Prop}(hk:∀a w',bZ w w'→K a w'.heap→K' a w')(h:mG P ops cls i K a w.heap):wpOp P ops Q i K' a w:=by
 unfold mG at h
 unfold wpOp
 split
 ·rename_i ho;rw[ho]at h;exact hk _ _ (bZ.refl w) h
 ·rename_i o ho
  simp only[ho]at h
  split
  ·rename_i hw
   rw[if_pos hw]at h
   refine .inl ?_
   cases hc:cls i with
   |pure=>
    rw[hc]at h
    obtain⟨v,h1,h2⟩:=h
    exact(Cl h1 w.heap).wp rfl fun v' w' hs ⟨e1,e2⟩=>by subst e1;exact hk _ _ hs (e2▸h2)
   |quiet=>
    rw[hc]at h
    obtain⟨v,h1,h2⟩:=h
    exact h1.wp rfl fun v' w' hs ⟨e1,e2⟩=>by subst e1;exact hk _ _ hs (e2▸h2)
   |IG=>rw[hc]at h;exact h.wp rfl fun v' w' hs PI=>hk _ _ hs PI
  ·rename_i hw;rw[if_neg hw]at h;exact hk _ _ (bZ.refl w) h
def PL(P:Program)(ops:Array Oper)(cls:Nat→LG)(K:Act→Hp→Prop):Nat→Array Bool→Act→Hp→Prop
 |0,listed,a,H=>Region.ready .any ops listed=[]∧K a H
 |cW+1,listed,a,H=>
  (Region.ready .any ops listed=[]→K a H)∧
  ∀i∈Region.ready .any ops listed,mG P ops cls i (PL P ops cls K cW (listed.setIfInBounds i true)) a H
theorem II{P:Program}{ops:Array Oper}{cls:Nat→LG}{K:Act→Hp→Prop}{Q:Exit→Act→World→Prop}{w₀:World}
  (hQ:∀a w,bZ w₀ w→K a w.heap→Q .normal a w):∀ (cW:Nat) (listed:Array Bool) (a:Act) (w:World),bZ w₀ w→
   PL P ops cls K cW listed a w.heap→wpAny P .any ops Q cW listed a w:=by
 intro cW
 induction cW with
 |zero=>intro listed a w hs h;exact⟨h.1,hQ _ _ hs h.2⟩
 |succ cW ih=>
  intro listed a w hs h
  exact⟨fun hr=>hQ _ _ hs (h.1 hr),fun i hi=>IH (fun a' w' Fo hk=>ih _ _ _ (hs.trans Fo) hk) (h.2 i hi)⟩
def LG.OR:LG→LG→Bool
 | .pure,_=>true
 |_,.pure=>true
 | .quiet,.quiet=>true
 |_,_=>false
section
variable {P : Program} {ops : Array Oper} {cls : Nat → LG}
theorem Cm(H:Hp):∃w:World,w.heap=H:=⟨{ (default:World)with heap:=H},rfl⟩
theorem lP{o:Oper}{y:Nat→Option Bool}:Region.wanted o y=true∨Region.wanted o y=false:=by cases Region.wanted o y<;>simp
theorem Cn{o:Oper}{a:Act}{dst:Option Tmp}{u:Value}(hs:∀cs b,o.op≠ .select cs b)(h:∀d,dst=some d→d∉o.looksAt ops){H:Hp}{K:Value→Hp→Prop}:
  dV P o (a.put dst u) H K↔dV P o a H K:=by
 unfold dV
 rw[execOp_put (ops:=ops) o hs a dst u h]
theorem Z2{i j:Nat}{oi oj:Oper}(hi:ops[i]? =some oi)(hj:ops[j]? =some oj)(T4:oi.apart ops oj=true)(Wj:(cls i).OR (cls j)=true)
  (hsi:∀cs b,oi.op≠ .select cs b)(Z3:∀cs b,oj.op≠ .select cs b){K:Act→Hp→Prop}{a:Act}{H:Hp}
  (h:mG P ops cls i (fun a' H'=>mG P ops cls j K a' H') a H):mG P ops cls j (fun a' H'=>mG P ops cls i K a' H') a H:=by
 obtain⟨h1,h2,h3⟩:=Oper.apart_spec T4
 have wi:∀u,Region.wanted oi (yielded ops (a.put oj.dst u).tmps)=Region.wanted oi (yielded ops a.tmps):=fun u=>wanted_put oi a oj.dst u h3
 have wj:∀u,Region.wanted oj (yielded ops (a.put oi.dst u).tmps)=Region.wanted oj (yielded ops a.tmps):=fun u=>wanted_put oj a oi.dst u h1
 have ei:∀u,execOp (a.put oj.dst u).eval oi=execOp a.eval oi:=fun u=>execOp_put oi hsi a oj.dst u h3
 have ej:∀u,execOp (a.put oi.dst u).eval oj=execOp a.eval oj:=fun u=>execOp_put oj Z3 a oi.dst u h1
 have cm:∀v u,(a.put oi.dst v).put oj.dst u=(a.put oj.dst u).put oi.dst v:=fun v u=>Act.put_comm a v u h2
 unfold mG at*
 simp only[hi,hj]at*
 simp only[wi,wj,ei,ej,cm,Cn (P:=P) hsi h3,Cn (P:=P) Z3 h1]at*
 rcases lP (o:=oi) (y:=yielded ops a.tmps)with Z4|Z4<;>rcases lP (o:=oj) (y:=yielded ops a.tmps)with Z5|Z5<;>
  simp only[Z4,Z5,if_true,if_false,anb]at*
 ·cases Wk:cls i<;>cases Wl:cls j<;>simp only[Wk,Wl,LG.OR,anb]at h Wj ⊢
  ·obtain⟨v,e1,u,e2,k⟩:=h;exact⟨u,e2,v,e1,k⟩
  ·obtain⟨v,e1,u,e2,k⟩:=h;exact⟨u,e2,v,e1,k⟩
  ·obtain⟨v,e1,k⟩:=h;exact k.mono fun u H' k'=>⟨v,e1,k'⟩
  ·obtain⟨v,e1,u,e2,k⟩:=h;exact⟨u,e2,v,e1,k⟩
  ·obtain⟨v,e1,u,e2,k⟩:=h;exact⟨u,e2,v,e1,k⟩
  ·obtain⟨w,hw⟩:=Cm H
   have pick:∃u,∀w,(execOp a.eval oj).run P w= .ok (.value u) w:=by
    rcases h w hw with ⟨v,w',_,_,u,e,_⟩| ⟨w',_,_,u,e,_⟩| ⟨f,args,w',_,_,hc⟩
    ·exact⟨u,e⟩
    ·exact⟨u,e⟩
    ·obtain⟨e,w'',fr,⟨v,_,_,u,eu,_⟩,_⟩:=hc w' rfl []
     exact⟨u,eu⟩
   obtain⟨u,eu⟩:=pick
   refine⟨u,eu,h.mono fun v H' ⟨u',eu',k⟩=>?_⟩
   have:=eu w
   rw[eu' w]at this
   injection this with h1 h2
   injection h1 with h1
   exact h1▸k
 ·cases Wk:cls i<;>simp only[Wk]at h ⊢ <;>exact h
 ·cases Wl:cls j<;>simp only[Wl]at h ⊢ <;>exact h
 ·exact h
def xf(ops:Array Oper)(listed:Array Bool):Prop:=
 ∀k ok,ops[k]? =some ok→listed.getD k false=true→∀e∈ok.after,Region.binds .any e=true→listed.getD e.on false=true
theorem xf.set{listed:Array Bool}(h:xf ops listed){i:Nat}(hi:i∈Region.ready .any ops listed):xf ops (listed.setIfInBounds i true):=by
 intro k ok hk hl e he hb
 by_cases hik:i=k
 ·subst hik
  obtain⟨_,o,ho,fZ⟩:=mem_ready.1 hi
  rw[hk]at ho
  injection ho with ho
  subst ho
  exact getD_set_true (fZ e he hb)
 ·rw[getD_set_ne false hik]at hl
  exact getD_set_true (h k ok hk hl e he hb)
def up(pL:Array Nat)(o:Oper):Nat:=o.after.toList.foldl (fun s e=>if Region.binds .any e then s ||| (2^e.on |||pL.getD e.on 0)else s) 0
theorem Nk{pL:Array Nat}{i:Nat}:∀ (l:List Edge) (s:Nat),
  (l.foldl (fun s e=>if Region.binds .any e then s ||| (2^e.on |||pL.getD e.on 0)else s) s).testBit i=true→
   s.testBit i=true∨∃e∈l,Region.binds .any e=true∧(e.on=i∨(pL.getD e.on 0).testBit i=true):=by
 intro l
 induction l with
 |nil=>intro s h;exact .inl h
 |cons e l ih=>
  intro s h
  rw[List.foldl_cons]at h
  rcases ih _ h with h| ⟨x,hx,h⟩
  ·split at h
   ·rename_i hb
    rw[Nat.testBit_or,Nat.testBit_or,Nat.testBit_two_pow]at h
    simp only[Bool.or_eq_true,amQ]at h
    rcases h with h|h|h
    ·exact .inl h
    ·exact .inr ⟨e,amZ,hb,.inl h⟩
    ·exact .inr ⟨e,amZ,hb,.inr h⟩
   ·exact .inl h
  ·exact .inr ⟨x,amK _ hx,h⟩
def Co(ops:Array Oper)(pL:Array Nat):Bool:=
 (List.range ops.size).all fun j=>
  match ops[j]? with
  |none=>false
  |some oj=>oj.after.all (fun e=> !Region.binds .any e || decide (e.on<j)) && (pL.getD j 0 |||up pL oj==up pL oj)
theorem GA{pL:Array Nat}(h:Co ops pL=true){listed:Array Bool}(hc:xf ops listed){i:Nat}:∀ (j:Nat) (oj:Oper),ops[j]? =some oj→
  (∀e∈oj.after,Region.binds .any e=true→listed.getD e.on false=true)→(pL.getD j 0).testBit i=true→listed.getD i false=true:=by
 intro j
 induction j using Nat.strongRecOn with
 |_ j ih=>
  intro oj hj fZ hb
  have aR:j<ops.size:=(am0.1 hj).1
  have h1:=(anl.1 h) j (am2.2 aR)
  simp only[hj,amX,beq_iff_eq]at h1
  obtain⟨Wm,KY⟩:=h1
  have hu:(up pL oj).testBit i=true:=by rw[←KY,Nat.testBit_or,hb,Bool.true_or]
  rcases Nk _ _ hu with h0| ⟨e,he,hbd,h2⟩
  ·simp at h0
  ·have hem:e∈oj.after:=by simpa using he
   have hl:=fZ e hem hbd
   rcases h2 with h2|h2
   ·exact h2▸hl
   ·have aeh:e.on<j:=by
     have:=(ant.1 Wm) e hem
     simpa[hbd]using this
    cases hoe:ops[e.on]? with
    |none=>
     have:ops.size≤e.on:=by simpa using hoe
     omega
    |some oe=>exact ih e.on aeh oe hoe (hc e.on oe hoe hl) h2
def Cp(ops:Array Oper)(pL:Array Nat)(cls:Nat→LG):Bool:=
 (List.range ops.size).all fun j=>
  match ops[j]? with
  |none=>false
  |some oj=>(List.range j).all fun i=>(pL.getD j 0).testBit i ||
    match ops[i]? with
    |none=>false
    |some oi=>oi.apart ops oj && (cls i).OR (cls j)
theorem Ka{pL:Array Nat}(h:Cp ops pL cls=true){i j:Nat}{oi oj:Oper}(hi:ops[i]? =some oi)(hj:ops[j]? =some oj)(KZ:i<j)
  (hn:(pL.getD j 0).testBit i=false):oi.apart ops oj=true∧(cls i).OR (cls j)=true:=by
 have aR:j<ops.size:=(am0.1 hj).1
 have h1:=(anl.1 h) j (am2.2 aR)
 simp only[hj,anl,am2]at h1
 have h2:=h1 i KZ
 simp only[hi,hn,aoc,amX]at h2
 exact h2
theorem Nl{pL:Array Nat}(DQ:Co ops pL=true)(Wj:Cp ops pL cls=true){K:Act→Hp→Prop}{i:Nat}{oi:Oper}(hi:ops[i]? =some oi)
  (DR:∀ (j:Nat) (o:Oper) cs b,ops[j]? =some o→o.op≠ .select cs b):
  ∀ (cW:Nat) (listed:Array Bool) (a:Act) (H:Hp),xf ops listed→(∀j,j<i→listed.getD j false=true)→
   i∈Region.ready .any ops listed→
   mG P ops cls i (PL P ops cls K cW (listed.setIfInBounds i true)) a H→PL P ops cls K (cW+1) listed a H:=by
 intro cW
 induction cW with
 |zero=>
  intro listed a H _ _ hr h
  refine⟨fun h0=>(by rw[h0]at hr;cases hr),fun j hj=>?_⟩
  by_cases MP:j=i
  ·subst MP;exact h
  ·exfalso
   have GB:Region.ready .any ops (listed.setIfInBounds i true)=[]:=by
    unfold mG at h
    simp only[hi]at h
    split at h
    ·cases hc:cls i<;>simp only[hc]at h
     ·obtain⟨v,_,k⟩:=h;exact k.1
     ·obtain⟨v,_,k⟩:=h;exact k.1
     ·obtain⟨w,hw⟩:=Cm H
      rcases h w hw with ⟨v,w',_,_,k⟩| ⟨w',_,_,k⟩| ⟨f,args,w',_,_,hc⟩
      ·exact k.1
      ·exact k.1
      ·obtain⟨e,w'',fr,⟨v,_,_,k⟩,_⟩:=hc w' rfl []
       exact k.1
    ·exact h.1
   have:=ready_mono hj MP
   rw[GB]at this
   cases this
 |succ cW ih=>
  intro listed a H rq RS hr h
  refine⟨fun h0=>(by rw[h0]at hr;cases hr),fun j hj=>?_⟩
  by_cases MP:j=i
  ·subst MP;exact h
  ·obtain⟨Z6,oj,Ty,fZ⟩:=mem_ready.1 hj
   have aej:=(mem_ready.1 hr).1
   have hjs:listed.getD j false=false:=by
    rcases anh j listed.size with h'|h'
    ·simpa[h']using Z6
    ·simp[anf h']
   have his:listed.getD i false=false:=by
    rcases anh i listed.size with h'|h'
    ·simpa[h']using aej
    ·simp[anf h']
   have KZ:i<j:=by
    rcases anh i j with h'|h'
    ·exact h'
    ·have h1:=RS j (by omega)
     rw[hjs]at h1;cases h1
   have Wn:(pL.getD j 0).testBit i=false:=by
    cases hb:(pL.getD j 0).testBit i with
    |false=>rfl
    |true=>have:=GA DQ rq j oj Ty fZ hb;rw[his]at this;cases this
   obtain⟨T4,Z7⟩:=Ka Wj hi Ty KZ Wn
   have h2:mG P ops cls i (fun a' H'=>mG P ops cls j (PL P ops cls K cW ((listed.setIfInBounds i true).setIfInBounds j true)) a' H') a H:=
    AZ (fun a' H' hk=>hk.2 j (ready_mono hj MP)) h
   have h3:=Z2 hi Ty T4 Z7 (fun cs b=>DR i oi cs b hi) (fun cs b=>DR j oj cs b Ty) h2
   refine AZ (fun a' H' hk=>?_) h3
   refine ih (listed.setIfInBounds j true) a' H' (rq.set hj) (fun k PI=>getD_set_true (RS k PI)) (ready_mono hr (Ne.symm MP)) ?_
   rw[Array.setIfInBounds_comm _ _ MP];exact hk
def RT(P:Program)(ops:Array Oper)(cls:Nat→LG)(K:Act→Hp→Prop):List Nat→Act→Hp→Prop
 | [],a,H=>K a H
 |i::r,a,H=>mG P ops cls i (RT P ops cls K r) a H
theorem Kb{pL:Array Nat}(DQ:Co ops pL=true)(Wj:Cp ops pL cls=true)(DR:Region.noSelect ops=true){K:Act→Hp→Prop}:
  ∀ (m k:Nat) (listed:Array Bool) (a:Act) (H:Hp),k+m=ops.size→listed.size=ops.size→(∀j,listed.getD j false=decide (j<k))→
   RT P ops cls K (List.range' k m) a H→PL P ops cls K m listed a H:=by
 intro m
 induction m with
 |zero=>
  intro k listed a H hk hs hl h
  refine⟨?_,h⟩
  refine List.eq_nil_iff_forall_not_mem.2 fun j hj=>?_
  obtain⟨h0,o,ho,_⟩:=mem_ready.1 hj
  have aR:j<ops.size:=(am0.1 ho).1
  have h1:=hl j
  rw[amj (by omega)]at h1
  simp[show j<listed.size by omega]at h0 h1
  rw[h0]at h1;cases h1
 |succ m ih=>
  intro k listed a H hk hs hl h
  have aR:k<ops.size:=by omega
  obtain⟨o,ho⟩:∃o,ops[k]? =some o:=⟨ops[k],by simp[aR]⟩
  have T5:xf ops listed:=by
   intro x ox hx Vh e he hb
   have jq:x<ops.size:=(am0.1 hx).1
   have h1:=(anl.1 DQ) x (am2.2 jq)
   simp only[hx,amX]at h1
   have h2:=(ant.1 h1.1) e he
   simp only[hb,Bool.not_true,aoc,amQ]at h2
   rw[hl x,amQ]at Vh
   rw[hl e.on]
   exact amj (by omega)
  have GB:k∈Region.ready .any ops listed:=by
   refine mem_ready.2 ⟨?_,o,ho,fun e he hb=>?_⟩
   ·have h1:=hl k
    rw[amm (by omega)]at h1
    simpa[show k<listed.size by omega]using h1
   ·have h1:=(anl.1 DQ) k (am2.2 aR)
    simp only[ho,amX]at h1
    have h2:=(ant.1 h1.1) e he
    simp only[hb,Bool.not_true,aoc,amQ]at h2
    rw[hl e.on];exact amj h2
  refine Nl DQ Wj ho (Region.noSelect_spec DR) m listed a H T5 (fun j hj=>by rw[hl j];exact amj hj) GB ?_
  rw[List.range'_succ]at h
  simp only[RT]at h
  refine AZ (fun a' H' PI=>ih (k+1) _ a' H' (by omega) (by simpa using hs) (fun j=>?_) PI) h
  by_cases Yz:k=j
  ·subst Yz
   simp[show k<listed.size by omega]
  ·rw[getD_set_ne false Yz,hl j]
   by_cases hjk:j<k
   ·rw[amj hjk,amj (by omega)]
   ·rw[amm hjk,amm (by omega)]
theorem GC{id:Nat}{pL:Array Nat}(hm:P.follows .mixedOrders=true)(DQ:Co ops pL=true)(Wj:Cp ops pL cls=true)
  (DR:Region.noSelect ops=true){K:Act→Hp→Prop}{Q:Exit→Act→World→Prop}{a:Act}{w:World}
  (hQ:∀a' w',bZ w w'→K a' w'.heap→Q .normal a' w')(h:RT P ops cls K (List.range ops.size) a w.heap):(Code.region id ops true).wp P Q a w:=by
 refine wp_region_any hm ?_
 refine II (cls:=cls) (K:=K) (w₀:=w) hQ _ _ _ _ ⟨rfl,rfl⟩ ?_
 refine Kb DQ Wj DR ops.size 0 _ _ _ (by omega) (by simp) (fun j=>?_) (by rw[List.range_eq_range']at h;exact h)
 simp only[Nat.not_lt_zero,decide_false]
 by_cases hj:j<ops.size<;>simp[hj]
theorem GD{id:Nat}{K:Act→Hp→Prop}{Q:Exit→Act→World→Prop}{a:Act}{w:World}
  (hQ:∀a' w',bZ w w'→K a' w'.heap→Q .normal a' w')(h:LF P ops K (List.range ops.size) a w.heap):(Code.region id ops false).wp P Q a w:=
 wp_region (IF hQ _ _ _ (bZ.refl w) h)
inductive Ot where
 |done
 |step(i:Nat)(t:Ot)
 |aP(i:Nat)(t r:Ot)
 |stop
 deriving Inhabited
def kE(P:Program)(ops:Array Oper)(Inv:Hp→Prop)(st:Nat→Bool)(i:Nat)(K:Act→Hp→Prop)(a:Act)(H:Hp):Prop:=
 match ops[i]? with
 |none=>K a H
 |some o=>
  if Region.wanted o (yielded ops a.tmps)then
   match st i with
   |true=>∃v,(∀H',Inv H'→dV P o a H' fun v' GF=>v'=v∧GF=H')∧K (a.put o.dst v) H
   |false=>dV P o a H fun v H'=>Inv H'∧K (a.put o.dst v) H'
  else K (a.put o.dst undef) H
variable {Inv : Hp → Prop} {st : Nat → Bool}
theorem uA{i:Nat}{K K':Act→Hp→Prop}{a:Act}{H:Hp}(hI:Inv H)(hk:∀a H,Inv H→K a H→K' a H)
  (h:kE P ops Inv st i K a H):kE P ops Inv st i K' a H:=by
 unfold kE at*
 split
 ·exact hk _ _ hI (by simpa[*]using h)
 ·rename_i o ho
  simp only[ho]at h
  split
  ·rename_i hw
   rw[if_pos hw]at h
   cases hc:st i with
   |true=>rw[hc]at h;obtain⟨v,h1,h2⟩:=h;exact⟨v,h1,hk _ _ hI h2⟩
   |false=>rw[hc]at h;exact h.mono fun v H' ⟨k1,k2⟩=>⟨k1,hk _ _ k1 k2⟩
  ·rename_i hw;rw[if_neg hw]at h;exact hk _ _ hI h
theorem IJ{i:Nat}{K:Act→Hp→Prop}{a:Act}{w:World}{K':Act→World→Prop}
  {Q:Exit→Act→World→Prop}(hI:Inv w.heap)(hk:∀a w',bZ w w'→Inv w'.heap→K a w'.heap→K' a w')(h:kE P ops Inv st i K a w.heap):wpOp P ops Q i K' a w:=by
 unfold kE at h
 unfold wpOp
 split
 ·rename_i ho;rw[ho]at h;exact hk _ _ (bZ.refl w) hI h
 ·rename_i o ho
  simp only[ho]at h
  split
  ·rename_i hw
   rw[if_pos hw]at h
   refine .inl ?_
   cases hc:st i with
   |true=>
    rw[hc]at h
    obtain⟨v,h1,h2⟩:=h
    exact(h1 w.heap hI).wp rfl fun v' w' hs ⟨e1,e2⟩=>by subst e1;exact hk _ _ hs (e2▸hI) (e2▸h2)
   |false=>rw[hc]at h;exact h.wp rfl fun v' w' hs ⟨k1,k2⟩=>hk _ _ hs k1 k2
  ·rename_i hw;rw[if_neg hw]at h;exact hk _ _ (bZ.refl w) hI h
def anyI(P:Program)(ops:Array Oper)(Inv:Hp→Prop)(st:Nat→Bool)(K:Act→Hp→Prop):Nat→Array Bool→Act→Hp→Prop
 |0,listed,a,H=>Region.ready .any ops listed=[]∧K a H
 |cW+1,listed,a,H=>
  (Region.ready .any ops listed=[]→K a H)∧
  ∀i∈Region.ready .any ops listed,kE P ops Inv st i (anyI P ops Inv st K cW (listed.setIfInBounds i true)) a H
theorem IK{K:Act→Hp→Prop}{Q:Exit→Act→World→Prop}{w₀:World}
  (hQ:∀a w,bZ w₀ w→K a w.heap→Q .normal a w):∀ (cW:Nat) (listed:Array Bool) (a:Act) (w:World),bZ w₀ w→Inv w.heap→
   anyI P ops Inv st K cW listed a w.heap→wpAny P .any ops Q cW listed a w:=by
 intro cW
 induction cW with
 |zero=>intro listed a w hs _ h;exact⟨h.1,hQ _ _ hs h.2⟩
 |succ cW ih=>
  intro listed a w hs hI h
  exact⟨fun hr=>hQ _ _ hs (h.1 hr),fun i hi=>IJ hI (fun a' w' Fo T6 hk=>ih _ _ _ (hs.trans Fo) T6 hk) (h.2 i hi)⟩
theorem Z8{i j:Nat}{oi oj:Oper}(hi:ops[i]? =some oi)(hj:ops[j]? =some oj)(T4:oi.apart ops oj=true)(uB:st i=true)
  (hsi:∀cs b,oi.op≠ .select cs b)(Z3:∀cs b,oj.op≠ .select cs b){K:Act→Hp→Prop}{a:Act}{H:Hp}
  (h:kE P ops Inv st i (fun a' H'=>kE P ops Inv st j K a' H') a H):kE P ops Inv st j (fun a' H'=>kE P ops Inv st i K a' H') a H:=by
 obtain⟨h1,h2,h3⟩:=Oper.apart_spec T4
 have wi:∀u,Region.wanted oi (yielded ops (a.put oj.dst u).tmps)=Region.wanted oi (yielded ops a.tmps):=fun u=>wanted_put oi a oj.dst u h3
 have wj:∀u,Region.wanted oj (yielded ops (a.put oi.dst u).tmps)=Region.wanted oj (yielded ops a.tmps):=fun u=>wanted_put oj a oi.dst u h1
 have cm:∀v u,(a.put oi.dst v).put oj.dst u=(a.put oj.dst u).put oi.dst v:=fun v u=>Act.put_comm a v u h2
 unfold kE at*
 simp only[hi,hj,uB]at*
 simp only[wi,wj,cm,Cn (P:=P) hsi h3,Cn (P:=P) Z3 h1]at*
 rcases lP (o:=oi) (y:=yielded ops a.tmps)with Z4|Z4<;>rcases lP (o:=oj) (y:=yielded ops a.tmps)with Z5|Z5<;>
  simp only[Z4,Z5,if_true,if_false,anb]at*
 ·cases Wl:st j<;>simp only[Wl]at h ⊢
  ·obtain⟨v,e1,k⟩:=h;exact k.mono fun u H' ⟨k1,k2⟩=>⟨k1,v,e1,k2⟩
  ·obtain⟨v,e1,u,e2,k⟩:=h;exact⟨u,e2,v,e1,k⟩
 ·exact h
 ·cases Wl:st j<;>simp only[Wl]at h ⊢ <;>exact h
 ·exact h
def kF(ops:Array Oper)(pL:Array Nat)(st:Nat→Bool)(listed:Array Bool)(i:Nat):Bool:=
 st i && match ops[i]? with
 |none=>false
 |some oi=>(List.range ops.size).all fun j=>j==i || listed.getD j false || (pL.getD j 0).testBit i ||
   match ops[j]? with
   |none=>false
   |some oj=>oi.apart ops oj
def Tz(ops:Array Oper)(pL:Array Nat)(st:Nat→Bool):Ot→Array Bool→List Nat→Bool
 | .done,listed,_=>(Region.ready .any ops listed).isEmpty
 | .step i t,listed,_=>(Region.ready .any ops listed).contains i && kF ops pL st listed i && Tz ops pL st t (listed.setIfInBounds i true) []
 | .aP i t r,listed,hd=>(Region.ready .any ops listed).contains i && Tz ops pL st t (listed.setIfInBounds i true) [] && Tz ops pL st r listed (i::hd)
 | .stop,listed,hd=> !(Region.ready .any ops listed).isEmpty && (Region.ready .any ops listed).all (hd.contains ·)
def PM(P:Program)(ops:Array Oper)(Inv:Hp→Prop)(st:Nat→Bool)(K:Act→Hp→Prop):Ot→Act→Hp→Prop
 | .done,a,H=>K a H
 | .step i t,a,H=>kE P ops Inv st i (PM P ops Inv st K t) a H
 | .aP i t r,a,H=>kE P ops Inv st i (PM P ops Inv st K t) a H∧PM P ops Inv st K r a H
 | .stop,_,_=>True
theorem PN{listed:Array Bool}{i j:Nat}(h:listed.getD j false=true):(listed.setIfInBounds i true).getD j false=true:=getD_set_true h
theorem GG{pL:Array Nat}{listed:Array Bool}{i j:Nat}(h:kF ops pL st listed i=true):kF ops pL st (listed.setIfInBounds j true) i=true:=by
 unfold kF at*
 rw[amX]at*
 refine⟨h.1,?_⟩
 have h:=h.2
 split at h
 ·cases h
 ·rename_i oi ho
  rw[anl]at*
  intro k hk
  have:=h k hk
  simp only[Bool.or_eq_true]at this ⊢
  rcases this with ((h|h)|h)|h
  ·exact .inl (.inl (.inl h))
  ·exact .inl (.inl (.inr (PN h)))
  ·exact .inl (.inr h)
  ·exact .inr h
theorem lQ{listed:Array Bool}{i:Nat}(h:i∈Region.ready .any ops listed):listed.getD i false=false:=by
 obtain⟨hun,_⟩:=mem_ready.1 h
 rcases anh i listed.size with h'|h'
 ·simpa[h']using hun
 ·simp[anf h']
theorem PO{pL:Array Nat}(DQ:Co ops pL=true){K:Act→Hp→Prop}{i:Nat}{oi:Oper}(hi:ops[i]? =some oi)
  (DR:∀ (j:Nat) (o:Oper) cs b,ops[j]? =some o→o.op≠ .select cs b):
  ∀ (cW:Nat) (listed:Array Bool) (a:Act) (H:Hp),Inv H→xf ops listed→kF ops pL st listed i=true→
   i∈Region.ready .any ops listed→
   kE P ops Inv st i (anyI P ops Inv st K cW (listed.setIfInBounds i true)) a H→anyI P ops Inv st K (cW+1) listed a H:=by
 intro cW
 induction cW with
 |zero=>
  intro listed a H hI _ Cq hr h
  refine⟨fun h0=>(by rw[h0]at hr;cases hr),fun j hj=>?_⟩
  by_cases MP:j=i
  ·subst MP;exact h
  ·exfalso
   have uB:st i=true:=by unfold kF at Cq;rw[amX]at Cq;exact Cq.1
   have GB:Region.ready .any ops (listed.setIfInBounds i true)=[]:=by
    unfold kE at h
    simp only[hi,uB]at h
    split at h
    ·obtain⟨v,_,k⟩:=h;exact k.1
    ·exact h.1
   have:=ready_mono hj MP
   rw[GB]at this
   cases this
 |succ cW ih=>
  intro listed a H hI rq Cq hr h
  refine⟨fun h0=>(by rw[h0]at hr;cases hr),fun j hj=>?_⟩
  by_cases MP:j=i
  ·subst MP;exact h
  ·obtain⟨Z6,oj,Ty,fZ⟩:=mem_ready.1 hj
   have hjs:=lQ hj
   have his:=lQ hr
   have uB:st i=true:=by have hf:=Cq;unfold kF at hf;rw[amX]at hf;exact hf.1
   have Wn:(pL.getD j 0).testBit i=false:=by
    cases hb:(pL.getD j 0).testBit i with
    |false=>rfl
    |true=>have:=GA DQ rq j oj Ty fZ hb;rw[his]at this;cases this
   have T4:oi.apart ops oj=true:=by
    have hf:=Cq
    unfold kF at hf
    rw[amX]at hf
    have hf:=hf.2
    rw[hi]at hf
    simp only at hf
    have aR:j<ops.size:=(am0.1 Ty).1
    have:=(anl.1 hf) j (am2.2 aR)
    have aT:(j==i)=false:=by simpa using MP
    simp only[Ty,Wn,hjs,aT,aoc]at this
    exact this
   have h2:kE P ops Inv st i (fun a' H'=>kE P ops Inv st j (anyI P ops Inv st K cW ((listed.setIfInBounds i true).setIfInBounds j true)) a' H') a H:=
    uA hI (fun a' H' _ hk=>hk.2 j (ready_mono hj MP)) h
   have h3:=Z8 hi Ty T4 uB (fun cs b=>DR i oi cs b hi) (fun cs b=>DR j oj cs b Ty) h2
   refine uA hI (fun a' H' T6 hk=>?_) h3
   refine ih (listed.setIfInBounds j true) a' H' T6 (rq.set hj) (GG Cq) (ready_mono hr (Ne.symm MP)) ?_
   rw[Array.setIfInBounds_comm _ _ MP];exact hk
theorem count_set:∀ (l:List Bool) (i:Nat),l[i]? =some false→(l.set i true).count false+1=l.count false:=by
 intro l
 induction l with
 |nil=>intro i h;simp at h
 |cons b l ih=>
  intro i h
  cases i with
  |zero=>
   simp only[amz,ame]at h
   subst h
   simp
  |succ i=>
   have:=ih i (by simpa using h)
   rw[amP,anM,anM]
   omega
theorem Cr{listed:Array Bool}{i cW:Nat}(hs:listed.size=ops.size)(hc:listed.toList.count false=cW)(h:i∈Region.ready .any ops listed):
  ∃f,cW=f+1∧(listed.setIfInBounds i true).toList.count false=f∧(listed.setIfInBounds i true).size=ops.size:=by
 have h1:=lQ h
 obtain⟨_,o,ho,_⟩:=mem_ready.1 h
 have aR:i<listed.size:=by rw[hs];exact(am0.1 ho).1
 have h2:listed.toList[i]? =some false:=by
  simp only[Array.getElem?_toList]
  simp[aR]at h1 ⊢
  exact h1
 have h3:=count_set _ i h2
 refine⟨(listed.setIfInBounds i true).toList.count false,?_,rfl,by simpa using hs⟩
 rw[Array.toList_setIfInBounds]
 omega
theorem Kc{pL:Array Nat}(DQ:Co ops pL=true)(DR:Region.noSelect ops=true){K:Act→Hp→Prop}:
  ∀ (t:Ot) (listed:Array Bool) (hd:List Nat) (cW:Nat) (a:Act) (H:Hp),Tz ops pL st t listed hd=true→Inv H→xf ops listed→listed.size=ops.size→listed.toList.count false=cW→
   (∀i∈hd,i∈Region.ready .any ops listed→∃f,cW=f+1∧kE P ops Inv st i (anyI P ops Inv st K f (listed.setIfInBounds i true)) a H)→PM P ops Inv st K t a H→anyI P ops Inv st K cW listed a H:=by
 intro t
 induction t with
 |done=>
  intro listed hd cW a H uX _ _ _ _ _ h
  simp only[Tz,List.isEmpty_iff]at uX
  cases cW with
  |zero=>exact⟨uX,h⟩
  |succ cW=>exact⟨fun _=>h,fun i hi=>by rw[uX]at hi;cases hi⟩
 |step i t ih=>
  intro listed hd cW a H uX hI rq hs hc _ h
  simp only[Tz,amX,List.contains_iff_mem]at uX
  obtain⟨⟨hr,Cq⟩,uX⟩:=uX
  obtain⟨f,rfl,Le,Fo⟩:=Cr hs hc hr
  obtain⟨_,o,ho,_⟩:=mem_ready.1 hr
  refine PO DQ ho (Region.noSelect_spec DR) f listed a H hI rq Cq hr ?_
  refine uA hI (fun a' H' T6 hk=>?_) h
  exact ih _ [] f a' H' uX T6 (rq.set hr) Fo Le (fun i hi=>by cases hi) hk
 |aP i t r iht Z9=>
  intro listed hd cW a H uX hI rq hs hc T7 h
  simp only[Tz,amX,List.contains_iff_mem]at uX
  obtain⟨⟨hr,aem⟩,aen⟩:=uX
  obtain⟨f,rfl,Le,Fo⟩:=Cr hs hc hr
  refine Z9 listed (i::hd) (f+1) a H aen hI rq hs hc ?_ h.2
  intro j hj hjr
  rcases amf.1 hj with rfl|hj
  ·refine⟨f,rfl,uA hI (fun a' H' T6 hk=>?_) h.1⟩
   exact iht _ [] f a' H' aem T6 (rq.set hr) Fo Le (fun i hi=>by cases hi) hk
  ·exact T7 j hj hjr
 |stop=>
  intro listed hd cW a H uX hI rq hs hc T7 _
  simp only[Tz,amX,anl,List.contains_iff_mem]at uX
  obtain⟨aT,fZ⟩:=uX
  by_cases hre:Region.ready .any ops listed=[]
  ·exact absurd (List.isEmpty_iff.2 hre) (by simpa using aT)
  ·obtain⟨i,hi⟩:=List.exists_mem_of_ne_nil _ hre
   obtain⟨f,rfl,_⟩:=T7 i (fZ i hi) hi
   refine⟨fun h0=>absurd h0 hre,fun j hj=>?_⟩
   obtain⟨f',e,h⟩:=T7 j (fZ j hj) hj
   have:f'=f:=by omega
   subst this
   exact h
theorem GH{id:Nat}{pL:Array Nat}{t:Ot}(hm:P.follows .mixedOrders=true)(DQ:Co ops pL=true)(uX:Tz ops pL st t (Array.replicate ops.size false) []=true)
  (DR:Region.noSelect ops=true){K:Act→Hp→Prop}{Q:Exit→Act→World→Prop}{a:Act}{w:World}(hI:Inv w.heap)
  (hQ:∀a' w',bZ w w'→K a' w'.heap→Q .normal a' w')(h:PM P ops Inv st K t a w.heap):(Code.region id ops true).wp P Q a w:=by
 refine wp_region_any hm ?_
 refine IK (Inv:=Inv) (st:=st) (K:=K) (w₀:=w) hQ _ _ _ _ ⟨rfl,rfl⟩ hI ?_
 refine Kc DQ DR t _ [] _ _ _ uX hI ?_ (by simp) (by simp) (fun i hi=>by cases hi) h
 intro k ok _ hl
 exfalso
 by_cases hk:k<ops.size<;>simp[hk]at hl
end
end Go.Vc
