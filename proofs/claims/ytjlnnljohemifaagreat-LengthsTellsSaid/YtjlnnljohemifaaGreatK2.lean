/- Texts put behind each other. -/
import Derived.Test.YtjlnnljohemifaaGreatK98
import Derived.Orders
import Derived.Laws.Sem
import Derived.Laws.World
import Derived.KernelRfl
namespace Go.Vc
structure Tag{α:Sort _}(F:α):Type where
abbrev Hp:=Array Obj
structure bZ(w w':World):Prop where
 os:w'.os=w.os
 output:w'.output=w.output
theorem bZ.refl(w:World):bZ w w:=⟨rfl,rfl⟩
theorem bZ.trans{a b c:World}(h:bZ a b)(k:bZ b c):bZ a c:=⟨k.os.trans h.os,k.output.trans h.output⟩
def ai(P:Program)(f:FuncId)(args:List Value)(H:Hp)(K:Value→Hp→Prop)(_t:Tag K:=⟨⟩):Prop:=
 ∀w,w.heap=H→Calls P f args.toArray w fun e w'=>∃v,e= .returned v∧bZ w w'∧K v w'.heap
theorem ai.mono{P:Program}{f:FuncId}{args:List Value}{H:Hp}{K K':Value→Hp→Prop}(h:ai P f args H K)(hk:∀v H',K v H'→K' v H'):
  ai P f args H K':=
 fun w hw=>(h w hw).mono fun _ _ ⟨v,e,s,k⟩=>⟨v,e,s,hk _ _ k⟩
def dX(P:Program)(o:Oper)(a:Act)(H:Hp)(K:Value→Hp→Prop):Prop:=
 ∀w,w.heap=H→
  (∃v w',(execOp a.eval o).run P w= .ok (.value v) w'∧bZ w w'∧K v w'.heap)∨
  (∃w',(execOp a.eval o).run P w= .ok .skip w'∧bZ w w'∧K undef w'.heap)∨
  (∃f args w',(execOp a.eval o).run P w= .ok (.enter f args) w'∧bZ w w'∧ai P f args.toList w'.heap K)
theorem dX.mono{P:Program}{o:Oper}{a:Act}{H:Hp}{K K':Value→Hp→Prop}(h:dX P o a H K)(hk:∀v H',K v H'→K' v H'):dX P o a H K':=by
 intro w hw
 rcases h w hw with ⟨v,w',h1,h2,h3⟩| ⟨w',h1,h2,h3⟩| ⟨f,args,w',h1,h2,h3⟩
 ·exact .inl ⟨v,w',h1,h2,hk _ _ h3⟩
 ·exact .inr (.inl ⟨w',h1,h2,hk _ _ h3⟩)
 ·exact .inr (.inr ⟨f,args,w',h1,h2,h3.mono hk⟩)
theorem dX.wp{P:Program}{o:Oper}{a:Act}{H:Hp}{K:Value→Hp→Prop}{next:Act→World→Prop}{Q:Exit→Act→World→Prop}{w:World}
  (h:dX P o a H K)(hw:w.heap=H)(hn:∀v w',bZ w w'→K v w'.heap→next (a.put o.dst v) w'):o.wp P a w next Q:=by
 unfold Oper.wp
 rcases h w hw with ⟨v,w',h1,h2,h3⟩| ⟨w',h1,h2,h3⟩| ⟨f,args,w',h1,h2,h3⟩
 ·rw[h1];exact hn _ _ h2 h3
 ·rw[h1];exact hn _ _ h2 h3
 ·rw[h1]
  have h4:=h3 w' rfl
  simp only[apf]at h4
  show Calls P f args w' _
  refine h4.mono fun e w'' he=>?_
  obtain⟨v,rfl,hs,hk⟩:=he
  exact hn _ _ (h2.trans hs) hk
def Ma(P:Program)(ops:Array Oper)(K:Act→Hp→Prop):List Nat→Act→Hp→Prop
 | [],a,H=>K a H
 |i::r,a,H=>
  match ops[i]? with
  |none=>Ma P ops K r a H
  |some o=>if Region.wanted o (yielded ops a.tmps)then dX P o a H (fun v H'=>Ma P ops K r (a.put o.dst v) H')else Ma P ops K r (a.put o.dst undef) H
theorem I1{P:Program}{ops:Array Oper}{K:Act→Hp→Prop}{Q:Exit→Act→World→Prop}{w₀:World}
  (hQ:∀a w,bZ w₀ w→K a w.heap→Q .normal a w):∀ (l:List Nat) (a:Act) (w:World),bZ w₀ w→Ma P ops K l a w.heap→wpOps P ops Q l a w:=by
 intro l
 induction l with
 |nil=>intro a w hs h;exact hQ a w hs h
 |cons i r ih=>
  intro a w hs h
  simp only[wpOps,Ma]at*
  cases ho:ops[i]? with
  |none=>rw[ho]at h;exact ih _ _ hs h
  |some o=>
   rw[ho]at h
   simp only at h ⊢
   split
   ·rename_i hw
    rw[if_pos hw]at h
    exact .inl (h.wp rfl fun v w' FI hk=>ih _ _ (hs.trans FI) hk)
   ·rename_i hw
    rw[if_neg hw]at h
    exact ih _ _ hs h
inductive Mb where
 |pure|quiet|I2
 deriving DecidableEq,Inhabited
def mD(P:Program)(ops:Array Oper)(cls:Nat→Mb)(i:Nat)(K:Act→Hp→Prop)(a:Act)(H:Hp):Prop:=
 match ops[i]? with
 |none=>K a H
 |some o=>
  if Region.wanted o (yielded ops a.tmps)then
   match cls i with
   | .pure=>∃v,(∀w,(execOp a.eval o).run P w= .ok (.value v) w)∧K (a.put o.dst v) H
   | .quiet=>∃v,dX P o a H (fun v' H'=>v'=v∧H'=H)∧K (a.put o.dst v) H
   | .I2=>dX P o a H fun v H'=>K (a.put o.dst v) H'
  else K (a.put o.dst undef) H
theorem Bg{P:Program}{ops:Array Oper}{cls:Nat→Mb}{i:Nat}{K K':Act→Hp→Prop}{a:Act}{H:Hp}(hk:∀a H,K a H→K' a H)
  (h:mD P ops cls i K a H):mD P ops cls i K' a H:=by
 unfold mD at*
 split
 ·exact hk _ _ (by simpa[*]using h)
 ·rename_i o ho
  simp only[ho]at h
  split
  ·rename_i hw
   rw[if_pos hw]at h
   cases hc:cls i with
   |pure=>rw[hc]at h;obtain⟨v,h1,h2⟩:=h;exact⟨v,h1,hk _ _ h2⟩
   |quiet=>rw[hc]at h;obtain⟨v,h1,h2⟩:=h;exact⟨v,h1,hk _ _ h2⟩
   |I2=>rw[hc]at h;exact h.mono fun v H'=>hk _ _
  ·rename_i hw;rw[if_neg hw]at h;exact hk _ _ h
theorem CA{P:Program}{o:Oper}{a:Act}{v:Value}(h:∀w,(execOp a.eval o).run P w= .ok (.value v) w)(H:Hp):
  dX P o a H fun v' H'=>v'=v∧H'=H:=fun w hw=>.inl ⟨v,w,h w,bZ.refl w,rfl,hw⟩
theorem I3{P:Program}{ops:Array Oper}{cls:Nat→Mb}{i:Nat}{K:Act→Hp→Prop}{a:Act}{w:World}{K':Act→World→Prop}
  {Q:Exit→Act→World→Prop}(hk:∀a w',bZ w w'→K a w'.heap→K' a w')(h:mD P ops cls i K a w.heap):wpOp P ops Q i K' a w:=by
 unfold mD at h
 unfold wpOp
 split
 ·rename_i ho;rw[ho]at h;exact hk _ _ (bZ.refl w) h
 ·rename_i o ho
  simp only[ho]at h
  split
  ·rename_i hw
   rw[if_pos hw]at h
   refine .inl ?_
   cases hc:cls i with
   |pure=>
    rw[hc]at h
    obtain⟨v,h1,h2⟩:=h
    exact(CA h1 w.heap).wp rfl fun v' w' hs ⟨e1,e2⟩=>by subst e1;exact hk _ _ hs (e2▸h2)
   |quiet=>
    rw[hc]at h
    obtain⟨v,h1,h2⟩:=h
    exact h1.wp rfl fun v' w' hs ⟨e1,e2⟩=>by subst e1;exact hk _ _ hs (e2▸h2)
   |I2=>rw[hc]at h;exact h.wp rfl fun v' w' hs Qn=>hk _ _ hs Qn
  ·rename_i hw;rw[if_neg hw]at h;exact hk _ _ (bZ.refl w) h
def Qq(P:Program)(ops:Array Oper)(cls:Nat→Mb)(K:Act→Hp→Prop):Nat→Array Bool→Act→Hp→Prop
 |0,listed,a,H=>Region.ready .any ops listed=[]∧K a H
 |cX+1,listed,a,H=>
  (Region.ready .any ops listed=[]→K a H)∧
  ∀i∈Region.ready .any ops listed,mD P ops cls i (Qq P ops cls K cX (listed.setIfInBounds i true)) a H
theorem I4{P:Program}{ops:Array Oper}{cls:Nat→Mb}{K:Act→Hp→Prop}{Q:Exit→Act→World→Prop}{w₀:World}
  (hQ:∀a w,bZ w₀ w→K a w.heap→Q .normal a w):∀ (cX:Nat) (listed:Array Bool) (a:Act) (w:World),bZ w₀ w→
   Qq P ops cls K cX listed a w.heap→wpAny P .any ops Q cX listed a w:=by
 intro cX
 induction cX with
 |zero=>intro listed a w hs h;exact⟨h.1,hQ _ _ hs h.2⟩
 |succ cX ih=>
  intro listed a w hs h
  exact⟨fun hr=>hQ _ _ hs (h.1 hr),fun i hi=>I3 (fun a' w' FI hk=>ih _ _ _ (hs.trans FI) hk) (h.2 i hi)⟩
def Mb.Pt:Mb→Mb→Bool
 | .pure,_=>true
 |_,.pure=>true
 | .quiet,.quiet=>true
 |_,_=>false
section
variable {P : Program} {ops : Array Oper} {cls : Nat → Mb}
theorem CB(H:Hp):∃w:World,w.heap=H:=⟨{ (default:World)with heap:=H},rfl⟩
theorem lP{o:Oper}{y:Nat→Option Bool}:Region.wanted o y=true∨Region.wanted o y=false:=by cases Region.wanted o y<;>simp
theorem CC{o:Oper}{a:Act}{dst:Option Tmp}{u:Value}(hs:∀cs b,o.op≠ .select cs b)(h:∀d,dst=some d→d∉o.looksAt ops){H:Hp}{K:Value→Hp→Prop}:
  dX P o (a.put dst u) H K↔dX P o a H K:=by
 unfold dX
 rw[execOp_put (ops:=ops) o hs a dst u h]
theorem aaD{i j:Nat}{oi oj:Oper}(hi:ops[i]? =some oi)(hj:ops[j]? =some oj)(UE:oi.apart ops oj=true)(WV:(cls i).Pt (cls j)=true)
  (hsi:∀cs b,oi.op≠ .select cs b)(hsj:∀cs b,oj.op≠ .select cs b){K:Act→Hp→Prop}{a:Act}{H:Hp}
  (h:mD P ops cls i (fun a' H'=>mD P ops cls j K a' H') a H):mD P ops cls j (fun a' H'=>mD P ops cls i K a' H') a H:=by
 obtain⟨h1,h2,h3⟩:=Oper.apart_spec UE
 have wi:∀u,Region.wanted oi (yielded ops (a.put oj.dst u).tmps)=Region.wanted oi (yielded ops a.tmps):=fun u=>wanted_put oi a oj.dst u h3
 have wj:∀u,Region.wanted oj (yielded ops (a.put oi.dst u).tmps)=Region.wanted oj (yielded ops a.tmps):=fun u=>wanted_put oj a oi.dst u h1
 have ei:∀u,execOp (a.put oj.dst u).eval oi=execOp a.eval oi:=fun u=>execOp_put oi hsi a oj.dst u h3
 have ej:∀u,execOp (a.put oi.dst u).eval oj=execOp a.eval oj:=fun u=>execOp_put oj hsj a oi.dst u h1
 have cm:∀v u,(a.put oi.dst v).put oj.dst u=(a.put oj.dst u).put oi.dst v:=fun v u=>Act.put_comm a v u h2
 unfold mD at*
 simp only[hi,hj]at*
 simp only[wi,wj,ei,ej,cm,CC (P:=P) hsi h3,CC (P:=P) hsj h1]at*
 rcases lP (o:=oi) (y:=yielded ops a.tmps)with hwi|hwi<;>rcases lP (o:=oj) (y:=yielded ops a.tmps)with hwj|hwj<;>
  simp only[hwi,hwj,if_true,if_false,aoQ]at*
 ·cases WW:cls i<;>cases WX:cls j<;>simp only[WW,WX,Mb.Pt,aoQ]at h WV ⊢
  ·obtain⟨v,e1,u,e2,k⟩:=h;exact⟨u,e2,v,e1,k⟩
  ·obtain⟨v,e1,u,e2,k⟩:=h;exact⟨u,e2,v,e1,k⟩
  ·obtain⟨v,e1,k⟩:=h;exact k.mono fun u H' k'=>⟨v,e1,k'⟩
  ·obtain⟨v,e1,u,e2,k⟩:=h;exact⟨u,e2,v,e1,k⟩
  ·obtain⟨v,e1,u,e2,k⟩:=h;exact⟨u,e2,v,e1,k⟩
  ·obtain⟨w,hw⟩:=CB H
   have pick:∃u,∀w,(execOp a.eval oj).run P w= .ok (.value u) w:=by
    rcases h w hw with ⟨v,w',_,_,u,e,_⟩| ⟨w',_,_,u,e,_⟩| ⟨f,args,w',_,_,hc⟩
    ·exact⟨u,e⟩
    ·exact⟨u,e⟩
    ·obtain⟨e,w'',fr,⟨v,_,_,u,eu,_⟩,_⟩:=hc w' rfl []
     exact⟨u,eu⟩
   obtain⟨u,eu⟩:=pick
   refine⟨u,eu,h.mono fun v H' ⟨u',eu',k⟩=>?_⟩
   have:=eu w
   rw[eu' w]at this
   injection this with h1 h2
   injection h1 with h1
   exact h1▸k
 ·cases WW:cls i<;>simp only[WW]at h ⊢ <;>exact h
 ·cases WX:cls j<;>simp only[WX]at h ⊢ <;>exact h
 ·exact h
def xw(ops:Array Oper)(listed:Array Bool):Prop:=
 ∀k ok,ops[k]? =some ok→listed.getD k false=true→∀e∈ok.after,Region.binds .any e=true→listed.getD e.on false=true
theorem xw.set{listed:Array Bool}(h:xw ops listed){i:Nat}(hi:i∈Region.ready .any ops listed):xw ops (listed.setIfInBounds i true):=by
 intro k ok hk hl e he hb
 by_cases hik:i=k
 ·subst hik
  obtain⟨_,o,ho,fY⟩:=mem_ready.1 hi
  rw[hk]at ho
  injection ho with ho
  subst ho
  exact getD_set_true (fY e he hb)
 ·rw[getD_set_ne false hik]at hl
  exact getD_set_true (h k ok hk hl e he hb)
def up(pM:Array Nat)(o:Oper):Nat:=o.after.toList.foldl (fun s e=>if Region.binds .any e then s ||| (2^e.on |||pM.getD e.on 0)else s) 0
theorem NT{pM:Array Nat}{i:Nat}:∀ (l:List Edge) (s:Nat),
  (l.foldl (fun s e=>if Region.binds .any e then s ||| (2^e.on |||pM.getD e.on 0)else s) s).testBit i=true→
   s.testBit i=true∨∃e∈l,Region.binds .any e=true∧(e.on=i∨(pM.getD e.on 0).testBit i=true):=by
 intro l
 induction l with
 |nil=>intro s h;exact .inl h
 |cons e l ih=>
  intro s h
  rw[List.foldl_cons]at h
  rcases ih _ h with h| ⟨x,hx,h⟩
  ·split at h
   ·rename_i hb
    rw[Nat.testBit_or,Nat.testBit_or,Nat.testBit_two_pow]at h
    simp only[Bool.or_eq_true,aoq]at h
    rcases h with h|h|h
    ·exact .inl h
    ·exact .inr ⟨e,aoA,hb,.inl h⟩
    ·exact .inr ⟨e,aoA,hb,.inr h⟩
   ·exact .inl h
  ·exact .inr ⟨x,aom _ hx,h⟩
def CD(ops:Array Oper)(pM:Array Nat):Bool:=
 (List.range ops.size).all fun j=>
  match ops[j]? with
  |none=>false
  |some oj=>oj.after.all (fun e=> !Region.binds .any e || decide (e.on<j)) && (pM.getD j 0 |||up pM oj==up pM oj)
theorem GP{pM:Array Nat}(h:CD ops pM=true){listed:Array Bool}(hc:xw ops listed){i:Nat}:∀ (j:Nat) (oj:Oper),ops[j]? =some oj→
  (∀e∈oj.after,Region.binds .any e=true→listed.getD e.on false=true)→(pM.getD j 0).testBit i=true→listed.getD i false=true:=by
 intro j
 induction j using Nat.strongRecOn with
 |_ j ih=>
  intro oj hj fY hb
  have aR:j<ops.size:=(aoB.1 hj).1
  have h1:=(aoV.1 h) j (aoD.2 aR)
  simp only[hj,aoz,beq_iff_eq]at h1
  obtain⟨WY,Ls⟩:=h1
  have hu:(up pM oj).testBit i=true:=by rw[←Ls,Nat.testBit_or,hb,Bool.true_or]
  rcases NT _ _ hu with h0| ⟨e,he,hbd,h2⟩
  ·simp at h0
  ·have hem:e∈oj.after:=by simpa using he
   have hl:=fY e hem hbd
   rcases h2 with h2|h2
   ·exact h2▸hl
   ·have aeX:e.on<j:=by
     have:=(ao7.1 WY) e hem
     simpa[hbd]using this
    cases hoe:ops[e.on]? with
    |none=>
     have:ops.size≤e.on:=by simpa using hoe
     omega
    |some oe=>exact ih e.on aeX oe hoe (hc e.on oe hoe hl) h2
def CE(ops:Array Oper)(pM:Array Nat)(cls:Nat→Mb):Bool:=
 (List.range ops.size).all fun j=>
  match ops[j]? with
  |none=>false
  |some oj=>(List.range j).all fun i=>(pM.getD j 0).testBit i ||
    match ops[i]? with
    |none=>false
    |some oi=>oi.apart ops oj && (cls i).Pt (cls j)
theorem Kw{pM:Array Nat}(h:CE ops pM cls=true){i j:Nat}{oi oj:Oper}(hi:ops[i]? =some oi)(hj:ops[j]? =some oj)(JE:i<j)
  (hn:(pM.getD j 0).testBit i=false):oi.apart ops oj=true∧(cls i).Pt (cls j)=true:=by
 have aR:j<ops.size:=(aoB.1 hj).1
 have h1:=(aoV.1 h) j (aoD.2 aR)
 simp only[hj,aoV,aoD]at h1
 have h2:=h1 i JE
 simp only[hi,hn,apW,aoz]at h2
 exact h2
theorem NU{pM:Array Nat}(D3:CD ops pM=true)(WV:CE ops pM cls=true){K:Act→Hp→Prop}{i:Nat}{oi:Oper}(hi:ops[i]? =some oi)
  (D4:∀ (j:Nat) (o:Oper) cs b,ops[j]? =some o→o.op≠ .select cs b):
  ∀ (cX:Nat) (listed:Array Bool) (a:Act) (H:Hp),xw ops listed→(∀j,j<i→listed.getD j false=true)→
   i∈Region.ready .any ops listed→
   mD P ops cls i (Qq P ops cls K cX (listed.setIfInBounds i true)) a H→Qq P ops cls K (cX+1) listed a H:=by
 intro cX
 induction cX with
 |zero=>
  intro listed a H _ _ hr h
  refine⟨fun h0=>(by rw[h0]at hr;cases hr),fun j hj=>?_⟩
  by_cases Nl:j=i
  ·subst Nl;exact h
  ·exfalso
   have GQ:Region.ready .any ops (listed.setIfInBounds i true)=[]:=by
    unfold mD at h
    simp only[hi]at h
    split at h
    ·cases hc:cls i<;>simp only[hc]at h
     ·obtain⟨v,_,k⟩:=h;exact k.1
     ·obtain⟨v,_,k⟩:=h;exact k.1
     ·obtain⟨w,hw⟩:=CB H
      rcases h w hw with ⟨v,w',_,_,k⟩| ⟨w',_,_,k⟩| ⟨f,args,w',_,_,hc⟩
      ·exact k.1
      ·exact k.1
      ·obtain⟨e,w'',fr,⟨v,_,_,k⟩,_⟩:=hc w' rfl []
       exact k.1
    ·exact h.1
   have:=ready_mono hj Nl
   rw[GQ]at this
   cases this
 |succ cX ih=>
  intro listed a H rB Ss hr h
  refine⟨fun h0=>(by rw[h0]at hr;cases hr),fun j hj=>?_⟩
  by_cases Nl:j=i
  ·subst Nl;exact h
  ·obtain⟨aaH,oj,T6,fY⟩:=mem_ready.1 hj
   have aeZ:=(mem_ready.1 hr).1
   have hjs:listed.getD j false=false:=by
    rcases aoN j listed.size with h'|h'
    ·simpa[h']using aaH
    ·simp[aoS h']
   have his:listed.getD i false=false:=by
    rcases aoN i listed.size with h'|h'
    ·simpa[h']using aeZ
    ·simp[aoS h']
   have JE:i<j:=by
    rcases aoN i j with h'|h'
    ·exact h'
    ·have h1:=Ss j (by omega)
     rw[hjs]at h1;cases h1
   have St:(pM.getD j 0).testBit i=false:=by
    cases hb:(pM.getD j 0).testBit i with
    |false=>rfl
    |true=>have:=GP D3 rB j oj T6 fY hb;rw[his]at this;cases this
   obtain⟨UE,aaI⟩:=Kw WV hi T6 JE St
   have h2:mD P ops cls i (fun a' H'=>mD P ops cls j (Qq P ops cls K cX ((listed.setIfInBounds i true).setIfInBounds j true)) a' H') a H:=
    Bg (fun a' H' hk=>hk.2 j (ready_mono hj Nl)) h
   have h3:=aaD hi T6 UE aaI (fun cs b=>D4 i oi cs b hi) (fun cs b=>D4 j oj cs b T6) h2
   refine Bg (fun a' H' hk=>?_) h3
   refine ih (listed.setIfInBounds j true) a' H' (rB.set hj) (fun k Qn=>getD_set_true (Ss k Qn)) (ready_mono hr (Ne.symm Nl)) ?_
   rw[Array.setIfInBounds_comm _ _ Nl];exact hk
def Su(P:Program)(ops:Array Oper)(cls:Nat→Mb)(K:Act→Hp→Prop):List Nat→Act→Hp→Prop
 | [],a,H=>K a H
 |i::r,a,H=>mD P ops cls i (Su P ops cls K r) a H
theorem Ky{pM:Array Nat}(D3:CD ops pM=true)(WV:CE ops pM cls=true)(D4:Region.noSelect ops=true){K:Act→Hp→Prop}:
  ∀ (m k:Nat) (listed:Array Bool) (a:Act) (H:Hp),k+m=ops.size→listed.size=ops.size→(∀j,listed.getD j false=decide (j<k))→
   Su P ops cls K (List.range' k m) a H→Qq P ops cls K m listed a H:=by
 intro m
 induction m with
 |zero=>
  intro k listed a H hk hs hl h
  refine⟨?_,h⟩
  refine List.eq_nil_iff_forall_not_mem.2 fun j hj=>?_
  obtain⟨h0,o,ho,_⟩:=mem_ready.1 hj
  have aR:j<ops.size:=(aoB.1 ho).1
  have h1:=hl j
  rw[anQ (by omega)]at h1
  simp[show j<listed.size by omega]at h0 h1
  rw[h0]at h1;cases h1
 |succ m ih=>
  intro k listed a H hk hs hl h
  have aR:k<ops.size:=by omega
  obtain⟨o,ho⟩:∃o,ops[k]? =some o:=⟨ops[k],by simp[aR]⟩
  have UF:xw ops listed:=by
   intro x ox hx VX e he hb
   have kj:x<ops.size:=(aoB.1 hx).1
   have h1:=(aoV.1 D3) x (aoD.2 kj)
   simp only[hx,aoz]at h1
   have h2:=(ao7.1 h1.1) e he
   simp only[hb,Bool.not_true,apW,aoq]at h2
   rw[hl x,aoq]at VX
   rw[hl e.on]
   exact anQ (by omega)
  have GQ:k∈Region.ready .any ops listed:=by
   refine mem_ready.2 ⟨?_,o,ho,fun e he hb=>?_⟩
   ·have h1:=hl k
    rw[anU (by omega)]at h1
    simpa[show k<listed.size by omega]using h1
   ·have h1:=(aoV.1 D3) k (aoD.2 aR)
    simp only[ho,aoz]at h1
    have h2:=(ao7.1 h1.1) e he
    simp only[hb,Bool.not_true,apW,aoq]at h2
    rw[hl e.on];exact anQ h2
  refine NU D3 WV ho (Region.noSelect_spec D4) m listed a H UF (fun j hj=>by rw[hl j];exact anQ hj) GQ ?_
  rw[List.range'_succ]at h
  simp only[Su]at h
  refine Bg (fun a' H' Qn=>ih (k+1) _ a' H' (by omega) (by simpa using hs) (fun j=>?_) Qn) h
  by_cases Za:k=j
  ·subst Za
   simp[show k<listed.size by omega]
  ·rw[getD_set_ne false Za,hl j]
   by_cases hjk:j<k
   ·rw[anQ hjk,anQ (by omega)]
   ·rw[anU hjk,anU (by omega)]
theorem GR{id:Nat}{pM:Array Nat}(hm:P.follows .mixedOrders=true)(D3:CD ops pM=true)(WV:CE ops pM cls=true)
  (D4:Region.noSelect ops=true){K:Act→Hp→Prop}{Q:Exit→Act→World→Prop}{a:Act}{w:World}
  (hQ:∀a' w',bZ w w'→K a' w'.heap→Q .normal a' w')(h:Su P ops cls K (List.range ops.size) a w.heap):(Code.region id ops true).wp P Q a w:=by
 refine wp_region_any hm ?_
 refine I4 (cls:=cls) (K:=K) (w₀:=w) hQ _ _ _ _ ⟨rfl,rfl⟩ ?_
 refine Ky D3 WV D4 ops.size 0 _ _ _ (by omega) (by simp) (fun j=>?_) (by rw[List.range_eq_range']at h;exact h)
 simp only[Nat.not_lt_zero,decide_false]
 by_cases hj:j<ops.size<;>simp[hj]
theorem GS{id:Nat}{K:Act→Hp→Prop}{Q:Exit→Act→World→Prop}{a:Act}{w:World}
  (hQ:∀a' w',bZ w w'→K a' w'.heap→Q .normal a' w')(h:Ma P ops K (List.range ops.size) a w.heap):(Code.region id ops false).wp P Q a w:=
 wp_region (I1 hQ _ _ _ (bZ.refl w) h)
inductive Ot where
 |done
 |step(i:Nat)(t:Ot)
 |aJ(i:Nat)(t r:Ot)
 |stop
 deriving Inhabited
def kH(P:Program)(ops:Array Oper)(Inv:Hp→Prop)(st:Nat→Bool)(i:Nat)(K:Act→Hp→Prop)(a:Act)(H:Hp):Prop:=
 match ops[i]? with
 |none=>K a H
 |some o=>
  if Region.wanted o (yielded ops a.tmps)then
   match st i with
   |true=>∃v,(∀H',Inv H'→dX P o a H' fun v' GU=>v'=v∧GU=H')∧K (a.put o.dst v) H
   |false=>dX P o a H fun v H'=>Inv H'∧K (a.put o.dst v) H'
  else K (a.put o.dst undef) H
variable {Inv : Hp → Prop} {st : Nat → Bool}
theorem uI{i:Nat}{K K':Act→Hp→Prop}{a:Act}{H:Hp}(hI:Inv H)(hk:∀a H,Inv H→K a H→K' a H)
  (h:kH P ops Inv st i K a H):kH P ops Inv st i K' a H:=by
 unfold kH at*
 split
 ·exact hk _ _ hI (by simpa[*]using h)
 ·rename_i o ho
  simp only[ho]at h
  split
  ·rename_i hw
   rw[if_pos hw]at h
   cases hc:st i with
   |true=>rw[hc]at h;obtain⟨v,h1,h2⟩:=h;exact⟨v,h1,hk _ _ hI h2⟩
   |false=>rw[hc]at h;exact h.mono fun v H' ⟨k1,k2⟩=>⟨k1,hk _ _ k1 k2⟩
  ·rename_i hw;rw[if_neg hw]at h;exact hk _ _ hI h
theorem I5{i:Nat}{K:Act→Hp→Prop}{a:Act}{w:World}{K':Act→World→Prop}
  {Q:Exit→Act→World→Prop}(hI:Inv w.heap)(hk:∀a w',bZ w w'→Inv w'.heap→K a w'.heap→K' a w')(h:kH P ops Inv st i K a w.heap):wpOp P ops Q i K' a w:=by
 unfold kH at h
 unfold wpOp
 split
 ·rename_i ho;rw[ho]at h;exact hk _ _ (bZ.refl w) hI h
 ·rename_i o ho
  simp only[ho]at h
  split
  ·rename_i hw
   rw[if_pos hw]at h
   refine .inl ?_
   cases hc:st i with
   |true=>
    rw[hc]at h
    obtain⟨v,h1,h2⟩:=h
    exact(h1 w.heap hI).wp rfl fun v' w' hs ⟨e1,e2⟩=>by subst e1;exact hk _ _ hs (e2▸hI) (e2▸h2)
   |false=>rw[hc]at h;exact h.wp rfl fun v' w' hs ⟨k1,k2⟩=>hk _ _ hs k1 k2
  ·rename_i hw;rw[if_neg hw]at h;exact hk _ _ (bZ.refl w) hI h
def anyI(P:Program)(ops:Array Oper)(Inv:Hp→Prop)(st:Nat→Bool)(K:Act→Hp→Prop):Nat→Array Bool→Act→Hp→Prop
 |0,listed,a,H=>Region.ready .any ops listed=[]∧K a H
 |cX+1,listed,a,H=>
  (Region.ready .any ops listed=[]→K a H)∧
  ∀i∈Region.ready .any ops listed,kH P ops Inv st i (anyI P ops Inv st K cX (listed.setIfInBounds i true)) a H
theorem I6{K:Act→Hp→Prop}{Q:Exit→Act→World→Prop}{w₀:World}
  (hQ:∀a w,bZ w₀ w→K a w.heap→Q .normal a w):∀ (cX:Nat) (listed:Array Bool) (a:Act) (w:World),bZ w₀ w→Inv w.heap→
   anyI P ops Inv st K cX listed a w.heap→wpAny P .any ops Q cX listed a w:=by
 intro cX
 induction cX with
 |zero=>intro listed a w hs _ h;exact⟨h.1,hQ _ _ hs h.2⟩
 |succ cX ih=>
  intro listed a w hs hI h
  exact⟨fun hr=>hQ _ _ hs (h.1 hr),fun i hi=>I5 hI (fun a' w' FI UG hk=>ih _ _ _ (hs.trans FI) UG hk) (h.2 i hi)⟩
theorem aaJ{i j:Nat}{oi oj:Oper}(hi:ops[i]? =some oi)(hj:ops[j]? =some oj)(UE:oi.apart ops oj=true)(vu:st i=true)
  (hsi:∀cs b,oi.op≠ .select cs b)(hsj:∀cs b,oj.op≠ .select cs b){K:Act→Hp→Prop}{a:Act}{H:Hp}
  (h:kH P ops Inv st i (fun a' H'=>kH P ops Inv st j K a' H') a H):kH P ops Inv st j (fun a' H'=>kH P ops Inv st i K a' H') a H:=by
 obtain⟨h1,h2,h3⟩:=Oper.apart_spec UE
 have wi:∀u,Region.wanted oi (yielded ops (a.put oj.dst u).tmps)=Region.wanted oi (yielded ops a.tmps):=fun u=>wanted_put oi a oj.dst u h3
 have wj:∀u,Region.wanted oj (yielded ops (a.put oi.dst u).tmps)=Region.wanted oj (yielded ops a.tmps):=fun u=>wanted_put oj a oi.dst u h1
 have cm:∀v u,(a.put oi.dst v).put oj.dst u=(a.put oj.dst u).put oi.dst v:=fun v u=>Act.put_comm a v u h2
 unfold kH at*
 simp only[hi,hj,vu]at*
 simp only[wi,wj,cm,CC (P:=P) hsi h3,CC (P:=P) hsj h1]at*
 rcases lP (o:=oi) (y:=yielded ops a.tmps)with hwi|hwi<;>rcases lP (o:=oj) (y:=yielded ops a.tmps)with hwj|hwj<;>
  simp only[hwi,hwj,if_true,if_false,aoQ]at*
 ·cases WX:st j<;>simp only[WX]at h ⊢
  ·obtain⟨v,e1,k⟩:=h;exact k.mono fun u H' ⟨k1,k2⟩=>⟨k1,v,e1,k2⟩
  ·obtain⟨v,e1,u,e2,k⟩:=h;exact⟨u,e2,v,e1,k⟩
 ·exact h
 ·cases WX:st j<;>simp only[WX]at h ⊢ <;>exact h
 ·exact h
def kI(ops:Array Oper)(pM:Array Nat)(st:Nat→Bool)(listed:Array Bool)(i:Nat):Bool:=
 st i && match ops[i]? with
 |none=>false
 |some oi=>(List.range ops.size).all fun j=>j==i || listed.getD j false || (pM.getD j 0).testBit i ||
   match ops[j]? with
   |none=>false
   |some oj=>oi.apart ops oj
def T7(ops:Array Oper)(pM:Array Nat)(st:Nat→Bool):Ot→Array Bool→List Nat→Bool
 | .done,listed,_=>(Region.ready .any ops listed).isEmpty
 | .step i t,listed,_=>(Region.ready .any ops listed).contains i && kI ops pM st listed i && T7 ops pM st t (listed.setIfInBounds i true) []
 | .aJ i t r,listed,hd=>(Region.ready .any ops listed).contains i && T7 ops pM st t (listed.setIfInBounds i true) [] && T7 ops pM st r listed (i::hd)
 | .stop,listed,hd=> !(Region.ready .any ops listed).isEmpty && (Region.ready .any ops listed).all (hd.contains ·)
def Qr(P:Program)(ops:Array Oper)(Inv:Hp→Prop)(st:Nat→Bool)(K:Act→Hp→Prop):Ot→Act→Hp→Prop
 | .done,a,H=>K a H
 | .step i t,a,H=>kH P ops Inv st i (Qr P ops Inv st K t) a H
 | .aJ i t r,a,H=>kH P ops Inv st i (Qr P ops Inv st K t) a H∧Qr P ops Inv st K r a H
 | .stop,_,_=>True
theorem Qs{listed:Array Bool}{i j:Nat}(h:listed.getD j false=true):(listed.setIfInBounds i true).getD j false=true:=getD_set_true h
theorem GV{pM:Array Nat}{listed:Array Bool}{i j:Nat}(h:kI ops pM st listed i=true):kI ops pM st (listed.setIfInBounds j true) i=true:=by
 unfold kI at*
 rw[aoz]at*
 refine⟨h.1,?_⟩
 have h:=h.2
 split at h
 ·cases h
 ·rename_i oi ho
  rw[aoV]at*
  intro k hk
  have:=h k hk
  simp only[Bool.or_eq_true]at this ⊢
  rcases this with ((h|h)|h)|h
  ·exact .inl (.inl (.inl h))
  ·exact .inl (.inl (.inr (Qs h)))
  ·exact .inl (.inr h)
  ·exact .inr h
theorem lQ{listed:Array Bool}{i:Nat}(h:i∈Region.ready .any ops listed):listed.getD i false=false:=by
 obtain⟨hun,_⟩:=mem_ready.1 h
 rcases aoN i listed.size with h'|h'
 ·simpa[h']using hun
 ·simp[aoS h']
theorem Qt{pM:Array Nat}(D3:CD ops pM=true){K:Act→Hp→Prop}{i:Nat}{oi:Oper}(hi:ops[i]? =some oi)
  (D4:∀ (j:Nat) (o:Oper) cs b,ops[j]? =some o→o.op≠ .select cs b):
  ∀ (cX:Nat) (listed:Array Bool) (a:Act) (H:Hp),Inv H→xw ops listed→kI ops pM st listed i=true→
   i∈Region.ready .any ops listed→
   kH P ops Inv st i (anyI P ops Inv st K cX (listed.setIfInBounds i true)) a H→anyI P ops Inv st K (cX+1) listed a H:=by
 intro cX
 induction cX with
 |zero=>
  intro listed a H hI _ CF hr h
  refine⟨fun h0=>(by rw[h0]at hr;cases hr),fun j hj=>?_⟩
  by_cases Nl:j=i
  ·subst Nl;exact h
  ·exfalso
   have vu:st i=true:=by unfold kI at CF;rw[aoz]at CF;exact CF.1
   have GQ:Region.ready .any ops (listed.setIfInBounds i true)=[]:=by
    unfold kH at h
    simp only[hi,vu]at h
    split at h
    ·obtain⟨v,_,k⟩:=h;exact k.1
    ·exact h.1
   have:=ready_mono hj Nl
   rw[GQ]at this
   cases this
 |succ cX ih=>
  intro listed a H hI rB CF hr h
  refine⟨fun h0=>(by rw[h0]at hr;cases hr),fun j hj=>?_⟩
  by_cases Nl:j=i
  ·subst Nl;exact h
  ·obtain⟨aaH,oj,T6,fY⟩:=mem_ready.1 hj
   have hjs:=lQ hj
   have his:=lQ hr
   have vu:st i=true:=by have hf:=CF;unfold kI at hf;rw[aoz]at hf;exact hf.1
   have St:(pM.getD j 0).testBit i=false:=by
    cases hb:(pM.getD j 0).testBit i with
    |false=>rfl
    |true=>have:=GP D3 rB j oj T6 fY hb;rw[his]at this;cases this
   have UE:oi.apart ops oj=true:=by
    have hf:=CF
    unfold kI at hf
    rw[aoz]at hf
    have hf:=hf.2
    rw[hi]at hf
    simp only at hf
    have aR:j<ops.size:=(aoB.1 T6).1
    have:=(aoV.1 hf) j (aoD.2 aR)
    have aS:(j==i)=false:=by simpa using Nl
    simp only[T6,St,hjs,aS,apW]at this
    exact this
   have h2:kH P ops Inv st i (fun a' H'=>kH P ops Inv st j (anyI P ops Inv st K cX ((listed.setIfInBounds i true).setIfInBounds j true)) a' H') a H:=
    uI hI (fun a' H' _ hk=>hk.2 j (ready_mono hj Nl)) h
   have h3:=aaJ hi T6 UE vu (fun cs b=>D4 i oi cs b hi) (fun cs b=>D4 j oj cs b T6) h2
   refine uI hI (fun a' H' UG hk=>?_) h3
   refine ih (listed.setIfInBounds j true) a' H' UG (rB.set hj) (GV CF) (ready_mono hr (Ne.symm Nl)) ?_
   rw[Array.setIfInBounds_comm _ _ Nl];exact hk
theorem count_set:∀ (l:List Bool) (i:Nat),l[i]? =some false→(l.set i true).count false+1=l.count false:=by
 intro l
 induction l with
 |nil=>intro i h;simp at h
 |cons b l ih=>
  intro i h
  cases i with
  |zero=>
   simp only[an7,anK]at h
   subst h
   simp
  |succ i=>
   have:=ih i (by simpa using h)
   rw[aop,apr,apr]
   omega
theorem CG{listed:Array Bool}{i cX:Nat}(hs:listed.size=ops.size)(hc:listed.toList.count false=cX)(h:i∈Region.ready .any ops listed):
  ∃f,cX=f+1∧(listed.setIfInBounds i true).toList.count false=f∧(listed.setIfInBounds i true).size=ops.size:=by
 have h1:=lQ h
 obtain⟨_,o,ho,_⟩:=mem_ready.1 h
 have aR:i<listed.size:=by rw[hs];exact(aoB.1 ho).1
 have h2:listed.toList[i]? =some false:=by
  simp only[Array.getElem?_toList]
  simp[aR]at h1 ⊢
  exact h1
 have h3:=count_set _ i h2
 refine⟨(listed.setIfInBounds i true).toList.count false,?_,rfl,by simpa using hs⟩
 rw[Array.toList_setIfInBounds]
 omega
theorem Kz{pM:Array Nat}(D3:CD ops pM=true)(D4:Region.noSelect ops=true){K:Act→Hp→Prop}:
  ∀ (t:Ot) (listed:Array Bool) (hd:List Nat) (cX:Nat) (a:Act) (H:Hp),T7 ops pM st t listed hd=true→Inv H→xw ops listed→listed.size=ops.size→listed.toList.count false=cX→
   (∀i∈hd,i∈Region.ready .any ops listed→∃f,cX=f+1∧kH P ops Inv st i (anyI P ops Inv st K f (listed.setIfInBounds i true)) a H)→Qr P ops Inv st K t a H→anyI P ops Inv st K cX listed a H:=by
 intro t
 induction t with
 |done=>
  intro listed hd cX a H vh _ _ _ _ _ h
  simp only[T7,List.isEmpty_iff]at vh
  cases cX with
  |zero=>exact⟨vh,h⟩
  |succ cX=>exact⟨fun _=>h,fun i hi=>by rw[vh]at hi;cases hi⟩
 |step i t ih=>
  intro listed hd cX a H vh hI rB hs hc _ h
  simp only[T7,aoz,List.contains_iff_mem]at vh
  obtain⟨⟨hr,CF⟩,vh⟩:=vh
  obtain⟨f,rfl,LD,FI⟩:=CG hs hc hr
  obtain⟨_,o,ho,_⟩:=mem_ready.1 hr
  refine Qt D3 ho (Region.noSelect_spec D4) f listed a H hI rB CF hr ?_
  refine uI hI (fun a' H' UG hk=>?_) h
  exact ih _ [] f a' H' vh UG (rB.set hr) FI LD (fun i hi=>by cases hi) hk
 |aJ i t r iht ihr=>
  intro listed hd cX a H vh hI rB hs hc UH h
  simp only[T7,aoz,List.contains_iff_mem]at vh
  obtain⟨⟨hr,ae2⟩,ae3⟩:=vh
  obtain⟨f,rfl,LD,FI⟩:=CG hs hc hr
  refine ihr listed (i::hd) (f+1) a H ae3 hI rB hs hc ?_ h.2
  intro j hj hjr
  rcases anN.1 hj with rfl|hj
  ·refine⟨f,rfl,uI hI (fun a' H' UG hk=>?_) h.1⟩
   exact iht _ [] f a' H' ae2 UG (rB.set hr) FI LD (fun i hi=>by cases hi) hk
  ·exact UH j hj hjr
 |stop=>
  intro listed hd cX a H vh hI rB hs hc UH _
  simp only[T7,aoz,aoV,List.contains_iff_mem]at vh
  obtain⟨aS,fY⟩:=vh
  by_cases hre:Region.ready .any ops listed=[]
  ·exact absurd (List.isEmpty_iff.2 hre) (by simpa using aS)
  ·obtain⟨i,hi⟩:=List.exists_mem_of_ne_nil _ hre
   obtain⟨f,rfl,_⟩:=UH i (fY i hi) hi
   refine⟨fun h0=>absurd h0 hre,fun j hj=>?_⟩
   obtain⟨f',e,h⟩:=UH j (fY j hj) hj
   have:f'=f:=by omega
   subst this
   exact h
theorem GW{id:Nat}{pM:Array Nat}{t:Ot}(hm:P.follows .mixedOrders=true)(D3:CD ops pM=true)(vh:T7 ops pM st t (Array.replicate ops.size false) []=true)
  (D4:Region.noSelect ops=true){K:Act→Hp→Prop}{Q:Exit→Act→World→Prop}{a:Act}{w:World}(hI:Inv w.heap)
  (hQ:∀a' w',bZ w w'→K a' w'.heap→Q .normal a' w')(h:Qr P ops Inv st K t a w.heap):(Code.region id ops true).wp P Q a w:=by
 refine wp_region_any hm ?_
 refine I6 (Inv:=Inv) (st:=st) (K:=K) (w₀:=w) hQ _ _ _ _ ⟨rfl,rfl⟩ hI ?_
 refine Kz D3 D4 t _ [] _ _ _ vh hI ?_ (by simp) (by simp) (fun i hi=>by cases hi) h
 intro k ok _ hl
 exfalso
 by_cases hk:k<ops.size<;>simp[hk]at hl
end
end Go.Vc
