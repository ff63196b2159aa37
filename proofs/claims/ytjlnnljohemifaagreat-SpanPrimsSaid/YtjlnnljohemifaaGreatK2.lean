/- Texts put behind each other. -/
import Derived.Test.YtjlnnljohemifaaGreatK98
import Derived.Orders
import Derived.Laws.Sem
import Derived.Laws.World
import Derived.KernelRfl
set_option maxRecDepth 100000
set_option maxHeartbeats 8000000
namespace Go.Vc
structure Tag{α:Sort _}(F:α):Type where
abbrev Hp:=Array Obj
structure bX(w w':World):Prop where
 os:w'.os=w.os
 output:w'.output=w.output
theorem bX.refl(w:World):bX w w:=⟨rfl,rfl⟩
theorem bX.trans{a b c:World}(h:bX a b)(k:bX b c):bX a c:=⟨k.os.trans h.os,k.output.trans h.output⟩
def af(P:Program)(f:FuncId)(args:List Value)(H:Hp)(K:Value→Hp→Prop)(_t:Tag K:=⟨⟩):Prop:=
 ∀w,w.heap=H→Calls P f args.toArray w fun e w'=>∃v,e= .returned v∧bX w w'∧K v w'.heap
theorem af.mono{P:Program}{f:FuncId}{args:List Value}{H:Hp}{K K':Value→Hp→Prop}(h:af P f args H K)(hk:∀v H',K v H'→K' v H'):
  af P f args H K':=
 fun w hw=>(h w hw).mono fun _ _ ⟨v,e,s,k⟩=>⟨v,e,s,hk _ _ k⟩
def dJ(P:Program)(o:Oper)(a:Act)(H:Hp)(K:Value→Hp→Prop):Prop:=
 ∀w,w.heap=H→
  (∃v w',(execOp a.eval o).run P w= .ok (.value v) w'∧bX w w'∧K v w'.heap)∨
  (∃w',(execOp a.eval o).run P w= .ok .skip w'∧bX w w'∧K undef w'.heap)∨
  (∃f args w',(execOp a.eval o).run P w= .ok (.enter f args) w'∧bX w w'∧af P f args.toList w'.heap K)
theorem dJ.mono{P:Program}{o:Oper}{a:Act}{H:Hp}{K K':Value→Hp→Prop}(h:dJ P o a H K)(hk:∀v H',K v H'→K' v H'):dJ P o a H K':=by
 intro w hw
 rcases h w hw with ⟨v,w',h1,h2,h3⟩| ⟨w',h1,h2,h3⟩| ⟨f,args,w',h1,h2,h3⟩
 ·exact .inl ⟨v,w',h1,h2,hk _ _ h3⟩
 ·exact .inr (.inl ⟨w',h1,h2,hk _ _ h3⟩)
 ·exact .inr (.inr ⟨f,args,w',h1,h2,h3.mono hk⟩)
theorem dJ.wp{P:Program}{o:Oper}{a:Act}{H:Hp}{K:Value→Hp→Prop}{next:Act→World→Prop}{Q:Exit→Act→World→Prop}{w:World}
  (h:dJ P o a H K)(hw:w.heap=H)(hn:∀v w',bX w w'→K v w'.heap→next (a.put o.dst v) w'):o.wp P a w next Q:=by
 unfold Oper.wp
 rcases h w hw with ⟨v,w',h1,h2,h3⟩| ⟨w',h1,h2,h3⟩| ⟨f,args,w',h1,h2,h3⟩
 ·rw[h1];exact hn _ _ h2 h3
 ·rw[h1];exact hn _ _ h2 h3
 ·rw[h1]
  have h4:=h3 w' rfl
  simp only[aoP]at h4
  show Calls P f args w' _
  refine h4.mono fun e w'' he=>?_
  obtain⟨v,rfl,hs,hk⟩:=he
  exact hn _ _ (h2.trans hs) hk
def JP(P:Program)(ops:Array Oper)(K:Act→Hp→Prop):List Nat→Act→Hp→Prop
 | [],a,H=>K a H
 |i::r,a,H=>
  match ops[i]? with
  |none=>JP P ops K r a H
  |some o=>if Region.wanted o (yielded ops a.tmps)then dJ P o a H (fun v H'=>JP P ops K r (a.put o.dst v) H')else JP P ops K r (a.put o.dst undef) H
theorem Gi{P:Program}{ops:Array Oper}{K:Act→Hp→Prop}{Q:Exit→Act→World→Prop}{w₀:World}
  (hQ:∀a w,bX w₀ w→K a w.heap→Q .normal a w):∀ (l:List Nat) (a:Act) (w:World),bX w₀ w→JP P ops K l a w.heap→wpOps P ops Q l a w:=by
 intro l
 induction l with
 |nil=>intro a w hs h;exact hQ a w hs h
 |cons i r ih=>
  intro a w hs h
  simp only[wpOps,JP]at*
  cases ho:ops[i]? with
  |none=>rw[ho]at h;exact ih _ _ hs h
  |some o=>
   rw[ho]at h
   simp only at h ⊢
   split
   ·rename_i hw
    rw[if_pos hw]at h
    exact .inl (h.wp rfl fun v w' CU hk=>ih _ _ (hs.trans CU) hk)
   ·rename_i hw
    rw[if_neg hw]at h
    exact ih _ _ hs h
inductive JQ where
 |pure|quiet|Gj
 deriving DecidableEq,Inhabited
def js(P:Program)(ops:Array Oper)(cls:Nat→JQ)(i:Nat)(K:Act→Hp→Prop)(a:Act)(H:Hp):Prop:=
 match ops[i]? with
 |none=>K a H
 |some o=>
  if Region.wanted o (yielded ops a.tmps)then
   match cls i with
   | .pure=>∃v,(∀w,(execOp a.eval o).run P w= .ok (.value v) w)∧K (a.put o.dst v) H
   | .quiet=>∃v,dJ P o a H (fun v' H'=>v'=v∧H'=H)∧K (a.put o.dst v) H
   | .Gj=>dJ P o a H fun v H'=>K (a.put o.dst v) H'
  else K (a.put o.dst undef) H
theorem xT{P:Program}{ops:Array Oper}{cls:Nat→JQ}{i:Nat}{K K':Act→Hp→Prop}{a:Act}{H:Hp}(hk:∀a H,K a H→K' a H)
  (h:js P ops cls i K a H):js P ops cls i K' a H:=by
 unfold js at*
 split
 ·exact hk _ _ (by simpa[*]using h)
 ·rename_i o ho
  simp only[ho]at h
  split
  ·rename_i hw
   rw[if_pos hw]at h
   cases hc:cls i with
   |pure=>rw[hc]at h;obtain⟨v,h1,h2⟩:=h;exact⟨v,h1,hk _ _ h2⟩
   |quiet=>rw[hc]at h;obtain⟨v,h1,h2⟩:=h;exact⟨v,h1,hk _ _ h2⟩
   |Gj=>rw[hc]at h;exact h.mono fun v H'=>hk _ _
  ·rename_i hw;rw[if_neg hw]at h;exact hk _ _ h
theorem zB{P:Program}{o:Oper}{a:Act}{v:Value}(h:∀w,(execOp a.eval o).run P w= .ok (.value v) w)(H:Hp):
  dJ P o a H fun v' H'=>v'=v∧H'=H:=fun w hw=>.inl ⟨v,w,h w,bX.refl w,rfl,hw⟩
theorem Gk{P:Program}{ops:Array Oper}{cls:Nat→JQ}{i:Nat}{K:Act→Hp→Prop}{a:Act}{w:World}{K':Act→World→Prop}
  {Q:Exit→Act→World→Prop}(hk:∀a w',bX w w'→K a w'.heap→K' a w')(h:js P ops cls i K a w.heap):wpOp P ops Q i K' a w:=by
 unfold js at h
 unfold wpOp
 split
 ·rename_i ho;rw[ho]at h;exact hk _ _ (bX.refl w) h
 ·rename_i o ho
  simp only[ho]at h
  split
  ·rename_i hw
   rw[if_pos hw]at h
   refine .inl ?_
   cases hc:cls i with
   |pure=>
    rw[hc]at h
    obtain⟨v,h1,h2⟩:=h
    exact(zB h1 w.heap).wp rfl fun v' w' hs ⟨e1,e2⟩=>by subst e1;exact hk _ _ hs (e2▸h2)
   |quiet=>
    rw[hc]at h
    obtain⟨v,h1,h2⟩:=h
    exact h1.wp rfl fun v' w' hs ⟨e1,e2⟩=>by subst e1;exact hk _ _ hs (e2▸h2)
   |Gj=>rw[hc]at h;exact h.wp rfl fun v' w' hs JM=>hk _ _ hs JM
  ·rename_i hw;rw[if_neg hw]at h;exact hk _ _ (bX.refl w) h
def Ol(P:Program)(ops:Array Oper)(cls:Nat→JQ)(K:Act→Hp→Prop):Nat→Array Bool→Act→Hp→Prop
 |0,listed,a,H=>Region.ready .any ops listed=[]∧K a H
 |cQ+1,listed,a,H=>
  (Region.ready .any ops listed=[]→K a H)∧
  ∀i∈Region.ready .any ops listed,js P ops cls i (Ol P ops cls K cQ (listed.setIfInBounds i true)) a H
theorem Gl{P:Program}{ops:Array Oper}{cls:Nat→JQ}{K:Act→Hp→Prop}{Q:Exit→Act→World→Prop}{w₀:World}
  (hQ:∀a w,bX w₀ w→K a w.heap→Q .normal a w):∀ (cQ:Nat) (listed:Array Bool) (a:Act) (w:World),bX w₀ w→
   Ol P ops cls K cQ listed a w.heap→wpAny P .any ops Q cQ listed a w:=by
 intro cQ
 induction cQ with
 |zero=>intro listed a w hs h;exact⟨h.1,hQ _ _ hs h.2⟩
 |succ cQ ih=>
  intro listed a w hs h
  exact⟨fun hr=>hQ _ _ hs (h.1 hr),fun i hi=>Gk (fun a' w' CU hk=>ih _ _ _ (hs.trans CU) hk) (h.2 i hi)⟩
def JQ.Ni:JQ→JQ→Bool
 | .pure,_=>true
 |_,.pure=>true
 | .quiet,.quiet=>true
 |_,_=>false
section
variable {P : Program} {ops : Array Oper} {cls : Nat → JQ}
theorem zC(H:Hp):∃w:World,w.heap=H:=⟨{ (default:World)with heap:=H},rfl⟩
theorem iQ{o:Oper}{y:Nat→Option Bool}:Region.wanted o y=true∨Region.wanted o y=false:=by cases Region.wanted o y<;>simp
theorem zD{o:Oper}{a:Act}{dst:Option Tmp}{u:Value}(hs:∀cs b,o.op≠ .select cs b)(h:∀d,dst=some d→d∉o.looksAt ops){H:Hp}{K:Value→Hp→Prop}:
  dJ P o (a.put dst u) H K↔dJ P o a H K:=by
 unfold dJ
 rw[execOp_put (ops:=ops) o hs a dst u h]
theorem Zp{i j:Nat}{oi oj:Oper}(hi:ops[i]? =some oi)(hj:ops[j]? =some oj)(SA:oi.apart ops oj=true)(Vj:(cls i).Ni (cls j)=true)
  (hsi:∀cs b,oi.op≠ .select cs b)(hsj:∀cs b,oj.op≠ .select cs b){K:Act→Hp→Prop}{a:Act}{H:Hp}
  (h:js P ops cls i (fun a' H'=>js P ops cls j K a' H') a H):js P ops cls j (fun a' H'=>js P ops cls i K a' H') a H:=by
 obtain⟨h1,h2,h3⟩:=Oper.apart_spec SA
 have wi:∀u,Region.wanted oi (yielded ops (a.put oj.dst u).tmps)=Region.wanted oi (yielded ops a.tmps):=fun u=>wanted_put oi a oj.dst u h3
 have wj:∀u,Region.wanted oj (yielded ops (a.put oi.dst u).tmps)=Region.wanted oj (yielded ops a.tmps):=fun u=>wanted_put oj a oi.dst u h1
 have ei:∀u,execOp (a.put oj.dst u).eval oi=execOp a.eval oi:=fun u=>execOp_put oi hsi a oj.dst u h3
 have ej:∀u,execOp (a.put oi.dst u).eval oj=execOp a.eval oj:=fun u=>execOp_put oj hsj a oi.dst u h1
 have cm:∀v u,(a.put oi.dst v).put oj.dst u=(a.put oj.dst u).put oi.dst v:=fun v u=>Act.put_comm a v u h2
 unfold js at*
 simp only[hi,hj]at*
 simp only[wi,wj,ei,ej,cm,zD (P:=P) hsi h3,zD (P:=P) hsj h1]at*
 rcases iQ (o:=oi) (y:=yielded ops a.tmps)with RT|RT<;>rcases iQ (o:=oj) (y:=yielded ops a.tmps)with SC|SC<;>
  simp only[RT,SC,if_true,if_false,aof]at*
 ·cases Vk:cls i<;>cases Vl:cls j<;>simp only[Vk,Vl,JQ.Ni,aof]at h Vj ⊢
  ·obtain⟨v,e1,u,e2,k⟩:=h;exact⟨u,e2,v,e1,k⟩
  ·obtain⟨v,e1,u,e2,k⟩:=h;exact⟨u,e2,v,e1,k⟩
  ·obtain⟨v,e1,k⟩:=h;exact k.mono fun u H' k'=>⟨v,e1,k'⟩
  ·obtain⟨v,e1,u,e2,k⟩:=h;exact⟨u,e2,v,e1,k⟩
  ·obtain⟨v,e1,u,e2,k⟩:=h;exact⟨u,e2,v,e1,k⟩
  ·obtain⟨w,hw⟩:=zC H
   have pick:∃u,∀w,(execOp a.eval oj).run P w= .ok (.value u) w:=by
    rcases h w hw with ⟨v,w',_,_,u,e,_⟩| ⟨w',_,_,u,e,_⟩| ⟨f,args,w',_,_,hc⟩
    ·exact⟨u,e⟩
    ·exact⟨u,e⟩
    ·obtain⟨e,w'',fr,⟨v,_,_,u,eu,_⟩,_⟩:=hc w' rfl []
     exact⟨u,eu⟩
   obtain⟨u,eu⟩:=pick
   refine⟨u,eu,h.mono fun v H' ⟨u',eu',k⟩=>?_⟩
   have:=eu w
   rw[eu' w]at this
   injection this with h1 h2
   injection h1 with h1
   exact h1▸k
 ·cases Vk:cls i<;>simp only[Vk]at h ⊢ <;>exact h
 ·cases Vl:cls j<;>simp only[Vl]at h ⊢ <;>exact h
 ·exact h
def sX(ops:Array Oper)(listed:Array Bool):Prop:=
 ∀k ok,ops[k]? =some ok→listed.getD k false=true→∀e∈ok.after,Region.binds .any e=true→listed.getD e.on false=true
theorem sX.set{listed:Array Bool}(h:sX ops listed){i:Nat}(hi:i∈Region.ready .any ops listed):sX ops (listed.setIfInBounds i true):=by
 intro k ok hk hl e he hb
 by_cases hik:i=k
 ·subst hik
  obtain⟨_,o,ho,cR⟩:=mem_ready.1 hi
  rw[hk]at ho
  injection ho with ho
  subst ho
  exact getD_set_true (cR e he hb)
 ·rw[getD_set_ne false hik]at hl
  exact getD_set_true (h k ok hk hl e he hb)
def up(lF:Array Nat)(o:Oper):Nat:=o.after.toList.foldl (fun s e=>if Region.binds .any e then s ||| (2^e.on |||lF.getD e.on 0)else s) 0
theorem LJ{lF:Array Nat}{i:Nat}:∀ (l:List Edge) (s:Nat),
  (l.foldl (fun s e=>if Region.binds .any e then s ||| (2^e.on |||lF.getD e.on 0)else s) s).testBit i=true→
   s.testBit i=true∨∃e∈l,Region.binds .any e=true∧(e.on=i∨(lF.getD e.on 0).testBit i=true):=by
 intro l
 induction l with
 |nil=>intro s h;exact .inl h
 |cons e l ih=>
  intro s h
  rw[List.foldl_cons]at h
  rcases ih _ h with h| ⟨x,hx,h⟩
  ·split at h
   ·rename_i hb
    rw[Nat.testBit_or,Nat.testBit_or,Nat.testBit_two_pow]at h
    simp only[ao2,anF]at h
    rcases h with h|h|h
    ·exact .inl h
    ·exact .inr ⟨e,anZ,hb,.inl h⟩
    ·exact .inr ⟨e,anZ,hb,.inr h⟩
   ·exact .inl h
  ·exact .inr ⟨x,anK _ hx,h⟩
def zE(ops:Array Oper)(lF:Array Nat):Bool:=
 (List.range ops.size).all fun j=>
  match ops[j]? with
  |none=>false
  |some oj=>oj.after.all (fun e=> !Region.binds .any e || decide (e.on<j)) && (lF.getD j 0 |||up lF oj==up lF oj)
theorem D9{lF:Array Nat}(h:zE ops lF=true){listed:Array Bool}(hc:sX ops listed){i:Nat}:∀ (j:Nat) (oj:Oper),ops[j]? =some oj→
  (∀e∈oj.after,Region.binds .any e=true→listed.getD e.on false=true)→(lF.getD j 0).testBit i=true→listed.getD i false=true:=by
 intro j
 induction j using Nat.strongRecOn with
 |_ j ih=>
  intro oj hj cR hb
  have aK:j<ops.size:=(aoa.1 hj).1
  have h1:=(aok.1 h) j (aog.2 aK)
  simp only[hj,an4,beq_iff_eq]at h1
  obtain⟨If,I4⟩:=h1
  have hu:(up lF oj).testBit i=true:=by rw[←I4,Nat.testBit_or,hb,Bool.true_or]
  rcases LJ _ _ hu with h0| ⟨e,he,SD,h2⟩
  ·simp at h0
  ·have hem:e∈oj.after:=by simpa using he
   have hl:=cR e hem SD
   rcases h2 with h2|h2
   ·exact h2▸hl
   ·have aed:e.on<j:=by
     have:=(aoK.1 If) e hem
     simpa[SD]using this
    cases Zq:ops[e.on]? with
    |none=>
     have:ops.size≤e.on:=by simpa using Zq
     omega
    |some oe=>exact ih e.on aed oe Zq (hc e.on oe Zq hl) h2
def zF(ops:Array Oper)(lF:Array Nat)(cls:Nat→JQ):Bool:=
 (List.range ops.size).all fun j=>
  match ops[j]? with
  |none=>false
  |some oj=>(List.range j).all fun i=>(lF.getD j 0).testBit i ||
    match ops[i]? with
    |none=>false
    |some oi=>oi.apart ops oj && (cls i).Ni (cls j)
theorem Ig{lF:Array Nat}(h:zF ops lF cls=true){i j:Nat}{oi oj:Oper}(hi:ops[i]? =some oi)(hj:ops[j]? =some oj)(I5:i<j)
  (hn:(lF.getD j 0).testBit i=false):oi.apart ops oj=true∧(cls i).Ni (cls j)=true:=by
 have aK:j<ops.size:=(aoa.1 hj).1
 have h1:=(aok.1 h) j (aog.2 aK)
 simp only[hj,aok,aog]at h1
 have h2:=h1 i I5
 simp only[hi,hn,apo,an4]at h2
 exact h2
theorem LK{lF:Array Nat}(Bo:zE ops lF=true)(Vj:zF ops lF cls=true){K:Act→Hp→Prop}{i:Nat}{oi:Oper}(hi:ops[i]? =some oi)
  (Bp:∀ (j:Nat) (o:Oper) cs b,ops[j]? =some o→o.op≠ .select cs b):
  ∀ (cQ:Nat) (listed:Array Bool) (a:Act) (H:Hp),sX ops listed→(∀j,j<i→listed.getD j false=true)→
   i∈Region.ready .any ops listed→
   js P ops cls i (Ol P ops cls K cQ (listed.setIfInBounds i true)) a H→Ol P ops cls K (cQ+1) listed a H:=by
 intro cQ
 induction cQ with
 |zero=>
  intro listed a H _ _ hr h
  refine⟨fun h0=>(by rw[h0]at hr;cases hr),fun j hj=>?_⟩
  by_cases La:j=i
  ·subst La;exact h
  ·exfalso
   have Ea:Region.ready .any ops (listed.setIfInBounds i true)=[]:=by
    unfold js at h
    simp only[hi]at h
    split at h
    ·cases hc:cls i<;>simp only[hc]at h
     ·obtain⟨v,_,k⟩:=h;exact k.1
     ·obtain⟨v,_,k⟩:=h;exact k.1
     ·obtain⟨w,hw⟩:=zC H
      rcases h w hw with ⟨v,w',_,_,k⟩| ⟨w',_,_,k⟩| ⟨f,args,w',_,_,hc⟩
      ·exact k.1
      ·exact k.1
      ·obtain⟨e,w'',fr,⟨v,_,_,k⟩,_⟩:=hc w' rfl []
       exact k.1
    ·exact h.1
   have:=ready_mono hj La
   rw[Ea]at this
   cases this
 |succ cQ ih=>
  intro listed a H mK Om hr h
  refine⟨fun h0=>(by rw[h0]at hr;cases hr),fun j hj=>?_⟩
  by_cases La:j=i
  ·subst La;exact h
  ·obtain⟨Zr,oj,RU,cR⟩:=mem_ready.1 hj
   have aee:=(mem_ready.1 hr).1
   have hjs:listed.getD j false=false:=by
    rcases aow j listed.size with h'|h'
    ·simpa[h']using Zr
    ·simp[aou h']
   have his:listed.getD i false=false:=by
    rcases aow i listed.size with h'|h'
    ·simpa[h']using aee
    ·simp[aou h']
   have I5:i<j:=by
    rcases aow i j with h'|h'
    ·exact h'
    ·have h1:=Om j (by omega)
     rw[hjs]at h1;cases h1
   have Vm:(lF.getD j 0).testBit i=false:=by
    cases hb:(lF.getD j 0).testBit i with
    |false=>rfl
    |true=>have:=D9 Bo mK j oj RU cR hb;rw[his]at this;cases this
   obtain⟨SA,Zt⟩:=Ig Vj hi RU I5 Vm
   have h2:js P ops cls i (fun a' H'=>js P ops cls j (Ol P ops cls K cQ ((listed.setIfInBounds i true).setIfInBounds j true)) a' H') a H:=
    xT (fun a' H' hk=>hk.2 j (ready_mono hj La)) h
   have h3:=Zp hi RU SA Zt (fun cs b=>Bp i oi cs b hi) (fun cs b=>Bp j oj cs b RU) h2
   refine xT (fun a' H' hk=>?_) h3
   refine ih (listed.setIfInBounds j true) a' H' (mK.set hj) (fun k JM=>getD_set_true (Om k JM)) (ready_mono hr (Ne.symm La)) ?_
   rw[Array.setIfInBounds_comm _ _ La];exact hk
def Qe(P:Program)(ops:Array Oper)(cls:Nat→JQ)(K:Act→Hp→Prop):List Nat→Act→Hp→Prop
 | [],a,H=>K a H
 |i::r,a,H=>js P ops cls i (Qe P ops cls K r) a H
theorem Ih{lF:Array Nat}(Bo:zE ops lF=true)(Vj:zF ops lF cls=true)(Bp:Region.noSelect ops=true){K:Act→Hp→Prop}:
  ∀ (m k:Nat) (listed:Array Bool) (a:Act) (H:Hp),k+m=ops.size→listed.size=ops.size→(∀j,listed.getD j false=decide (j<k))→
   Qe P ops cls K (List.range' k m) a H→Ol P ops cls K m listed a H:=by
 intro m
 induction m with
 |zero=>
  intro k listed a H hk hs hl h
  refine⟨?_,h⟩
  refine List.eq_nil_iff_forall_not_mem.2 fun j hj=>?_
  obtain⟨h0,o,ho,_⟩:=mem_ready.1 hj
  have aK:j<ops.size:=(aoa.1 ho).1
  have h1:=hl j
  rw[anp (by omega)]at h1
  simp[show j<listed.size by omega]at h0 h1
  rw[h0]at h1;cases h1
 |succ m ih=>
  intro k listed a H hk hs hl h
  have aK:k<ops.size:=by omega
  obtain⟨o,ho⟩:∃o,ops[k]? =some o:=⟨ops[k],by simp[aK]⟩
  have SE:sX ops listed:=by
   intro x ox hx Sg e he hb
   have jA:x<ops.size:=(aoa.1 hx).1
   have h1:=(aok.1 Bo) x (aog.2 jA)
   simp only[hx,an4]at h1
   have h2:=(aoK.1 h1.1) e he
   simp only[hb,ao6,apo,anF]at h2
   rw[hl x,anF]at Sg
   rw[hl e.on]
   exact anp (by omega)
  have Ea:k∈Region.ready .any ops listed:=by
   refine mem_ready.2 ⟨?_,o,ho,fun e he hb=>?_⟩
   ·have h1:=hl k
    rw[anD (by omega)]at h1
    simpa[show k<listed.size by omega]using h1
   ·have h1:=(aok.1 Bo) k (aog.2 aK)
    simp only[ho,an4]at h1
    have h2:=(aoK.1 h1.1) e he
    simp only[hb,ao6,apo,anF]at h2
    rw[hl e.on];exact anp h2
  refine LK Bo Vj ho (Region.noSelect_spec Bp) m listed a H SE (fun j hj=>by rw[hl j];exact anp hj) Ea ?_
  rw[List.range'_succ]at h
  simp only[Qe]at h
  refine xT (fun a' H' JM=>ih (k+1) _ a' H' (by omega) (by simpa using hs) (fun j=>?_) JM) h
  by_cases XT:k=j
  ·subst XT
   simp[show k<listed.size by omega]
  ·rw[getD_set_ne false XT,hl j]
   by_cases hjk:j<k
   ·rw[anp hjk,anp (by omega)]
   ·rw[anD hjk,anD (by omega)]
theorem Eb{id:Nat}{lF:Array Nat}(hm:P.follows .mixedOrders=true)(Bo:zE ops lF=true)(Vj:zF ops lF cls=true)
  (Bp:Region.noSelect ops=true){K:Act→Hp→Prop}{Q:Exit→Act→World→Prop}{a:Act}{w:World}
  (hQ:∀a' w',bX w w'→K a' w'.heap→Q .normal a' w')(h:Qe P ops cls K (List.range ops.size) a w.heap):(Code.region id ops true).wp P Q a w:=by
 refine wp_region_any hm ?_
 refine Gl (cls:=cls) (K:=K) (w₀:=w) hQ _ _ _ _ ⟨rfl,rfl⟩ ?_
 refine Ih Bo Vj Bp ops.size 0 _ _ _ (by omega) (by simp) (fun j=>?_) (by rw[List.range_eq_range']at h;exact h)
 simp only[Nat.not_lt_zero,decide_false]
 by_cases hj:j<ops.size<;>simp[hj]
theorem Ec{id:Nat}{K:Act→Hp→Prop}{Q:Exit→Act→World→Prop}{a:Act}{w:World}
  (hQ:∀a' w',bX w w'→K a' w'.heap→Q .normal a' w')(h:JP P ops K (List.range ops.size) a w.heap):(Code.region id ops false).wp P Q a w:=
 wp_region (Gi hQ _ _ _ (bX.refl w) h)
inductive Ot where
 |done
 |step(i:Nat)(t:Ot)
 |zG(i:Nat)(t r:Ot)
 |stop
 deriving Inhabited
def ie(P:Program)(ops:Array Oper)(Inv:Hp→Prop)(st:Nat→Bool)(i:Nat)(K:Act→Hp→Prop)(a:Act)(H:Hp):Prop:=
 match ops[i]? with
 |none=>K a H
 |some o=>
  if Region.wanted o (yielded ops a.tmps)then
   match st i with
   |true=>∃v,(∀H',Inv H'→dJ P o a H' fun v' Fx=>v'=v∧Fx=H')∧K (a.put o.dst v) H
   |false=>dJ P o a H fun v H'=>Inv H'∧K (a.put o.dst v) H'
  else K (a.put o.dst undef) H
variable {Inv : Hp → Prop} {st : Nat → Bool}
theorem pZ{i:Nat}{K K':Act→Hp→Prop}{a:Act}{H:Hp}(hI:Inv H)(hk:∀a H,Inv H→K a H→K' a H)
  (h:ie P ops Inv st i K a H):ie P ops Inv st i K' a H:=by
 unfold ie at*
 split
 ·exact hk _ _ hI (by simpa[*]using h)
 ·rename_i o ho
  simp only[ho]at h
  split
  ·rename_i hw
   rw[if_pos hw]at h
   cases hc:st i with
   |true=>rw[hc]at h;obtain⟨v,h1,h2⟩:=h;exact⟨v,h1,hk _ _ hI h2⟩
   |false=>rw[hc]at h;exact h.mono fun v H' ⟨k1,k2⟩=>⟨k1,hk _ _ k1 k2⟩
  ·rename_i hw;rw[if_neg hw]at h;exact hk _ _ hI h
theorem Gm{i:Nat}{K:Act→Hp→Prop}{a:Act}{w:World}{K':Act→World→Prop}
  {Q:Exit→Act→World→Prop}(hI:Inv w.heap)(hk:∀a w',bX w w'→Inv w'.heap→K a w'.heap→K' a w')(h:ie P ops Inv st i K a w.heap):wpOp P ops Q i K' a w:=by
 unfold ie at h
 unfold wpOp
 split
 ·rename_i ho;rw[ho]at h;exact hk _ _ (bX.refl w) hI h
 ·rename_i o ho
  simp only[ho]at h
  split
  ·rename_i hw
   rw[if_pos hw]at h
   refine .inl ?_
   cases hc:st i with
   |true=>
    rw[hc]at h
    obtain⟨v,h1,h2⟩:=h
    exact(h1 w.heap hI).wp rfl fun v' w' hs ⟨e1,e2⟩=>by subst e1;exact hk _ _ hs (e2▸hI) (e2▸h2)
   |false=>rw[hc]at h;exact h.wp rfl fun v' w' hs ⟨k1,k2⟩=>hk _ _ hs k1 k2
  ·rename_i hw;rw[if_neg hw]at h;exact hk _ _ (bX.refl w) hI h
def anyI(P:Program)(ops:Array Oper)(Inv:Hp→Prop)(st:Nat→Bool)(K:Act→Hp→Prop):Nat→Array Bool→Act→Hp→Prop
 |0,listed,a,H=>Region.ready .any ops listed=[]∧K a H
 |cQ+1,listed,a,H=>
  (Region.ready .any ops listed=[]→K a H)∧
  ∀i∈Region.ready .any ops listed,ie P ops Inv st i (anyI P ops Inv st K cQ (listed.setIfInBounds i true)) a H
theorem Gn{K:Act→Hp→Prop}{Q:Exit→Act→World→Prop}{w₀:World}
  (hQ:∀a w,bX w₀ w→K a w.heap→Q .normal a w):∀ (cQ:Nat) (listed:Array Bool) (a:Act) (w:World),bX w₀ w→Inv w.heap→
   anyI P ops Inv st K cQ listed a w.heap→wpAny P .any ops Q cQ listed a w:=by
 intro cQ
 induction cQ with
 |zero=>intro listed a w hs _ h;exact⟨h.1,hQ _ _ hs h.2⟩
 |succ cQ ih=>
  intro listed a w hs hI h
  exact⟨fun hr=>hQ _ _ hs (h.1 hr),fun i hi=>Gm hI (fun a' w' CU SF hk=>ih _ _ _ (hs.trans CU) SF hk) (h.2 i hi)⟩
theorem Zu{i j:Nat}{oi oj:Oper}(hi:ops[i]? =some oi)(hj:ops[j]? =some oj)(SA:oi.apart ops oj=true)(sY:st i=true)
  (hsi:∀cs b,oi.op≠ .select cs b)(hsj:∀cs b,oj.op≠ .select cs b){K:Act→Hp→Prop}{a:Act}{H:Hp}
  (h:ie P ops Inv st i (fun a' H'=>ie P ops Inv st j K a' H') a H):ie P ops Inv st j (fun a' H'=>ie P ops Inv st i K a' H') a H:=by
 obtain⟨h1,h2,h3⟩:=Oper.apart_spec SA
 have wi:∀u,Region.wanted oi (yielded ops (a.put oj.dst u).tmps)=Region.wanted oi (yielded ops a.tmps):=fun u=>wanted_put oi a oj.dst u h3
 have wj:∀u,Region.wanted oj (yielded ops (a.put oi.dst u).tmps)=Region.wanted oj (yielded ops a.tmps):=fun u=>wanted_put oj a oi.dst u h1
 have cm:∀v u,(a.put oi.dst v).put oj.dst u=(a.put oj.dst u).put oi.dst v:=fun v u=>Act.put_comm a v u h2
 unfold ie at*
 simp only[hi,hj,sY]at*
 simp only[wi,wj,cm,zD (P:=P) hsi h3,zD (P:=P) hsj h1]at*
 rcases iQ (o:=oi) (y:=yielded ops a.tmps)with RT|RT<;>rcases iQ (o:=oj) (y:=yielded ops a.tmps)with SC|SC<;>
  simp only[RT,SC,if_true,if_false,aof]at*
 ·cases Vl:st j<;>simp only[Vl]at h ⊢
  ·obtain⟨v,e1,k⟩:=h;exact k.mono fun u H' ⟨k1,k2⟩=>⟨k1,v,e1,k2⟩
  ·obtain⟨v,e1,u,e2,k⟩:=h;exact⟨u,e2,v,e1,k⟩
 ·exact h
 ·cases Vl:st j<;>simp only[Vl]at h ⊢ <;>exact h
 ·exact h
def ij(ops:Array Oper)(lF:Array Nat)(st:Nat→Bool)(listed:Array Bool)(i:Nat):Bool:=
 st i && match ops[i]? with
 |none=>false
 |some oi=>(List.range ops.size).all fun j=>j==i || listed.getD j false || (lF.getD j 0).testBit i ||
   match ops[j]? with
   |none=>false
   |some oj=>oi.apart ops oj
def RV(ops:Array Oper)(lF:Array Nat)(st:Nat→Bool):Ot→Array Bool→List Nat→Bool
 | .done,listed,_=>(Region.ready .any ops listed).isEmpty
 | .step i t,listed,_=>(Region.ready .any ops listed).contains i && ij ops lF st listed i && RV ops lF st t (listed.setIfInBounds i true) []
 | .zG i t r,listed,hd=>(Region.ready .any ops listed).contains i && RV ops lF st t (listed.setIfInBounds i true) [] && RV ops lF st r listed (i::hd)
 | .stop,listed,hd=> !(Region.ready .any ops listed).isEmpty && (Region.ready .any ops listed).all (hd.contains ·)
def On(P:Program)(ops:Array Oper)(Inv:Hp→Prop)(st:Nat→Bool)(K:Act→Hp→Prop):Ot→Act→Hp→Prop
 | .done,a,H=>K a H
 | .step i t,a,H=>ie P ops Inv st i (On P ops Inv st K t) a H
 | .zG i t r,a,H=>ie P ops Inv st i (On P ops Inv st K t) a H∧On P ops Inv st K r a H
 | .stop,_,_=>True
theorem Oo{listed:Array Bool}{i j:Nat}(h:listed.getD j false=true):(listed.setIfInBounds i true).getD j false=true:=getD_set_true h
theorem Ee{lF:Array Nat}{listed:Array Bool}{i j:Nat}(h:ij ops lF st listed i=true):ij ops lF st (listed.setIfInBounds j true) i=true:=by
 unfold ij at*
 rw[an4]at*
 refine⟨h.1,?_⟩
 have h:=h.2
 split at h
 ·cases h
 ·rename_i oi ho
  rw[aok]at*
  intro k hk
  have:=h k hk
  simp only[ao2]at this ⊢
  rcases this with ((h|h)|h)|h
  ·exact .inl (.inl (.inl h))
  ·exact .inl (.inl (.inr (Oo h)))
  ·exact .inl (.inr h)
  ·exact .inr h
theorem iR{listed:Array Bool}{i:Nat}(h:i∈Region.ready .any ops listed):listed.getD i false=false:=by
 obtain⟨hun,_⟩:=mem_ready.1 h
 rcases aow i listed.size with h'|h'
 ·simpa[h']using hun
 ·simp[aou h']
theorem Oq{lF:Array Nat}(Bo:zE ops lF=true){K:Act→Hp→Prop}{i:Nat}{oi:Oper}(hi:ops[i]? =some oi)
  (Bp:∀ (j:Nat) (o:Oper) cs b,ops[j]? =some o→o.op≠ .select cs b):
  ∀ (cQ:Nat) (listed:Array Bool) (a:Act) (H:Hp),Inv H→sX ops listed→ij ops lF st listed i=true→
   i∈Region.ready .any ops listed→
   ie P ops Inv st i (anyI P ops Inv st K cQ (listed.setIfInBounds i true)) a H→anyI P ops Inv st K (cQ+1) listed a H:=by
 intro cQ
 induction cQ with
 |zero=>
  intro listed a H hI _ zH hr h
  refine⟨fun h0=>(by rw[h0]at hr;cases hr),fun j hj=>?_⟩
  by_cases La:j=i
  ·subst La;exact h
  ·exfalso
   have sY:st i=true:=by unfold ij at zH;rw[an4]at zH;exact zH.1
   have Ea:Region.ready .any ops (listed.setIfInBounds i true)=[]:=by
    unfold ie at h
    simp only[hi,sY]at h
    split at h
    ·obtain⟨v,_,k⟩:=h;exact k.1
    ·exact h.1
   have:=ready_mono hj La
   rw[Ea]at this
   cases this
 |succ cQ ih=>
  intro listed a H hI mK zH hr h
  refine⟨fun h0=>(by rw[h0]at hr;cases hr),fun j hj=>?_⟩
  by_cases La:j=i
  ·subst La;exact h
  ·obtain⟨Zr,oj,RU,cR⟩:=mem_ready.1 hj
   have hjs:=iR hj
   have his:=iR hr
   have sY:st i=true:=by have hf:=zH;unfold ij at hf;rw[an4]at hf;exact hf.1
   have Vm:(lF.getD j 0).testBit i=false:=by
    cases hb:(lF.getD j 0).testBit i with
    |false=>rfl
    |true=>have:=D9 Bo mK j oj RU cR hb;rw[his]at this;cases this
   have SA:oi.apart ops oj=true:=by
    have hf:=zH
    unfold ij at hf
    rw[an4]at hf
    have hf:=hf.2
    rw[hi]at hf
    simp only at hf
    have aK:j<ops.size:=(aoa.1 RU).1
    have:=(aok.1 hf) j (aog.2 aK)
    have aM:(j==i)=false:=by simpa using La
    simp only[RU,Vm,hjs,aM,apo]at this
    exact this
   have h2:ie P ops Inv st i (fun a' H'=>ie P ops Inv st j (anyI P ops Inv st K cQ ((listed.setIfInBounds i true).setIfInBounds j true)) a' H') a H:=
    pZ hI (fun a' H' _ hk=>hk.2 j (ready_mono hj La)) h
   have h3:=Zu hi RU SA sY (fun cs b=>Bp i oi cs b hi) (fun cs b=>Bp j oj cs b RU) h2
   refine pZ hI (fun a' H' SF hk=>?_) h3
   refine ih (listed.setIfInBounds j true) a' H' SF (mK.set hj) (Ee zH) (ready_mono hr (Ne.symm La)) ?_
   rw[Array.setIfInBounds_comm _ _ La];exact hk
theorem count_set:∀ (l:List Bool) (i:Nat),l[i]? =some false→(l.set i true).count false+1=l.count false:=by
 intro l
 induction l with
 |nil=>intro i h;simp at h
 |cons b l ih=>
  intro i h
  cases i with
  |zero=>
   simp only[anG,anl]at h
   subst h
   simp
  |succ i=>
   have:=ih i (by simpa using h)
   rw[anV,ao4,ao4]
   omega
theorem zI{listed:Array Bool}{i cQ:Nat}(hs:listed.size=ops.size)(hc:listed.toList.count false=cQ)(h:i∈Region.ready .any ops listed):
  ∃f,cQ=f+1∧(listed.setIfInBounds i true).toList.count false=f∧(listed.setIfInBounds i true).size=ops.size:=by
 have h1:=iR h
 obtain⟨_,o,ho,_⟩:=mem_ready.1 h
 have aK:i<listed.size:=by rw[hs];exact(aoa.1 ho).1
 have h2:listed.toList[i]? =some false:=by
  simp only[Array.getElem?_toList]
  simp[aK]at h1 ⊢
  exact h1
 have h3:=count_set _ i h2
 refine⟨(listed.setIfInBounds i true).toList.count false,?_,rfl,by simpa using hs⟩
 rw[Array.toList_setIfInBounds]
 omega
theorem Ii{lF:Array Nat}(Bo:zE ops lF=true)(Bp:Region.noSelect ops=true){K:Act→Hp→Prop}:
  ∀ (t:Ot) (listed:Array Bool) (hd:List Nat) (cQ:Nat) (a:Act) (H:Hp),RV ops lF st t listed hd=true→Inv H→sX ops listed→listed.size=ops.size→listed.toList.count false=cQ→
   (∀i∈hd,i∈Region.ready .any ops listed→∃f,cQ=f+1∧ie P ops Inv st i (anyI P ops Inv st K f (listed.setIfInBounds i true)) a H)→On P ops Inv st K t a H→anyI P ops Inv st K cQ listed a H:=by
 intro t
 induction t with
 |done=>
  intro listed hd cQ a H sr _ _ _ _ _ h
  simp only[RV,List.isEmpty_iff]at sr
  cases cQ with
  |zero=>exact⟨sr,h⟩
  |succ cQ=>exact⟨fun _=>h,fun i hi=>by rw[sr]at hi;cases hi⟩
 |step i t ih=>
  intro listed hd cQ a H sr hI mK hs hc _ h
  simp only[RV,an4,List.contains_iff_mem]at sr
  obtain⟨⟨hr,zH⟩,sr⟩:=sr
  obtain⟨f,rfl,HJ,CU⟩:=zI hs hc hr
  obtain⟨_,o,ho,_⟩:=mem_ready.1 hr
  refine Oq Bo ho (Region.noSelect_spec Bp) f listed a H hI mK zH hr ?_
  refine pZ hI (fun a' H' SF hk=>?_) h
  exact ih _ [] f a' H' sr SF (mK.set hr) CU HJ (fun i hi=>by cases hi) hk
 |zG i t r iht Zw=>
  intro listed hd cQ a H sr hI mK hs hc SG h
  simp only[RV,an4,List.contains_iff_mem]at sr
  obtain⟨⟨hr,aeh⟩,aei⟩:=sr
  obtain⟨f,rfl,HJ,CU⟩:=zI hs hc hr
  refine Zw listed (i::hd) (f+1) a H aei hI mK hs hc ?_ h.2
  intro j hj hjr
  rcases anm.1 hj with rfl|hj
  ·refine⟨f,rfl,pZ hI (fun a' H' SF hk=>?_) h.1⟩
   exact iht _ [] f a' H' aeh SF (mK.set hr) CU HJ (fun i hi=>by cases hi) hk
  ·exact SG j hj hjr
 |stop=>
  intro listed hd cQ a H sr hI mK hs hc SG _
  simp only[RV,an4,aok,List.contains_iff_mem]at sr
  obtain⟨aM,cR⟩:=sr
  by_cases Zx:Region.ready .any ops listed=[]
  ·exact absurd (List.isEmpty_iff.2 Zx) (by simpa using aM)
  ·obtain⟨i,hi⟩:=List.exists_mem_of_ne_nil _ Zx
   obtain⟨f,rfl,_⟩:=SG i (cR i hi) hi
   refine⟨fun h0=>absurd h0 Zx,fun j hj=>?_⟩
   obtain⟨f',e,h⟩:=SG j (cR j hj) hj
   have:f'=f:=by omega
   subst this
   exact h
theorem Ef{id:Nat}{lF:Array Nat}{t:Ot}(hm:P.follows .mixedOrders=true)(Bo:zE ops lF=true)(sr:RV ops lF st t (Array.replicate ops.size false) []=true)
  (Bp:Region.noSelect ops=true){K:Act→Hp→Prop}{Q:Exit→Act→World→Prop}{a:Act}{w:World}(hI:Inv w.heap)
  (hQ:∀a' w',bX w w'→K a' w'.heap→Q .normal a' w')(h:On P ops Inv st K t a w.heap):(Code.region id ops true).wp P Q a w:=by
 refine wp_region_any hm ?_
 refine Gn (Inv:=Inv) (st:=st) (K:=K) (w₀:=w) hQ _ _ _ _ ⟨rfl,rfl⟩ hI ?_
 refine Ii Bo Bp t _ [] _ _ _ sr hI ?_ (by simp) (by simp) (fun i hi=>by cases hi) h
 intro k ok _ hl
 exfalso
 by_cases hk:k<ops.size<;>simp[hk]at hl
end
end Go.Vc
