/- Texts put behind each other. -/
import Derived.Test.YtjlnnljohemifaaGreatK98
import Derived.Orders
import Derived.Laws.Sem
import Derived.Laws.World
import Derived.KernelRfl
set_option maxRecDepth 100000
set_option maxHeartbeats 8000000
namespace Go.Vc
structure Tag{α:Sort _}(F:α):Type where
abbrev Hp:=Array Obj
structure cf(w w':World):Prop where
 os:w'.os=w.os
 output:w'.output=w.output
theorem cf.refl(w:World):cf w w:=⟨rfl,rfl⟩
theorem cf.trans{a b c:World}(h:cf a b)(k:cf b c):cf a c:=⟨k.os.trans h.os,k.output.trans h.output⟩
def af(P:Program)(f:FuncId)(args:List Value)(H:Hp)(K:Value→Hp→Prop)(_t:Tag K:=⟨⟩):Prop:=
 ∀w,w.heap=H→Calls P f args.toArray w fun e w'=>∃v,e= .returned v∧cf w w'∧K v w'.heap
theorem af.mono{P:Program}{f:FuncId}{args:List Value}{H:Hp}{K K':Value→Hp→Prop}(h:af P f args H K)(hk:∀v H',K v H'→K' v H'):
  af P f args H K':=
 fun w hw=>(h w hw).mono fun _ _ ⟨v,e,s,k⟩=>⟨v,e,s,hk _ _ k⟩
def dT(P:Program)(o:Oper)(a:Act)(H:Hp)(K:Value→Hp→Prop):Prop:=
 ∀w,w.heap=H→
  (∃v w',(execOp a.eval o).run P w= .ok (.value v) w'∧cf w w'∧K v w'.heap)∨
  (∃w',(execOp a.eval o).run P w= .ok .skip w'∧cf w w'∧K undef w'.heap)∨
  (∃f args w',(execOp a.eval o).run P w= .ok (.enter f args) w'∧cf w w'∧af P f args.toList w'.heap K)
theorem dT.mono{P:Program}{o:Oper}{a:Act}{H:Hp}{K K':Value→Hp→Prop}(h:dT P o a H K)(hk:∀v H',K v H'→K' v H'):dT P o a H K':=by
 intro w hw
 rcases h w hw with ⟨v,w',h1,h2,h3⟩| ⟨w',h1,h2,h3⟩| ⟨f,args,w',h1,h2,h3⟩
 ·exact .inl ⟨v,w',h1,h2,hk _ _ h3⟩
 ·exact .inr (.inl ⟨w',h1,h2,hk _ _ h3⟩)
 ·exact .inr (.inr ⟨f,args,w',h1,h2,h3.mono hk⟩)
theorem dT.wp{P:Program}{o:Oper}{a:Act}{H:Hp}{K:Value→Hp→Prop}{next:Act→World→Prop}{Q:Exit→Act→World→Prop}{w:World}
  (h:dT P o a H K)(hw:w.heap=H)(hn:∀v w',cf w w'→K v w'.heap→next (a.put o.dst v) w'):o.wp P a w next Q:=by
 unfold Oper.wp
 rcases h w hw with ⟨v,w',h1,h2,h3⟩| ⟨w',h1,h2,h3⟩| ⟨f,args,w',h1,h2,h3⟩
 ·rw[h1];exact hn _ _ h2 h3
 ·rw[h1];exact hn _ _ h2 h3
 ·rw[h1]
  have h4:=h3 w' rfl
  simp only[apS]at h4
  show Calls P f args w' _
  refine h4.mono fun e w'' he=>?_
  obtain⟨v,rfl,hs,hk⟩:=he
  exact hn _ _ (h2.trans hs) hk
def Le(P:Program)(ops:Array Oper)(K:Act→Hp→Prop):List Nat→Act→Hp→Prop
 | [],a,H=>K a H
 |i::r,a,H=>
  match ops[i]? with
  |none=>Le P ops K r a H
  |some o=>if Region.wanted o (yielded ops a.tmps)then dT P o a H (fun v H'=>Le P ops K r (a.put o.dst v) H')else Le P ops K r (a.put o.dst undef) H
theorem HG{P:Program}{ops:Array Oper}{K:Act→Hp→Prop}{Q:Exit→Act→World→Prop}{w₀:World}
  (hQ:∀a w,cf w₀ w→K a w.heap→Q .normal a w):∀ (l:List Nat) (a:Act) (w:World),cf w₀ w→Le P ops K l a w.heap→wpOps P ops Q l a w:=by
 intro l
 induction l with
 |nil=>intro a w hs h;exact hQ a w hs h
 |cons i r ih=>
  intro a w hs h
  simp only[wpOps,Le]at*
  cases ho:ops[i]? with
  |none=>rw[ho]at h;exact ih _ _ hs h
  |some o=>
   rw[ho]at h
   simp only at h ⊢
   split
   ·rename_i hw
    rw[if_pos hw]at h
    exact .inl (h.wp rfl fun v w' D9 hk=>ih _ _ (hs.trans D9) hk)
   ·rename_i hw
    rw[if_neg hw]at h
    exact ih _ _ hs h
inductive Lf where
 |pure|quiet|HH
 deriving DecidableEq,Inhabited
def jQ(P:Program)(ops:Array Oper)(cls:Nat→Lf)(i:Nat)(K:Act→Hp→Prop)(a:Act)(H:Hp):Prop:=
 match ops[i]? with
 |none=>K a H
 |some o=>
  if Region.wanted o (yielded ops a.tmps)then
   match cls i with
   | .pure=>∃v,(∀w,(execOp a.eval o).run P w= .ok (.value v) w)∧K (a.put o.dst v) H
   | .quiet=>∃v,dT P o a H (fun v' H'=>v'=v∧H'=H)∧K (a.put o.dst v) H
   | .HH=>dT P o a H fun v H'=>K (a.put o.dst v) H'
  else K (a.put o.dst undef) H
theorem zw{P:Program}{ops:Array Oper}{cls:Nat→Lf}{i:Nat}{K K':Act→Hp→Prop}{a:Act}{H:Hp}(hk:∀a H,K a H→K' a H)
  (h:jQ P ops cls i K a H):jQ P ops cls i K' a H:=by
 unfold jQ at*
 split
 ·exact hk _ _ (by simpa[*]using h)
 ·rename_i o ho
  simp only[ho]at h
  split
  ·rename_i hw
   rw[if_pos hw]at h
   cases hc:cls i with
   |pure=>rw[hc]at h;obtain⟨v,h1,h2⟩:=h;exact⟨v,h1,hk _ _ h2⟩
   |quiet=>rw[hc]at h;obtain⟨v,h1,h2⟩:=h;exact⟨v,h1,hk _ _ h2⟩
   |HH=>rw[hc]at h;exact h.mono fun v H'=>hk _ _
  ·rename_i hw;rw[if_neg hw]at h;exact hk _ _ h
theorem AW{P:Program}{o:Oper}{a:Act}{v:Value}(h:∀w,(execOp a.eval o).run P w= .ok (.value v) w)(H:Hp):
  dT P o a H fun v' H'=>v'=v∧H'=H:=fun w hw=>.inl ⟨v,w,h w,cf.refl w,rfl,hw⟩
theorem HI{P:Program}{ops:Array Oper}{cls:Nat→Lf}{i:Nat}{K:Act→Hp→Prop}{a:Act}{w:World}{K':Act→World→Prop}
  {Q:Exit→Act→World→Prop}(hk:∀a w',cf w w'→K a w'.heap→K' a w')(h:jQ P ops cls i K a w.heap):wpOp P ops Q i K' a w:=by
 unfold jQ at h
 unfold wpOp
 split
 ·rename_i ho;rw[ho]at h;exact hk _ _ (cf.refl w) h
 ·rename_i o ho
  simp only[ho]at h
  split
  ·rename_i hw
   rw[if_pos hw]at h
   refine .inl ?_
   cases hc:cls i with
   |pure=>
    rw[hc]at h
    obtain⟨v,h1,h2⟩:=h
    exact(AW h1 w.heap).wp rfl fun v' w' hs ⟨e1,e2⟩=>by subst e1;exact hk _ _ hs (e2▸h2)
   |quiet=>
    rw[hc]at h
    obtain⟨v,h1,h2⟩:=h
    exact h1.wp rfl fun v' w' hs ⟨e1,e2⟩=>by subst e1;exact hk _ _ hs (e2▸h2)
   |HH=>rw[hc]at h;exact h.wp rfl fun v' w' hs Lb=>hk _ _ hs Lb
  ·rename_i hw;rw[if_neg hw]at h;exact hk _ _ (cf.refl w) h
def PG(P:Program)(ops:Array Oper)(cls:Nat→Lf)(K:Act→Hp→Prop):Nat→Array Bool→Act→Hp→Prop
 |0,listed,a,H=>Region.ready .any ops listed=[]∧K a H
 |cW+1,listed,a,H=>
  (Region.ready .any ops listed=[]→K a H)∧
  ∀i∈Region.ready .any ops listed,jQ P ops cls i (PG P ops cls K cW (listed.setIfInBounds i true)) a H
theorem HJ{P:Program}{ops:Array Oper}{cls:Nat→Lf}{K:Act→Hp→Prop}{Q:Exit→Act→World→Prop}{w₀:World}
  (hQ:∀a w,cf w₀ w→K a w.heap→Q .normal a w):∀ (cW:Nat) (listed:Array Bool) (a:Act) (w:World),cf w₀ w→
   PG P ops cls K cW listed a w.heap→wpAny P .any ops Q cW listed a w:=by
 intro cW
 induction cW with
 |zero=>intro listed a w hs h;exact⟨h.1,hQ _ _ hs h.2⟩
 |succ cW ih=>
  intro listed a w hs h
  exact⟨fun hr=>hQ _ _ hs (h.1 hr),fun i hi=>HI (fun a' w' D9 hk=>ih _ _ _ (hs.trans D9) hk) (h.2 i hi)⟩
def Lf.OL:Lf→Lf→Bool
 | .pure,_=>true
 |_,.pure=>true
 | .quiet,.quiet=>true
 |_,_=>false
section
variable {P : Program} {ops : Array Oper} {cls : Nat → Lf}
theorem AX(H:Hp):∃w:World,w.heap=H:=⟨{ (default:World)with heap:=H},rfl⟩
theorem jg{o:Oper}{y:Nat→Option Bool}:Region.wanted o y=true∨Region.wanted o y=false:=by cases Region.wanted o y<;>simp
theorem AY{o:Oper}{a:Act}{dst:Option Tmp}{u:Value}(hs:∀cs b,o.op≠ .select cs b)(h:∀d,dst=some d→d∉o.looksAt ops){H:Hp}{K:Value→Hp→Prop}:
  dT P o (a.put dst u) H K↔dT P o a H K:=by
 unfold dT
 rw[execOp_put (ops:=ops) o hs a dst u h]
theorem aaz{i j:Nat}{oi oj:Oper}(hi:ops[i]? =some oi)(hj:ops[j]? =some oj)(TS:oi.apart ops oj=true)(Ww:(cls i).OL (cls j)=true)
  (hsi:∀cs b,oi.op≠ .select cs b)(hsj:∀cs b,oj.op≠ .select cs b){K:Act→Hp→Prop}{a:Act}{H:Hp}
  (h:jQ P ops cls i (fun a' H'=>jQ P ops cls j K a' H') a H):jQ P ops cls j (fun a' H'=>jQ P ops cls i K a' H') a H:=by
 obtain⟨h1,h2,h3⟩:=Oper.apart_spec TS
 have wi:∀u,Region.wanted oi (yielded ops (a.put oj.dst u).tmps)=Region.wanted oi (yielded ops a.tmps):=fun u=>wanted_put oi a oj.dst u h3
 have wj:∀u,Region.wanted oj (yielded ops (a.put oi.dst u).tmps)=Region.wanted oj (yielded ops a.tmps):=fun u=>wanted_put oj a oi.dst u h1
 have ei:∀u,execOp (a.put oj.dst u).eval oi=execOp a.eval oi:=fun u=>execOp_put oi hsi a oj.dst u h3
 have ej:∀u,execOp (a.put oi.dst u).eval oj=execOp a.eval oj:=fun u=>execOp_put oj hsj a oi.dst u h1
 have cm:∀v u,(a.put oi.dst v).put oj.dst u=(a.put oj.dst u).put oi.dst v:=fun v u=>Act.put_comm a v u h2
 unfold jQ at*
 simp only[hi,hj]at*
 simp only[wi,wj,ei,ej,cm,AY (P:=P) hsi h3,AY (P:=P) hsj h1]at*
 rcases jg (o:=oi) (y:=yielded ops a.tmps)with Th|Th<;>rcases jg (o:=oj) (y:=yielded ops a.tmps)with TT|TT<;>
  simp only[Th,TT,if_true,if_false,aph]at*
 ·cases Wx:cls i<;>cases Wy:cls j<;>simp only[Wx,Wy,Lf.OL,aph]at h Ww ⊢
  ·obtain⟨v,e1,u,e2,k⟩:=h;exact⟨u,e2,v,e1,k⟩
  ·obtain⟨v,e1,u,e2,k⟩:=h;exact⟨u,e2,v,e1,k⟩
  ·obtain⟨v,e1,k⟩:=h;exact k.mono fun u H' k'=>⟨v,e1,k'⟩
  ·obtain⟨v,e1,u,e2,k⟩:=h;exact⟨u,e2,v,e1,k⟩
  ·obtain⟨v,e1,u,e2,k⟩:=h;exact⟨u,e2,v,e1,k⟩
  ·obtain⟨w,hw⟩:=AX H
   have pick:∃u,∀w,(execOp a.eval oj).run P w= .ok (.value u) w:=by
    rcases h w hw with ⟨v,w',_,_,u,e,_⟩| ⟨w',_,_,u,e,_⟩| ⟨f,args,w',_,_,hc⟩
    ·exact⟨u,e⟩
    ·exact⟨u,e⟩
    ·obtain⟨e,w'',fr,⟨v,_,_,u,eu,_⟩,_⟩:=hc w' rfl []
     exact⟨u,eu⟩
   obtain⟨u,eu⟩:=pick
   refine⟨u,eu,h.mono fun v H' ⟨u',eu',k⟩=>?_⟩
   have:=eu w
   rw[eu' w]at this
   injection this with h1 h2
   injection h1 with h1
   exact h1▸k
 ·cases Wx:cls i<;>simp only[Wx]at h ⊢ <;>exact h
 ·cases Wy:cls j<;>simp only[Wy]at h ⊢ <;>exact h
 ·exact h
def uC(ops:Array Oper)(listed:Array Bool):Prop:=
 ∀k ok,ops[k]? =some ok→listed.getD k false=true→∀e∈ok.after,Region.binds .any e=true→listed.getD e.on false=true
theorem uC.set{listed:Array Bool}(h:uC ops listed){i:Nat}(hi:i∈Region.ready .any ops listed):uC ops (listed.setIfInBounds i true):=by
 intro k ok hk hl e he hb
 by_cases hik:i=k
 ·subst hik
  obtain⟨_,o,ho,cX⟩:=mem_ready.1 hi
  rw[hk]at ho
  injection ho with ho
  subst ho
  exact getD_set_true (cX e he hb)
 ·rw[getD_set_ne false hik]at hl
  exact getD_set_true (h k ok hk hl e he hb)
def up(mD:Array Nat)(o:Oper):Nat:=o.after.toList.foldl (fun s e=>if Region.binds .any e then s ||| (2^e.on |||mD.getD e.on 0)else s) 0
theorem M9{mD:Array Nat}{i:Nat}:∀ (l:List Edge) (s:Nat),
  (l.foldl (fun s e=>if Region.binds .any e then s ||| (2^e.on |||mD.getD e.on 0)else s) s).testBit i=true→
   s.testBit i=true∨∃e∈l,Region.binds .any e=true∧(e.on=i∨(mD.getD e.on 0).testBit i=true):=by
 intro l
 induction l with
 |nil=>intro s h;exact .inl h
 |cons e l ih=>
  intro s h
  rw[List.foldl_cons]at h
  rcases ih _ h with h| ⟨x,hx,h⟩
  ·split at h
   ·rename_i hb
    rw[Nat.testBit_or,Nat.testBit_or,Nat.testBit_two_pow]at h
    simp only[ap5,aoK]at h
    rcases h with h|h|h
    ·exact .inl h
    ·exact .inr ⟨e,ao4,hb,.inl h⟩
    ·exact .inr ⟨e,ao4,hb,.inr h⟩
   ·exact .inl h
  ·exact .inr ⟨x,aoP _ hx,h⟩
def AZ(ops:Array Oper)(mD:Array Nat):Bool:=
 (List.range ops.size).all fun j=>
  match ops[j]? with
  |none=>false
  |some oj=>oj.after.all (fun e=> !Region.binds .any e || decide (e.on<j)) && (mD.getD j 0 |||up mD oj==up mD oj)
theorem Fu{mD:Array Nat}(h:AZ ops mD=true){listed:Array Bool}(hc:uC ops listed){i:Nat}:∀ (j:Nat) (oj:Oper),ops[j]? =some oj→
  (∀e∈oj.after,Region.binds .any e=true→listed.getD e.on false=true)→(mD.getD j 0).testBit i=true→listed.getD i false=true:=by
 intro j
 induction j using Nat.strongRecOn with
 |_ j ih=>
  intro oj hj cX hb
  have aO:j<ops.size:=(apc.1 hj).1
  have h1:=(apm.1 h) j (api.2 aO)
  simp only[hj,ao6,beq_iff_eq]at h1
  obtain⟨Jw,Kk⟩:=h1
  have hu:(up mD oj).testBit i=true:=by rw[←Kk,Nat.testBit_or,hb,Bool.true_or]
  rcases M9 _ _ hu with h0| ⟨e,he,TU,h2⟩
  ·simp at h0
  ·have hem:e∈oj.after:=by simpa using he
   have hl:=cX e hem TU
   rcases h2 with h2|h2
   ·exact h2▸hl
   ·have aff:e.on<j:=by
     have:=(apN.1 Jw) e hem
     simpa[TU]using this
    cases hoe:ops[e.on]? with
    |none=>
     have:ops.size≤e.on:=by simpa using hoe
     omega
    |some oe=>exact ih e.on aff oe hoe (hc e.on oe hoe hl) h2
def A5(ops:Array Oper)(mD:Array Nat)(cls:Nat→Lf):Bool:=
 (List.range ops.size).all fun j=>
  match ops[j]? with
  |none=>false
  |some oj=>(List.range j).all fun i=>(mD.getD j 0).testBit i ||
    match ops[i]? with
    |none=>false
    |some oi=>oi.apart ops oj && (cls i).OL (cls j)
theorem Jx{mD:Array Nat}(h:A5 ops mD cls=true){i j:Nat}{oi oj:Oper}(hi:ops[i]? =some oi)(hj:ops[j]? =some oj)(Kl:i<j)
  (hn:(mD.getD j 0).testBit i=false):oi.apart ops oj=true∧(cls i).OL (cls j)=true:=by
 have aO:j<ops.size:=(apc.1 hj).1
 have h1:=(apm.1 h) j (api.2 aO)
 simp only[hj,apm,api]at h1
 have h2:=h1 i Kl
 simp only[hi,hn,aqr,ao6]at h2
 exact h2
theorem Na{mD:Array Nat}(CC:AZ ops mD=true)(Ww:A5 ops mD cls=true){K:Act→Hp→Prop}{i:Nat}{oi:Oper}(hi:ops[i]? =some oi)
  (CD:∀ (j:Nat) (o:Oper) cs b,ops[j]? =some o→o.op≠ .select cs b):
  ∀ (cW:Nat) (listed:Array Bool) (a:Act) (H:Hp),uC ops listed→(∀j,j<i→listed.getD j false=true)→
   i∈Region.ready .any ops listed→
   jQ P ops cls i (PG P ops cls K cW (listed.setIfInBounds i true)) a H→PG P ops cls K (cW+1) listed a H:=by
 intro cW
 induction cW with
 |zero=>
  intro listed a H _ _ hr h
  refine⟨fun h0=>(by rw[h0]at hr;cases hr),fun j hj=>?_⟩
  by_cases MD:j=i
  ·subst MD;exact h
  ·exfalso
   have Fv:Region.ready .any ops (listed.setIfInBounds i true)=[]:=by
    unfold jQ at h
    simp only[hi]at h
    split at h
    ·cases hc:cls i<;>simp only[hc]at h
     ·obtain⟨v,_,k⟩:=h;exact k.1
     ·obtain⟨v,_,k⟩:=h;exact k.1
     ·obtain⟨w,hw⟩:=AX H
      rcases h w hw with ⟨v,w',_,_,k⟩| ⟨w',_,_,k⟩| ⟨f,args,w',_,_,hc⟩
      ·exact k.1
      ·exact k.1
      ·obtain⟨e,w'',fr,⟨v,_,_,k⟩,_⟩:=hc w' rfl []
       exact k.1
    ·exact h.1
   have:=ready_mono hj MD
   rw[Fv]at this
   cases this
 |succ cW ih=>
  intro listed a H nT PH hr h
  refine⟨fun h0=>(by rw[h0]at hr;cases hr),fun j hj=>?_⟩
  by_cases MD:j=i
  ·subst MD;exact h
  ·obtain⟨aaB,oj,Ti,cX⟩:=mem_ready.1 hj
   have afg:=(mem_ready.1 hr).1
   have hjs:listed.getD j false=false:=by
    rcases apz j listed.size with h'|h'
    ·simpa[h']using aaB
    ·simp[apx h']
   have his:listed.getD i false=false:=by
    rcases apz i listed.size with h'|h'
    ·simpa[h']using afg
    ·simp[apx h']
   have Kl:i<j:=by
    rcases apz i j with h'|h'
    ·exact h'
    ·have h1:=PH j (by omega)
     rw[hjs]at h1;cases h1
   have Wz:(mD.getD j 0).testBit i=false:=by
    cases hb:(mD.getD j 0).testBit i with
    |false=>rfl
    |true=>have:=Fu CC nT j oj Ti cX hb;rw[his]at this;cases this
   obtain⟨TS,aaC⟩:=Jx Ww hi Ti Kl Wz
   have h2:jQ P ops cls i (fun a' H'=>jQ P ops cls j (PG P ops cls K cW ((listed.setIfInBounds i true).setIfInBounds j true)) a' H') a H:=
    zw (fun a' H' hk=>hk.2 j (ready_mono hj MD)) h
   have h3:=aaz hi Ti TS aaC (fun cs b=>CD i oi cs b hi) (fun cs b=>CD j oj cs b Ti) h2
   refine zw (fun a' H' hk=>?_) h3
   refine ih (listed.setIfInBounds j true) a' H' (nT.set hj) (fun k Lb=>getD_set_true (PH k Lb)) (ready_mono hr (Ne.symm MD)) ?_
   rw[Array.setIfInBounds_comm _ _ MD];exact hk
def Rs(P:Program)(ops:Array Oper)(cls:Nat→Lf)(K:Act→Hp→Prop):List Nat→Act→Hp→Prop
 | [],a,H=>K a H
 |i::r,a,H=>jQ P ops cls i (Rs P ops cls K r) a H
theorem Jy{mD:Array Nat}(CC:AZ ops mD=true)(Ww:A5 ops mD cls=true)(CD:Region.noSelect ops=true){K:Act→Hp→Prop}:
  ∀ (m k:Nat) (listed:Array Bool) (a:Act) (H:Hp),k+m=ops.size→listed.size=ops.size→(∀j,listed.getD j false=decide (j<k))→
   Rs P ops cls K (List.range' k m) a H→PG P ops cls K m listed a H:=by
 intro m
 induction m with
 |zero=>
  intro k listed a H hk hs hl h
  refine⟨?_,h⟩
  refine List.eq_nil_iff_forall_not_mem.2 fun j hj=>?_
  obtain⟨h0,o,ho,_⟩:=mem_ready.1 hj
  have aO:j<ops.size:=(apc.1 ho).1
  have h1:=hl j
  rw[aov (by omega)]at h1
  simp[show j<listed.size by omega]at h0 h1
  rw[h0]at h1;cases h1
 |succ m ih=>
  intro k listed a H hk hs hl h
  have aO:k<ops.size:=by omega
  obtain⟨o,ho⟩:∃o,ops[k]? =some o:=⟨ops[k],by simp[aO]⟩
  have TV:uC ops listed:=by
   intro x ox hx TC e he hb
   have jY:x<ops.size:=(apc.1 hx).1
   have h1:=(apm.1 CC) x (api.2 jY)
   simp only[hx,ao6]at h1
   have h2:=(apN.1 h1.1) e he
   simp only[hb,ap9,aqr,aoK]at h2
   rw[hl x,aoK]at TC
   rw[hl e.on]
   exact aov (by omega)
  have Fv:k∈Region.ready .any ops listed:=by
   refine mem_ready.2 ⟨?_,o,ho,fun e he hb=>?_⟩
   ·have h1:=hl k
    rw[aoI (by omega)]at h1
    simpa[show k<listed.size by omega]using h1
   ·have h1:=(apm.1 CC) k (api.2 aO)
    simp only[ho,ao6]at h1
    have h2:=(apN.1 h1.1) e he
    simp only[hb,ap9,aqr,aoK]at h2
    rw[hl e.on];exact aov h2
  refine Na CC Ww ho (Region.noSelect_spec CD) m listed a H TV (fun j hj=>by rw[hl j];exact aov hj) Fv ?_
  rw[List.range'_succ]at h
  simp only[Rs]at h
  refine zw (fun a' H' Lb=>ih (k+1) _ a' H' (by omega) (by simpa using hs) (fun j=>?_) Lb) h
  by_cases Y2:k=j
  ·subst Y2
   simp[show k<listed.size by omega]
  ·rw[getD_set_ne false Y2,hl j]
   by_cases hjk:j<k
   ·rw[aov hjk,aov (by omega)]
   ·rw[aoI hjk,aoI (by omega)]
theorem Fw{id:Nat}{mD:Array Nat}(hm:P.follows .mixedOrders=true)(CC:AZ ops mD=true)(Ww:A5 ops mD cls=true)
  (CD:Region.noSelect ops=true){K:Act→Hp→Prop}{Q:Exit→Act→World→Prop}{a:Act}{w:World}
  (hQ:∀a' w',cf w w'→K a' w'.heap→Q .normal a' w')(h:Rs P ops cls K (List.range ops.size) a w.heap):(Code.region id ops true).wp P Q a w:=by
 refine wp_region_any hm ?_
 refine HJ (cls:=cls) (K:=K) (w₀:=w) hQ _ _ _ _ ⟨rfl,rfl⟩ ?_
 refine Jy CC Ww CD ops.size 0 _ _ _ (by omega) (by simp) (fun j=>?_) (by rw[List.range_eq_range']at h;exact h)
 simp only[Nat.not_lt_zero,decide_false]
 by_cases hj:j<ops.size<;>simp[hj]
theorem Fx{id:Nat}{K:Act→Hp→Prop}{Q:Exit→Act→World→Prop}{a:Act}{w:World}
  (hQ:∀a' w',cf w w'→K a' w'.heap→Q .normal a' w')(h:Le P ops K (List.range ops.size) a w.heap):(Code.region id ops false).wp P Q a w:=
 wp_region (HG hQ _ _ _ (cf.refl w) h)
inductive Ot where
 |done
 |step(i:Nat)(t:Ot)
 |aE(i:Nat)(t r:Ot)
 |stop
 deriving Inhabited
def iD(P:Program)(ops:Array Oper)(Inv:Hp→Prop)(st:Nat→Bool)(i:Nat)(K:Act→Hp→Prop)(a:Act)(H:Hp):Prop:=
 match ops[i]? with
 |none=>K a H
 |some o=>
  if Region.wanted o (yielded ops a.tmps)then
   match st i with
   |true=>∃v,(∀H',Inv H'→dT P o a H' fun v' GP=>v'=v∧GP=H')∧K (a.put o.dst v) H
   |false=>dT P o a H fun v H'=>Inv H'∧K (a.put o.dst v) H'
  else K (a.put o.dst undef) H
variable {Inv : Hp → Prop} {st : Nat → Bool}
theorem rP{i:Nat}{K K':Act→Hp→Prop}{a:Act}{H:Hp}(hI:Inv H)(hk:∀a H,Inv H→K a H→K' a H)
  (h:iD P ops Inv st i K a H):iD P ops Inv st i K' a H:=by
 unfold iD at*
 split
 ·exact hk _ _ hI (by simpa[*]using h)
 ·rename_i o ho
  simp only[ho]at h
  split
  ·rename_i hw
   rw[if_pos hw]at h
   cases hc:st i with
   |true=>rw[hc]at h;obtain⟨v,h1,h2⟩:=h;exact⟨v,h1,hk _ _ hI h2⟩
   |false=>rw[hc]at h;exact h.mono fun v H' ⟨k1,k2⟩=>⟨k1,hk _ _ k1 k2⟩
  ·rename_i hw;rw[if_neg hw]at h;exact hk _ _ hI h
theorem HK{i:Nat}{K:Act→Hp→Prop}{a:Act}{w:World}{K':Act→World→Prop}
  {Q:Exit→Act→World→Prop}(hI:Inv w.heap)(hk:∀a w',cf w w'→Inv w'.heap→K a w'.heap→K' a w')(h:iD P ops Inv st i K a w.heap):wpOp P ops Q i K' a w:=by
 unfold iD at h
 unfold wpOp
 split
 ·rename_i ho;rw[ho]at h;exact hk _ _ (cf.refl w) hI h
 ·rename_i o ho
  simp only[ho]at h
  split
  ·rename_i hw
   rw[if_pos hw]at h
   refine .inl ?_
   cases hc:st i with
   |true=>
    rw[hc]at h
    obtain⟨v,h1,h2⟩:=h
    exact(h1 w.heap hI).wp rfl fun v' w' hs ⟨e1,e2⟩=>by subst e1;exact hk _ _ hs (e2▸hI) (e2▸h2)
   |false=>rw[hc]at h;exact h.wp rfl fun v' w' hs ⟨k1,k2⟩=>hk _ _ hs k1 k2
  ·rename_i hw;rw[if_neg hw]at h;exact hk _ _ (cf.refl w) hI h
def anyI(P:Program)(ops:Array Oper)(Inv:Hp→Prop)(st:Nat→Bool)(K:Act→Hp→Prop):Nat→Array Bool→Act→Hp→Prop
 |0,listed,a,H=>Region.ready .any ops listed=[]∧K a H
 |cW+1,listed,a,H=>
  (Region.ready .any ops listed=[]→K a H)∧
  ∀i∈Region.ready .any ops listed,iD P ops Inv st i (anyI P ops Inv st K cW (listed.setIfInBounds i true)) a H
theorem HL{K:Act→Hp→Prop}{Q:Exit→Act→World→Prop}{w₀:World}
  (hQ:∀a w,cf w₀ w→K a w.heap→Q .normal a w):∀ (cW:Nat) (listed:Array Bool) (a:Act) (w:World),cf w₀ w→Inv w.heap→
   anyI P ops Inv st K cW listed a w.heap→wpAny P .any ops Q cW listed a w:=by
 intro cW
 induction cW with
 |zero=>intro listed a w hs _ h;exact⟨h.1,hQ _ _ hs h.2⟩
 |succ cW ih=>
  intro listed a w hs hI h
  exact⟨fun hr=>hQ _ _ hs (h.1 hr),fun i hi=>HK hI (fun a' w' D9 TW hk=>ih _ _ _ (hs.trans D9) TW hk) (h.2 i hi)⟩
theorem aaD{i j:Nat}{oi oj:Oper}(hi:ops[i]? =some oi)(hj:ops[j]? =some oj)(TS:oi.apart ops oj=true)(uD:st i=true)
  (hsi:∀cs b,oi.op≠ .select cs b)(hsj:∀cs b,oj.op≠ .select cs b){K:Act→Hp→Prop}{a:Act}{H:Hp}
  (h:iD P ops Inv st i (fun a' H'=>iD P ops Inv st j K a' H') a H):iD P ops Inv st j (fun a' H'=>iD P ops Inv st i K a' H') a H:=by
 obtain⟨h1,h2,h3⟩:=Oper.apart_spec TS
 have wi:∀u,Region.wanted oi (yielded ops (a.put oj.dst u).tmps)=Region.wanted oi (yielded ops a.tmps):=fun u=>wanted_put oi a oj.dst u h3
 have wj:∀u,Region.wanted oj (yielded ops (a.put oi.dst u).tmps)=Region.wanted oj (yielded ops a.tmps):=fun u=>wanted_put oj a oi.dst u h1
 have cm:∀v u,(a.put oi.dst v).put oj.dst u=(a.put oj.dst u).put oi.dst v:=fun v u=>Act.put_comm a v u h2
 unfold iD at*
 simp only[hi,hj,uD]at*
 simp only[wi,wj,cm,AY (P:=P) hsi h3,AY (P:=P) hsj h1]at*
 rcases jg (o:=oi) (y:=yielded ops a.tmps)with Th|Th<;>rcases jg (o:=oj) (y:=yielded ops a.tmps)with TT|TT<;>
  simp only[Th,TT,if_true,if_false,aph]at*
 ·cases Wy:st j<;>simp only[Wy]at h ⊢
  ·obtain⟨v,e1,k⟩:=h;exact k.mono fun u H' ⟨k1,k2⟩=>⟨k1,v,e1,k2⟩
  ·obtain⟨v,e1,u,e2,k⟩:=h;exact⟨u,e2,v,e1,k⟩
 ·exact h
 ·cases Wy:st j<;>simp only[Wy]at h ⊢ <;>exact h
 ·exact h
def iE(ops:Array Oper)(mD:Array Nat)(st:Nat→Bool)(listed:Array Bool)(i:Nat):Bool:=
 st i && match ops[i]? with
 |none=>false
 |some oi=>(List.range ops.size).all fun j=>j==i || listed.getD j false || (mD.getD j 0).testBit i ||
   match ops[j]? with
   |none=>false
   |some oj=>oi.apart ops oj
def Tj(ops:Array Oper)(mD:Array Nat)(st:Nat→Bool):Ot→Array Bool→List Nat→Bool
 | .done,listed,_=>(Region.ready .any ops listed).isEmpty
 | .step i t,listed,_=>(Region.ready .any ops listed).contains i && iE ops mD st listed i && Tj ops mD st t (listed.setIfInBounds i true) []
 | .aE i t r,listed,hd=>(Region.ready .any ops listed).contains i && Tj ops mD st t (listed.setIfInBounds i true) [] && Tj ops mD st r listed (i::hd)
 | .stop,listed,hd=> !(Region.ready .any ops listed).isEmpty && (Region.ready .any ops listed).all (hd.contains ·)
def PI(P:Program)(ops:Array Oper)(Inv:Hp→Prop)(st:Nat→Bool)(K:Act→Hp→Prop):Ot→Act→Hp→Prop
 | .done,a,H=>K a H
 | .step i t,a,H=>iD P ops Inv st i (PI P ops Inv st K t) a H
 | .aE i t r,a,H=>iD P ops Inv st i (PI P ops Inv st K t) a H∧PI P ops Inv st K r a H
 | .stop,_,_=>True
theorem PJ{listed:Array Bool}{i j:Nat}(h:listed.getD j false=true):(listed.setIfInBounds i true).getD j false=true:=getD_set_true h
theorem Fy{mD:Array Nat}{listed:Array Bool}{i j:Nat}(h:iE ops mD st listed i=true):iE ops mD st (listed.setIfInBounds j true) i=true:=by
 unfold iE at*
 rw[ao6]at*
 refine⟨h.1,?_⟩
 have h:=h.2
 split at h
 ·cases h
 ·rename_i oi ho
  rw[apm]at*
  intro k hk
  have:=h k hk
  simp only[ap5]at this ⊢
  rcases this with ((h|h)|h)|h
  ·exact .inl (.inl (.inl h))
  ·exact .inl (.inl (.inr (PJ h)))
  ·exact .inl (.inr h)
  ·exact .inr h
theorem jh{listed:Array Bool}{i:Nat}(h:i∈Region.ready .any ops listed):listed.getD i false=false:=by
 obtain⟨hun,_⟩:=mem_ready.1 h
 rcases apz i listed.size with h'|h'
 ·simpa[h']using hun
 ·simp[apx h']
theorem PK{mD:Array Nat}(CC:AZ ops mD=true){K:Act→Hp→Prop}{i:Nat}{oi:Oper}(hi:ops[i]? =some oi)
  (CD:∀ (j:Nat) (o:Oper) cs b,ops[j]? =some o→o.op≠ .select cs b):
  ∀ (cW:Nat) (listed:Array Bool) (a:Act) (H:Hp),Inv H→uC ops listed→iE ops mD st listed i=true→
   i∈Region.ready .any ops listed→
   iD P ops Inv st i (anyI P ops Inv st K cW (listed.setIfInBounds i true)) a H→anyI P ops Inv st K (cW+1) listed a H:=by
 intro cW
 induction cW with
 |zero=>
  intro listed a H hI _ A6 hr h
  refine⟨fun h0=>(by rw[h0]at hr;cases hr),fun j hj=>?_⟩
  by_cases MD:j=i
  ·subst MD;exact h
  ·exfalso
   have uD:st i=true:=by unfold iE at A6;rw[ao6]at A6;exact A6.1
   have Fv:Region.ready .any ops (listed.setIfInBounds i true)=[]:=by
    unfold iD at h
    simp only[hi,uD]at h
    split at h
    ·obtain⟨v,_,k⟩:=h;exact k.1
    ·exact h.1
   have:=ready_mono hj MD
   rw[Fv]at this
   cases this
 |succ cW ih=>
  intro listed a H hI nT A6 hr h
  refine⟨fun h0=>(by rw[h0]at hr;cases hr),fun j hj=>?_⟩
  by_cases MD:j=i
  ·subst MD;exact h
  ·obtain⟨aaB,oj,Ti,cX⟩:=mem_ready.1 hj
   have hjs:=jh hj
   have his:=jh hr
   have uD:st i=true:=by have hf:=A6;unfold iE at hf;rw[ao6]at hf;exact hf.1
   have Wz:(mD.getD j 0).testBit i=false:=by
    cases hb:(mD.getD j 0).testBit i with
    |false=>rfl
    |true=>have:=Fu CC nT j oj Ti cX hb;rw[his]at this;cases this
   have TS:oi.apart ops oj=true:=by
    have hf:=A6
    unfold iE at hf
    rw[ao6]at hf
    have hf:=hf.2
    rw[hi]at hf
    simp only at hf
    have aO:j<ops.size:=(apc.1 Ti).1
    have:=(apm.1 hf) j (api.2 aO)
    have aP:(j==i)=false:=by simpa using MD
    simp only[Ti,Wz,hjs,aP,aqr]at this
    exact this
   have h2:iD P ops Inv st i (fun a' H'=>iD P ops Inv st j (anyI P ops Inv st K cW ((listed.setIfInBounds i true).setIfInBounds j true)) a' H') a H:=
    rP hI (fun a' H' _ hk=>hk.2 j (ready_mono hj MD)) h
   have h3:=aaD hi Ti TS uD (fun cs b=>CD i oi cs b hi) (fun cs b=>CD j oj cs b Ti) h2
   refine rP hI (fun a' H' TW hk=>?_) h3
   refine ih (listed.setIfInBounds j true) a' H' TW (nT.set hj) (Fy A6) (ready_mono hr (Ne.symm MD)) ?_
   rw[Array.setIfInBounds_comm _ _ MD];exact hk
theorem count_set:∀ (l:List Bool) (i:Nat),l[i]? =some false→(l.set i true).count false+1=l.count false:=by
 intro l
 induction l with
 |nil=>intro i h;simp at h
 |cons b l ih=>
  intro i h
  cases i with
  |zero=>
   simp only[aoL,aor]at h
   subst h
   simp
  |succ i=>
   have:=ih i (by simpa using h)
   rw[ao0,ap7,ap7]
   omega
theorem Ba{listed:Array Bool}{i cW:Nat}(hs:listed.size=ops.size)(hc:listed.toList.count false=cW)(h:i∈Region.ready .any ops listed):
  ∃f,cW=f+1∧(listed.setIfInBounds i true).toList.count false=f∧(listed.setIfInBounds i true).size=ops.size:=by
 have h1:=jh h
 obtain⟨_,o,ho,_⟩:=mem_ready.1 h
 have aO:i<listed.size:=by rw[hs];exact(apc.1 ho).1
 have h2:listed.toList[i]? =some false:=by
  simp only[Array.getElem?_toList]
  simp[aO]at h1 ⊢
  exact h1
 have h3:=count_set _ i h2
 refine⟨(listed.setIfInBounds i true).toList.count false,?_,rfl,by simpa using hs⟩
 rw[Array.toList_setIfInBounds]
 omega
theorem Jz{mD:Array Nat}(CC:AZ ops mD=true)(CD:Region.noSelect ops=true){K:Act→Hp→Prop}:
  ∀ (t:Ot) (listed:Array Bool) (hd:List Nat) (cW:Nat) (a:Act) (H:Hp),Tj ops mD st t listed hd=true→Inv H→uC ops listed→listed.size=ops.size→listed.toList.count false=cW→
   (∀i∈hd,i∈Region.ready .any ops listed→∃f,cW=f+1∧iD P ops Inv st i (anyI P ops Inv st K f (listed.setIfInBounds i true)) a H)→PI P ops Inv st K t a H→anyI P ops Inv st K cW listed a H:=by
 intro t
 induction t with
 |done=>
  intro listed hd cW a H tV _ _ _ _ _ h
  simp only[Tj,List.isEmpty_iff]at tV
  cases cW with
  |zero=>exact⟨tV,h⟩
  |succ cW=>exact⟨fun _=>h,fun i hi=>by rw[tV]at hi;cases hi⟩
 |step i t ih=>
  intro listed hd cW a H tV hI nT hs hc _ h
  simp only[Tj,ao6,List.contains_iff_mem]at tV
  obtain⟨⟨hr,A6⟩,tV⟩:=tV
  obtain⟨f,rfl,Jb,D9⟩:=Ba hs hc hr
  obtain⟨_,o,ho,_⟩:=mem_ready.1 hr
  refine PK CC ho (Region.noSelect_spec CD) f listed a H hI nT A6 hr ?_
  refine rP hI (fun a' H' TW hk=>?_) h
  exact ih _ [] f a' H' tV TW (nT.set hr) D9 Jb (fun i hi=>by cases hi) hk
 |aE i t r iht ihr=>
  intro listed hd cW a H tV hI nT hs hc TX h
  simp only[Tj,ao6,List.contains_iff_mem]at tV
  obtain⟨⟨hr,afj⟩,afk⟩:=tV
  obtain⟨f,rfl,Jb,D9⟩:=Ba hs hc hr
  refine ihr listed (i::hd) (f+1) a H afk hI nT hs hc ?_ h.2
  intro j hj hjr
  rcases aos.1 hj with rfl|hj
  ·refine⟨f,rfl,rP hI (fun a' H' TW hk=>?_) h.1⟩
   exact iht _ [] f a' H' afj TW (nT.set hr) D9 Jb (fun i hi=>by cases hi) hk
  ·exact TX j hj hjr
 |stop=>
  intro listed hd cW a H tV hI nT hs hc TX _
  simp only[Tj,ao6,apm,List.contains_iff_mem]at tV
  obtain⟨aP,cX⟩:=tV
  by_cases hre:Region.ready .any ops listed=[]
  ·exact absurd (List.isEmpty_iff.2 hre) (by simpa using aP)
  ·obtain⟨i,hi⟩:=List.exists_mem_of_ne_nil _ hre
   obtain⟨f,rfl,_⟩:=TX i (cX i hi) hi
   refine⟨fun h0=>absurd h0 hre,fun j hj=>?_⟩
   obtain⟨f',e,h⟩:=TX j (cX j hj) hj
   have:f'=f:=by omega
   subst this
   exact h
theorem Fz{id:Nat}{mD:Array Nat}{t:Ot}(hm:P.follows .mixedOrders=true)(CC:AZ ops mD=true)(tV:Tj ops mD st t (Array.replicate ops.size false) []=true)
  (CD:Region.noSelect ops=true){K:Act→Hp→Prop}{Q:Exit→Act→World→Prop}{a:Act}{w:World}(hI:Inv w.heap)
  (hQ:∀a' w',cf w w'→K a' w'.heap→Q .normal a' w')(h:PI P ops Inv st K t a w.heap):(Code.region id ops true).wp P Q a w:=by
 refine wp_region_any hm ?_
 refine HL (Inv:=Inv) (st:=st) (K:=K) (w₀:=w) hQ _ _ _ _ ⟨rfl,rfl⟩ hI ?_
 refine Jz CC CD t _ [] _ _ _ tV hI ?_ (by simp) (by simp) (fun i hi=>by cases hi) h
 intro k ok _ hl
 exfalso
 by_cases hk:k<ops.size<;>simp[hk]at hl
end
end Go.Vc
