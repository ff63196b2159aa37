/- Texts put behind each other. -/
import Derived.Test.YthpjfeolagohkaaGreatK98
import Derived.Orders
import Derived.Laws.Sem
import Derived.Laws.World
import Derived.KernelRfl
set_option maxRecDepth 100000
set_option maxHeartbeats 8000000
namespace Go.Vc
structure Tag{α:Sort _}(F:α):Type where
abbrev Hp:=Array Obj
structure cu(w w':World):Prop where
 os:w'.os=w.os
 output:w'.output=w.output
theorem cu.refl(w:World):cu w w:=⟨rfl,rfl⟩
theorem cu.trans{a b c:World}(h:cu a b)(k:cu b c):cu a c:=⟨k.os.trans h.os,k.output.trans h.output⟩
def af(P:Program)(f:FuncId)(args:List Value)(H:Hp)(K:Value→Hp→Prop)(_t:Tag K:=⟨⟩):Prop:=
 ∀w,w.heap=H→Calls P f args.toArray w fun e w'=>∃v,e= .returned v∧cu w w'∧K v w'.heap
theorem af.mono{P:Program}{f:FuncId}{args:List Value}{H:Hp}{K K':Value→Hp→Prop}(h:af P f args H K)(hk:∀v H',K v H'→K' v H'):
  af P f args H K':=
 fun w hw=>(h w hw).mono fun _ _ ⟨v,e,s,k⟩=>⟨v,e,s,hk _ _ k⟩
def eC(P:Program)(o:Oper)(a:Act)(H:Hp)(K:Value→Hp→Prop):Prop:=
 ∀w,w.heap=H→
  (∃v w',(execOp a.eval o).run P w= .ok (.value v) w'∧cu w w'∧K v w'.heap)∨
  (∃w',(execOp a.eval o).run P w= .ok .skip w'∧cu w w'∧K undef w'.heap)∨
  (∃f args w',(execOp a.eval o).run P w= .ok (.enter f args) w'∧cu w w'∧af P f args.toList w'.heap K)
theorem eC.mono{P:Program}{o:Oper}{a:Act}{H:Hp}{K K':Value→Hp→Prop}(h:eC P o a H K)(hk:∀v H',K v H'→K' v H'):eC P o a H K':=by
 intro w hw
 rcases h w hw with ⟨v,w',h1,h2,h3⟩| ⟨w',h1,h2,h3⟩| ⟨f,args,w',h1,h2,h3⟩
 ·exact .inl ⟨v,w',h1,h2,hk _ _ h3⟩
 ·exact .inr (.inl ⟨w',h1,h2,hk _ _ h3⟩)
 ·exact .inr (.inr ⟨f,args,w',h1,h2,h3.mono hk⟩)
theorem eC.wp{P:Program}{o:Oper}{a:Act}{H:Hp}{K:Value→Hp→Prop}{next:Act→World→Prop}{Q:Exit→Act→World→Prop}{w:World}
  (h:eC P o a H K)(hw:w.heap=H)(hn:∀v w',cu w w'→K v w'.heap→next (a.put o.dst v) w'):o.wp P a w next Q:=by
 unfold Oper.wp
 rcases h w hw with ⟨v,w',h1,h2,h3⟩| ⟨w',h1,h2,h3⟩| ⟨f,args,w',h1,h2,h3⟩
 ·rw[h1];exact hn _ _ h2 h3
 ·rw[h1];exact hn _ _ h2 h3
 ·rw[h1]
  have h4:=h3 w' rfl
  simp only[arM]at h4
  show Calls P f args w' _
  refine h4.mono fun e w'' he=>?_
  obtain⟨v,rfl,hs,hk⟩:=he
  exact hn _ _ (h2.trans hs) hk
def LS(P:Program)(ops:Array Oper)(K:Act→Hp→Prop):List Nat→Act→Hp→Prop
 | [],a,H=>K a H
 |i::r,a,H=>
  match ops[i]? with
  |none=>LS P ops K r a H
  |some o=>if Region.wanted o (yielded ops a.tmps)then eC P o a H (fun v H'=>LS P ops K r (a.put o.dst v) H')else LS P ops K r (a.put o.dst undef) H
theorem I3{P:Program}{ops:Array Oper}{K:Act→Hp→Prop}{Q:Exit→Act→World→Prop}{w₀:World}
  (hQ:∀a w,cu w₀ w→K a w.heap→Q .normal a w):∀ (l:List Nat) (a:Act) (w:World),cu w₀ w→LS P ops K l a w.heap→wpOps P ops Q l a w:=by
 intro l
 induction l with
 |nil=>intro a w hs h;exact hQ a w hs h
 |cons i r ih=>
  intro a w hs h
  simp only[wpOps,LS]at*
  cases ho:ops[i]? with
  |none=>rw[ho]at h;exact ih _ _ hs h
  |some o=>
   rw[ho]at h
   simp only at h ⊢
   split
   ·rename_i hw
    rw[if_pos hw]at h
    exact .inl (h.wp rfl fun v w' El hk=>ih _ _ (hs.trans El) hk)
   ·rename_i hw
    rw[if_neg hw]at h
    exact ih _ _ hs h
inductive LK where
 |pure|quiet|HY
 deriving DecidableEq,Inhabited
def jH(P:Program)(ops:Array Oper)(cls:Nat→LK)(i:Nat)(K:Act→Hp→Prop)(a:Act)(H:Hp):Prop:=
 match ops[i]? with
 |none=>K a H
 |some o=>
  if Region.wanted o (yielded ops a.tmps)then
   match cls i with
   | .pure=>∃v,(∀w,(execOp a.eval o).run P w= .ok (.value v) w)∧K (a.put o.dst v) H
   | .quiet=>∃v,eC P o a H (fun v' H'=>v'=v∧H'=H)∧K (a.put o.dst v) H
   | .HY=>eC P o a H fun v H'=>K (a.put o.dst v) H'
  else K (a.put o.dst undef) H
theorem AA{P:Program}{ops:Array Oper}{cls:Nat→LK}{i:Nat}{K K':Act→Hp→Prop}{a:Act}{H:Hp}(hk:∀a H,K a H→K' a H)
  (h:jH P ops cls i K a H):jH P ops cls i K' a H:=by
 unfold jH at*
 split
 ·exact hk _ _ (by simpa[*]using h)
 ·rename_i o ho
  simp only[ho]at h
  split
  ·rename_i hw
   rw[if_pos hw]at h
   cases hc:cls i with
   |pure=>rw[hc]at h;obtain⟨v,h1,h2⟩:=h;exact⟨v,h1,hk _ _ h2⟩
   |quiet=>rw[hc]at h;obtain⟨v,h1,h2⟩:=h;exact⟨v,h1,hk _ _ h2⟩
   |HY=>rw[hc]at h;exact h.mono fun v H'=>hk _ _
  ·rename_i hw;rw[if_neg hw]at h;exact hk _ _ h
theorem AX{P:Program}{o:Oper}{a:Act}{v:Value}(h:∀w,(execOp a.eval o).run P w= .ok (.value v) w)(H:Hp):
  eC P o a H fun v' H'=>v'=v∧H'=H:=fun w hw=>.inl ⟨v,w,h w,cu.refl w,rfl,hw⟩
theorem I4{P:Program}{ops:Array Oper}{cls:Nat→LK}{i:Nat}{K:Act→Hp→Prop}{a:Act}{w:World}{K':Act→World→Prop}
  {Q:Exit→Act→World→Prop}(hk:∀a w',cu w w'→K a w'.heap→K' a w')(h:jH P ops cls i K a w.heap):wpOp P ops Q i K' a w:=by
 unfold jH at h
 unfold wpOp
 split
 ·rename_i ho;rw[ho]at h;exact hk _ _ (cu.refl w) h
 ·rename_i o ho
  simp only[ho]at h
  split
  ·rename_i hw
   rw[if_pos hw]at h
   refine .inl ?_
   cases hc:cls i with
   |pure=>
    rw[hc]at h
    obtain⟨v,h1,h2⟩:=h
    exact(AX h1 w.heap).wp rfl fun v' w' hs ⟨e1,e2⟩=>by subst e1;exact hk _ _ hs (e2▸h2)
   |quiet=>
    rw[hc]at h
    obtain⟨v,h1,h2⟩:=h
    exact h1.wp rfl fun v' w' hs ⟨e1,e2⟩=>by subst e1;exact hk _ _ hs (e2▸h2)
   |HY=>rw[hc]at h;exact h.wp rfl fun v' w' hs MC=>hk _ _ hs MC
  ·rename_i hw;rw[if_neg hw]at h;exact hk _ _ (cu.refl w) h
def Re(P:Program)(ops:Array Oper)(cls:Nat→LK)(K:Act→Hp→Prop):Nat→Array Bool→Act→Hp→Prop
 |0,listed,a,H=>Region.ready .any ops listed=[]∧K a H
 |c9+1,listed,a,H=>
  (Region.ready .any ops listed=[]→K a H)∧
  ∀i∈Region.ready .any ops listed,jH P ops cls i (Re P ops cls K c9 (listed.setIfInBounds i true)) a H
theorem I5{P:Program}{ops:Array Oper}{cls:Nat→LK}{K:Act→Hp→Prop}{Q:Exit→Act→World→Prop}{w₀:World}
  (hQ:∀a w,cu w₀ w→K a w.heap→Q .normal a w):∀ (c9:Nat) (listed:Array Bool) (a:Act) (w:World),cu w₀ w→
   Re P ops cls K c9 listed a w.heap→wpAny P .any ops Q c9 listed a w:=by
 intro c9
 induction c9 with
 |zero=>intro listed a w hs h;exact⟨h.1,hQ _ _ hs h.2⟩
 |succ c9 ih=>
  intro listed a w hs h
  exact⟨fun hr=>hQ _ _ hs (h.1 hr),fun i hi=>I4 (fun a' w' El hk=>ih _ _ _ (hs.trans El) hk) (h.2 i hi)⟩
def LK.PY:LK→LK→Bool
 | .pure,_=>true
 |_,.pure=>true
 | .quiet,.quiet=>true
 |_,_=>false
section
variable {P : Program} {ops : Array Oper} {cls : Nat → LK}
theorem Cq(H:Hp):∃w:World,w.heap=H:=⟨{ (default:World)with heap:=H},rfl⟩
theorem jy{o:Oper}{y:Nat→Option Bool}:Region.wanted o y=true∨Region.wanted o y=false:=by cases Region.wanted o y<;>simp
theorem Cr{o:Oper}{a:Act}{dst:Option Tmp}{u:Value}(hs:∀cs b,o.op≠ .select cs b)(h:∀d,dst=some d→d∉o.looksAt ops){H:Hp}{K:Value→Hp→Prop}:
  eC P o (a.put dst u) H K↔eC P o a H K:=by
 unfold eC
 rw[execOp_put (ops:=ops) o hs a dst u h]
theorem adw{i j:Nat}{oi oj:Oper}(hi:ops[i]? =some oi)(hj:ops[j]? =some oj)(VO:oi.apart ops oj=true)(Zf:(cls i).PY (cls j)=true)
  (hsi:∀cs b,oi.op≠ .select cs b)(hsj:∀cs b,oj.op≠ .select cs b){K:Act→Hp→Prop}{a:Act}{H:Hp}
  (h:jH P ops cls i (fun a' H'=>jH P ops cls j K a' H') a H):jH P ops cls j (fun a' H'=>jH P ops cls i K a' H') a H:=by
 obtain⟨h1,h2,h3⟩:=Oper.apart_spec VO
 have wi:∀u,Region.wanted oi (yielded ops (a.put oj.dst u).tmps)=Region.wanted oi (yielded ops a.tmps):=fun u=>wanted_put oi a oj.dst u h3
 have wj:∀u,Region.wanted oj (yielded ops (a.put oi.dst u).tmps)=Region.wanted oj (yielded ops a.tmps):=fun u=>wanted_put oj a oi.dst u h1
 have ei:∀u,execOp (a.put oj.dst u).eval oi=execOp a.eval oi:=fun u=>execOp_put oi hsi a oj.dst u h3
 have ej:∀u,execOp (a.put oi.dst u).eval oj=execOp a.eval oj:=fun u=>execOp_put oj hsj a oi.dst u h1
 have cm:∀v u,(a.put oi.dst v).put oj.dst u=(a.put oj.dst u).put oi.dst v:=fun v u=>Act.put_comm a v u h2
 unfold jH at*
 simp only[hi,hj]at*
 simp only[wi,wj,ei,ej,cm,Cr (P:=P) hsi h3,Cr (P:=P) hsj h1]at*
 rcases jy (o:=oi) (y:=yielded ops a.tmps)with SM|SM<;>rcases jy (o:=oj) (y:=yielded ops a.tmps)with VP|VP<;>
  simp only[SM,VP,if_true,if_false,ara]at*
 ·cases XO:cls i<;>cases Zg:cls j<;>simp only[XO,Zg,LK.PY,ara]at h Zf ⊢
  ·obtain⟨v,e1,u,e2,k⟩:=h;exact⟨u,e2,v,e1,k⟩
  ·obtain⟨v,e1,u,e2,k⟩:=h;exact⟨u,e2,v,e1,k⟩
  ·obtain⟨v,e1,k⟩:=h;exact k.mono fun u H' k'=>⟨v,e1,k'⟩
  ·obtain⟨v,e1,u,e2,k⟩:=h;exact⟨u,e2,v,e1,k⟩
  ·obtain⟨v,e1,u,e2,k⟩:=h;exact⟨u,e2,v,e1,k⟩
  ·obtain⟨w,hw⟩:=Cq H
   have pick:∃u,∀w,(execOp a.eval oj).run P w= .ok (.value u) w:=by
    rcases h w hw with ⟨v,w',_,_,u,e,_⟩| ⟨w',_,_,u,e,_⟩| ⟨f,args,w',_,_,hc⟩
    ·exact⟨u,e⟩
    ·exact⟨u,e⟩
    ·obtain⟨e,w'',fr,⟨v,_,_,u,eu,_⟩,_⟩:=hc w' rfl []
     exact⟨u,eu⟩
   obtain⟨u,eu⟩:=pick
   refine⟨u,eu,h.mono fun v H' ⟨u',eu',k⟩=>?_⟩
   have:=eu w
   rw[eu' w]at this
   injection this with h1 h2
   injection h1 with h1
   exact h1▸k
 ·cases XO:cls i<;>simp only[XO]at h ⊢ <;>exact h
 ·cases Zg:cls j<;>simp only[Zg]at h ⊢ <;>exact h
 ·exact h
def vW(ops:Array Oper)(listed:Array Bool):Prop:=
 ∀k ok,ops[k]? =some ok→listed.getD k false=true→∀e∈ok.after,Region.binds .any e=true→listed.getD e.on false=true
theorem vW.set{listed:Array Bool}(h:vW ops listed){i:Nat}(hi:i∈Region.ready .any ops listed):vW ops (listed.setIfInBounds i true):=by
 intro k ok hk hl e he hb
 by_cases PE:i=k
 ·subst PE
  obtain⟨_,o,ho,cM⟩:=mem_ready.1 hi
  rw[hk]at ho
  injection ho with ho
  subst ho
  exact getD_set_true (cM e he hb)
 ·rw[getD_set_ne false PE]at hl
  exact getD_set_true (h k ok hk hl e he hb)
def up(ng:Array Nat)(o:Oper):Nat:=o.after.toList.foldl (fun s e=>if Region.binds .any e then s ||| (2^e.on |||ng.getD e.on 0)else s) 0
theorem O2{ng:Array Nat}{i:Nat}:∀ (l:List Edge) (s:Nat),
  (l.foldl (fun s e=>if Region.binds .any e then s ||| (2^e.on |||ng.getD e.on 0)else s) s).testBit i=true→
   s.testBit i=true∨∃e∈l,Region.binds .any e=true∧(e.on=i∨(ng.getD e.on 0).testBit i=true):=by
 intro l
 induction l with
 |nil=>intro s h;exact .inl h
 |cons e l ih=>
  intro s h
  rw[List.foldl_cons]at h
  rcases ih _ h with h| ⟨x,hx,h⟩
  ·split at h
   ·rename_i hb
    rw[Nat.testBit_or,Nat.testBit_or,Nat.testBit_two_pow]at h
    simp only[ar8,aqI]at h
    rcases h with h|h|h
    ·exact .inl h
    ·exact .inr ⟨e,aq9,hb,.inl h⟩
    ·exact .inr ⟨e,aq9,hb,.inr h⟩
   ·exact .inl h
  ·exact .inr ⟨x,aq1 _ hx,h⟩
def AY(ops:Array Oper)(ng:Array Nat):Bool:=
 (List.range ops.size).all fun j=>
  match ops[j]? with
  |none=>false
  |some oj=>oj.after.all (fun e=> !Region.binds .any e || decide (e.on<j)) && (ng.getD j 0 |||up ng oj==up ng oj)
theorem Hz{ng:Array Nat}(h:AY ops ng=true){listed:Array Bool}(hc:vW ops listed){i:Nat}:∀ (j:Nat) (oj:Oper),ops[j]? =some oj→
  (∀e∈oj.after,Region.binds .any e=true→listed.getD e.on false=true)→(ng.getD j 0).testBit i=true→listed.getD i false=true:=by
 intro j
 induction j using Nat.strongRecOn with
 |_ j ih=>
  intro oj hj cM hb
  have aN:j<ops.size:=(aq5.1 hj).1
  have h1:=(arc.1 h) j (arl.2 aN)
  simp only[hj,aq0,beq_iff_eq]at h1
  obtain⟨QR,Lj⟩:=h1
  have hu:(up ng oj).testBit i=true:=by rw[←Lj,Nat.testBit_or,hb,Bool.true_or]
  rcases O2 _ _ hu with h0| ⟨e,he,VQ,h2⟩
  ·simp at h0
  ·have hem:e∈oj.after:=by simpa using he
   have hl:=cM e hem VQ
   rcases h2 with h2|h2
   ·exact h2▸hl
   ·have aic:e.on<j:=by
     have:=(arE.1 QR) e hem
     simpa[VQ]using this
    cases hoe:ops[e.on]? with
    |none=>
     have:ops.size≤e.on:=by simpa using hoe
     omega
    |some oe=>exact ih e.on aic oe hoe (hc e.on oe hoe hl) h2
def AZ(ops:Array Oper)(ng:Array Nat)(cls:Nat→LK):Bool:=
 (List.range ops.size).all fun j=>
  match ops[j]? with
  |none=>false
  |some oj=>(List.range j).all fun i=>(ng.getD j 0).testBit i ||
    match ops[i]? with
    |none=>false
    |some oi=>oi.apart ops oj && (cls i).PY (cls j)
theorem KY{ng:Array Nat}(h:AZ ops ng cls=true){i j:Nat}{oi oj:Oper}(hi:ops[i]? =some oi)(hj:ops[j]? =some oj)(Ll:i<j)
  (hn:(ng.getD j 0).testBit i=false):oi.apart ops oj=true∧(cls i).PY (cls j)=true:=by
 have aN:j<ops.size:=(aq5.1 hj).1
 have h1:=(arc.1 h) j (arl.2 aN)
 simp only[hj,arc,arl]at h1
 have h2:=h1 i Ll
 simp only[hi,hn,asl,aq0]at h2
 exact h2
theorem O3{ng:Array Nat}(D3:AY ops ng=true)(Zf:AZ ops ng cls=true){K:Act→Hp→Prop}{i:Nat}{oi:Oper}(hi:ops[i]? =some oi)
  (D4:∀ (j:Nat) (o:Oper) cs b,ops[j]? =some o→o.op≠ .select cs b):
  ∀ (c9:Nat) (listed:Array Bool) (a:Act) (H:Hp),vW ops listed→(∀j,j<i→listed.getD j false=true)→
   i∈Region.ready .any ops listed→
   jH P ops cls i (Re P ops cls K c9 (listed.setIfInBounds i true)) a H→Re P ops cls K (c9+1) listed a H:=by
 intro c9
 induction c9 with
 |zero=>
  intro listed a H _ _ hr h
  refine⟨fun h0=>(by rw[h0]at hr;cases hr),fun j hj=>?_⟩
  by_cases Ju:j=i
  ·subst Ju;exact h
  ·exfalso
   have HA:Region.ready .any ops (listed.setIfInBounds i true)=[]:=by
    unfold jH at h
    simp only[hi]at h
    split at h
    ·cases hc:cls i<;>simp only[hc]at h
     ·obtain⟨v,_,k⟩:=h;exact k.1
     ·obtain⟨v,_,k⟩:=h;exact k.1
     ·obtain⟨w,hw⟩:=Cq H
      rcases h w hw with ⟨v,w',_,_,k⟩| ⟨w',_,_,k⟩| ⟨f,args,w',_,_,hc⟩
      ·exact k.1
      ·exact k.1
      ·obtain⟨e,w'',fr,⟨v,_,_,k⟩,_⟩:=hc w' rfl []
       exact k.1
    ·exact h.1
   have:=ready_mono hj Ju
   rw[HA]at this
   cases this
 |succ c9 ih=>
  intro listed a H tQ nY hr h
  refine⟨fun h0=>(by rw[h0]at hr;cases hr),fun j hj=>?_⟩
  by_cases Ju:j=i
  ·subst Ju;exact h
  ·obtain⟨adx,oj,Uw,cM⟩:=mem_ready.1 hj
   have aid:=(mem_ready.1 hr).1
   have hjs:listed.getD j false=false:=by
    rcases arm j listed.size with h'|h'
    ·simpa[h']using adx
    ·simp[arj h']
   have his:listed.getD i false=false:=by
    rcases arm i listed.size with h'|h'
    ·simpa[h']using aid
    ·simp[arj h']
   have Ll:i<j:=by
    rcases arm i j with h'|h'
    ·exact h'
    ·have h1:=nY j (by omega)
     rw[hjs]at h1;cases h1
   have Zh:(ng.getD j 0).testBit i=false:=by
    cases hb:(ng.getD j 0).testBit i with
    |false=>rfl
    |true=>have:=Hz D3 tQ j oj Uw cM hb;rw[his]at this;cases this
   obtain⟨VO,ady⟩:=KY Zf hi Uw Ll Zh
   have h2:jH P ops cls i (fun a' H'=>jH P ops cls j (Re P ops cls K c9 ((listed.setIfInBounds i true).setIfInBounds j true)) a' H') a H:=
    AA (fun a' H' hk=>hk.2 j (ready_mono hj Ju)) h
   have h3:=adw hi Uw VO ady (fun cs b=>D4 i oi cs b hi) (fun cs b=>D4 j oj cs b Uw) h2
   refine AA (fun a' H' hk=>?_) h3
   refine ih (listed.setIfInBounds j true) a' H' (tQ.set hj) (fun k MC=>getD_set_true (nY k MC)) (ready_mono hr (Ne.symm Ju)) ?_
   rw[Array.setIfInBounds_comm _ _ Ju];exact hk
def Se(P:Program)(ops:Array Oper)(cls:Nat→LK)(K:Act→Hp→Prop):List Nat→Act→Hp→Prop
 | [],a,H=>K a H
 |i::r,a,H=>jH P ops cls i (Se P ops cls K r) a H
theorem KZ{ng:Array Nat}(D3:AY ops ng=true)(Zf:AZ ops ng cls=true)(D4:Region.noSelect ops=true){K:Act→Hp→Prop}:
  ∀ (m k:Nat) (listed:Array Bool) (a:Act) (H:Hp),k+m=ops.size→listed.size=ops.size→(∀j,listed.getD j false=decide (j<k))→
   Se P ops cls K (List.range' k m) a H→Re P ops cls K m listed a H:=by
 intro m
 induction m with
 |zero=>
  intro k listed a H hk hs hl h
  refine⟨?_,h⟩
  refine List.eq_nil_iff_forall_not_mem.2 fun j hj=>?_
  obtain⟨h0,o,ho,_⟩:=mem_ready.1 hj
  have aN:j<ops.size:=(aq5.1 ho).1
  have h1:=hl j
  rw[aqp (by omega)]at h1
  simp[show j<listed.size by omega]at h0 h1
  rw[h0]at h1;cases h1
 |succ m ih=>
  intro k listed a H hk hs hl h
  have aN:k<ops.size:=by omega
  obtain⟨o,ho⟩:∃o,ops[k]? =some o:=⟨ops[k],by simp[aN]⟩
  have VR:vW ops listed:=by
   intro x ox hx UH e he hb
   have qd:x<ops.size:=(aq5.1 hx).1
   have h1:=(arc.1 D3) x (arl.2 qd)
   simp only[hx,aq0]at h1
   have h2:=(arE.1 h1.1) e he
   simp only[hb,ark,asl,aqI]at h2
   rw[hl x,aqI]at UH
   rw[hl e.on]
   exact aqp (by omega)
  have HA:k∈Region.ready .any ops listed:=by
   refine mem_ready.2 ⟨?_,o,ho,fun e he hb=>?_⟩
   ·have h1:=hl k
    rw[aqA (by omega)]at h1
    simpa[show k<listed.size by omega]using h1
   ·have h1:=(arc.1 D3) k (arl.2 aN)
    simp only[ho,aq0]at h1
    have h2:=(arE.1 h1.1) e he
    simp only[hb,ark,asl,aqI]at h2
    rw[hl e.on];exact aqp h2
  refine O3 D3 Zf ho (Region.noSelect_spec D4) m listed a H VR (fun j hj=>by rw[hl j];exact aqp hj) HA ?_
  rw[List.range'_succ]at h
  simp only[Se]at h
  refine AA (fun a' H' MC=>ih (k+1) _ a' H' (by omega) (by simpa using hs) (fun j=>?_) MC) h
  by_cases hkj:k=j
  ·subst hkj
   simp[show k<listed.size by omega]
  ·rw[getD_set_ne false hkj,hl j]
   by_cases hjk:j<k
   ·rw[aqp hjk,aqp (by omega)]
   ·rw[aqA hjk,aqA (by omega)]
theorem Gl{id:Nat}{ng:Array Nat}(hm:P.follows .mixedOrders=true)(D3:AY ops ng=true)(Zf:AZ ops ng cls=true)
  (D4:Region.noSelect ops=true){K:Act→Hp→Prop}{Q:Exit→Act→World→Prop}{a:Act}{w:World}
  (hQ:∀a' w',cu w w'→K a' w'.heap→Q .normal a' w')(h:Se P ops cls K (List.range ops.size) a w.heap):(Code.region id ops true).wp P Q a w:=by
 refine wp_region_any hm ?_
 refine I5 (cls:=cls) (K:=K) (w₀:=w) hQ _ _ _ _ ⟨rfl,rfl⟩ ?_
 refine KZ D3 Zf D4 ops.size 0 _ _ _ (by omega) (by simp) (fun j=>?_) (by rw[List.range_eq_range']at h;exact h)
 simp only[Nat.not_lt_zero,decide_false]
 by_cases hj:j<ops.size<;>simp[hj]
theorem Gk{id:Nat}{K:Act→Hp→Prop}{Q:Exit→Act→World→Prop}{a:Act}{w:World}
  (hQ:∀a' w',cu w w'→K a' w'.heap→Q .normal a' w')(h:LS P ops K (List.range ops.size) a w.heap):(Code.region id ops false).wp P Q a w:=
 wp_region (I3 hQ _ _ _ (cu.refl w) h)
inductive Ot where
 |done
 |step(i:Nat)(t:Ot)
 |aC(i:Nat)(t r:Ot)
 |stop
 deriving Inhabited
def iC(P:Program)(ops:Array Oper)(Inv:Hp→Prop)(st:Nat→Bool)(i:Nat)(K:Act→Hp→Prop)(a:Act)(H:Hp):Prop:=
 match ops[i]? with
 |none=>K a H
 |some o=>
  if Region.wanted o (yielded ops a.tmps)then
   match st i with
   |true=>∃v,(∀H',Inv H'→eC P o a H' fun v' zh=>v'=v∧zh=H')∧K (a.put o.dst v) H
   |false=>eC P o a H fun v H'=>Inv H'∧K (a.put o.dst v) H'
  else K (a.put o.dst undef) H
variable {Inv : Hp → Prop} {st : Nat → Bool}
theorem sV{i:Nat}{K K':Act→Hp→Prop}{a:Act}{H:Hp}(hI:Inv H)(hk:∀a H,Inv H→K a H→K' a H)
  (h:iC P ops Inv st i K a H):iC P ops Inv st i K' a H:=by
 unfold iC at*
 split
 ·exact hk _ _ hI (by simpa[*]using h)
 ·rename_i o ho
  simp only[ho]at h
  split
  ·rename_i hw
   rw[if_pos hw]at h
   cases hc:st i with
   |true=>rw[hc]at h;obtain⟨v,h1,h2⟩:=h;exact⟨v,h1,hk _ _ hI h2⟩
   |false=>rw[hc]at h;exact h.mono fun v H' ⟨k1,k2⟩=>⟨k1,hk _ _ k1 k2⟩
  ·rename_i hw;rw[if_neg hw]at h;exact hk _ _ hI h
theorem I6{i:Nat}{K:Act→Hp→Prop}{a:Act}{w:World}{K':Act→World→Prop}
  {Q:Exit→Act→World→Prop}(hI:Inv w.heap)(hk:∀a w',cu w w'→Inv w'.heap→K a w'.heap→K' a w')(h:iC P ops Inv st i K a w.heap):wpOp P ops Q i K' a w:=by
 unfold iC at h
 unfold wpOp
 split
 ·rename_i ho;rw[ho]at h;exact hk _ _ (cu.refl w) hI h
 ·rename_i o ho
  simp only[ho]at h
  split
  ·rename_i hw
   rw[if_pos hw]at h
   refine .inl ?_
   cases hc:st i with
   |true=>
    rw[hc]at h
    obtain⟨v,h1,h2⟩:=h
    exact(h1 w.heap hI).wp rfl fun v' w' hs ⟨e1,e2⟩=>by subst e1;exact hk _ _ hs (e2▸hI) (e2▸h2)
   |false=>rw[hc]at h;exact h.wp rfl fun v' w' hs ⟨k1,k2⟩=>hk _ _ hs k1 k2
  ·rename_i hw;rw[if_neg hw]at h;exact hk _ _ (cu.refl w) hI h
def anyI(P:Program)(ops:Array Oper)(Inv:Hp→Prop)(st:Nat→Bool)(K:Act→Hp→Prop):Nat→Array Bool→Act→Hp→Prop
 |0,listed,a,H=>Region.ready .any ops listed=[]∧K a H
 |c9+1,listed,a,H=>
  (Region.ready .any ops listed=[]→K a H)∧
  ∀i∈Region.ready .any ops listed,iC P ops Inv st i (anyI P ops Inv st K c9 (listed.setIfInBounds i true)) a H
theorem I7{K:Act→Hp→Prop}{Q:Exit→Act→World→Prop}{w₀:World}
  (hQ:∀a w,cu w₀ w→K a w.heap→Q .normal a w):∀ (c9:Nat) (listed:Array Bool) (a:Act) (w:World),cu w₀ w→Inv w.heap→
   anyI P ops Inv st K c9 listed a w.heap→wpAny P .any ops Q c9 listed a w:=by
 intro c9
 induction c9 with
 |zero=>intro listed a w hs _ h;exact⟨h.1,hQ _ _ hs h.2⟩
 |succ c9 ih=>
  intro listed a w hs hI h
  exact⟨fun hr=>hQ _ _ hs (h.1 hr),fun i hi=>I6 hI (fun a' w' El UU hk=>ih _ _ _ (hs.trans El) UU hk) (h.2 i hi)⟩
theorem adz{i j:Nat}{oi oj:Oper}(hi:ops[i]? =some oi)(hj:ops[j]? =some oj)(VO:oi.apart ops oj=true)(uO:st i=true)
  (hsi:∀cs b,oi.op≠ .select cs b)(hsj:∀cs b,oj.op≠ .select cs b){K:Act→Hp→Prop}{a:Act}{H:Hp}
  (h:iC P ops Inv st i (fun a' H'=>iC P ops Inv st j K a' H') a H):iC P ops Inv st j (fun a' H'=>iC P ops Inv st i K a' H') a H:=by
 obtain⟨h1,h2,h3⟩:=Oper.apart_spec VO
 have wi:∀u,Region.wanted oi (yielded ops (a.put oj.dst u).tmps)=Region.wanted oi (yielded ops a.tmps):=fun u=>wanted_put oi a oj.dst u h3
 have wj:∀u,Region.wanted oj (yielded ops (a.put oi.dst u).tmps)=Region.wanted oj (yielded ops a.tmps):=fun u=>wanted_put oj a oi.dst u h1
 have cm:∀v u,(a.put oi.dst v).put oj.dst u=(a.put oj.dst u).put oi.dst v:=fun v u=>Act.put_comm a v u h2
 unfold iC at*
 simp only[hi,hj,uO]at*
 simp only[wi,wj,cm,Cr (P:=P) hsi h3,Cr (P:=P) hsj h1]at*
 rcases jy (o:=oi) (y:=yielded ops a.tmps)with SM|SM<;>rcases jy (o:=oj) (y:=yielded ops a.tmps)with VP|VP<;>
  simp only[SM,VP,if_true,if_false,ara]at*
 ·cases Zg:st j<;>simp only[Zg]at h ⊢
  ·obtain⟨v,e1,k⟩:=h;exact k.mono fun u H' ⟨k1,k2⟩=>⟨k1,v,e1,k2⟩
  ·obtain⟨v,e1,u,e2,k⟩:=h;exact⟨u,e2,v,e1,k⟩
 ·exact h
 ·cases Zg:st j<;>simp only[Zg]at h ⊢ <;>exact h
 ·exact h
def iP(ops:Array Oper)(ng:Array Nat)(st:Nat→Bool)(listed:Array Bool)(i:Nat):Bool:=
 st i && match ops[i]? with
 |none=>false
 |some oi=>(List.range ops.size).all fun j=>j==i || listed.getD j false || (ng.getD j 0).testBit i ||
   match ops[j]? with
   |none=>false
   |some oj=>oi.apart ops oj
def Uc(ops:Array Oper)(ng:Array Nat)(st:Nat→Bool):Ot→Array Bool→List Nat→Bool
 | .done,listed,_=>(Region.ready .any ops listed).isEmpty
 | .step i t,listed,_=>(Region.ready .any ops listed).contains i && iP ops ng st listed i && Uc ops ng st t (listed.setIfInBounds i true) []
 | .aC i t r,listed,hd=>(Region.ready .any ops listed).contains i && Uc ops ng st t (listed.setIfInBounds i true) [] && Uc ops ng st r listed (i::hd)
 | .stop,listed,hd=> !(Region.ready .any ops listed).isEmpty && (Region.ready .any ops listed).all (hd.contains ·)
def Qy(P:Program)(ops:Array Oper)(Inv:Hp→Prop)(st:Nat→Bool)(K:Act→Hp→Prop):Ot→Act→Hp→Prop
 | .done,a,H=>K a H
 | .step i t,a,H=>iC P ops Inv st i (Qy P ops Inv st K t) a H
 | .aC i t r,a,H=>iC P ops Inv st i (Qy P ops Inv st K t) a H∧Qy P ops Inv st K r a H
 | .stop,_,_=>True
theorem Rf{listed:Array Bool}{i j:Nat}(h:listed.getD j false=true):(listed.setIfInBounds i true).getD j false=true:=getD_set_true h
theorem HB{ng:Array Nat}{listed:Array Bool}{i j:Nat}(h:iP ops ng st listed i=true):iP ops ng st (listed.setIfInBounds j true) i=true:=by
 unfold iP at*
 rw[aq0]at*
 refine⟨h.1,?_⟩
 have h:=h.2
 split at h
 ·cases h
 ·rename_i oi ho
  rw[arc]at*
  intro k hk
  have:=h k hk
  simp only[ar8]at this ⊢
  rcases this with ((h|h)|h)|h
  ·exact .inl (.inl (.inl h))
  ·exact .inl (.inl (.inr (Rf h)))
  ·exact .inl (.inr h)
  ·exact .inr h
theorem jz{listed:Array Bool}{i:Nat}(h:i∈Region.ready .any ops listed):listed.getD i false=false:=by
 obtain⟨hun,_⟩:=mem_ready.1 h
 rcases arm i listed.size with h'|h'
 ·simpa[h']using hun
 ·simp[arj h']
theorem Rg{ng:Array Nat}(D3:AY ops ng=true){K:Act→Hp→Prop}{i:Nat}{oi:Oper}(hi:ops[i]? =some oi)
  (D4:∀ (j:Nat) (o:Oper) cs b,ops[j]? =some o→o.op≠ .select cs b):
  ∀ (c9:Nat) (listed:Array Bool) (a:Act) (H:Hp),Inv H→vW ops listed→iP ops ng st listed i=true→
   i∈Region.ready .any ops listed→
   iC P ops Inv st i (anyI P ops Inv st K c9 (listed.setIfInBounds i true)) a H→anyI P ops Inv st K (c9+1) listed a H:=by
 intro c9
 induction c9 with
 |zero=>
  intro listed a H hI _ tF hr h
  refine⟨fun h0=>(by rw[h0]at hr;cases hr),fun j hj=>?_⟩
  by_cases Ju:j=i
  ·subst Ju;exact h
  ·exfalso
   have uO:st i=true:=by unfold iP at tF;rw[aq0]at tF;exact tF.1
   have HA:Region.ready .any ops (listed.setIfInBounds i true)=[]:=by
    unfold iC at h
    simp only[hi,uO]at h
    split at h
    ·obtain⟨v,_,k⟩:=h;exact k.1
    ·exact h.1
   have:=ready_mono hj Ju
   rw[HA]at this
   cases this
 |succ c9 ih=>
  intro listed a H hI tQ tF hr h
  refine⟨fun h0=>(by rw[h0]at hr;cases hr),fun j hj=>?_⟩
  by_cases Ju:j=i
  ·subst Ju;exact h
  ·obtain⟨adx,oj,Uw,cM⟩:=mem_ready.1 hj
   have hjs:=jz hj
   have his:=jz hr
   have uO:st i=true:=by have hf:=tF;unfold iP at hf;rw[aq0]at hf;exact hf.1
   have Zh:(ng.getD j 0).testBit i=false:=by
    cases hb:(ng.getD j 0).testBit i with
    |false=>rfl
    |true=>have:=Hz D3 tQ j oj Uw cM hb;rw[his]at this;cases this
   have VO:oi.apart ops oj=true:=by
    have hf:=tF
    unfold iP at hf
    rw[aq0]at hf
    have hf:=hf.2
    rw[hi]at hf
    simp only at hf
    have aN:j<ops.size:=(aq5.1 Uw).1
    have:=(arc.1 hf) j (arl.2 aN)
    have aR:(j==i)=false:=by simpa using Ju
    simp only[Uw,Zh,hjs,aR,asl]at this
    exact this
   have h2:iC P ops Inv st i (fun a' H'=>iC P ops Inv st j (anyI P ops Inv st K c9 ((listed.setIfInBounds i true).setIfInBounds j true)) a' H') a H:=
    sV hI (fun a' H' _ hk=>hk.2 j (ready_mono hj Ju)) h
   have h3:=adz hi Uw VO uO (fun cs b=>D4 i oi cs b hi) (fun cs b=>D4 j oj cs b Uw) h2
   refine sV hI (fun a' H' UU hk=>?_) h3
   refine ih (listed.setIfInBounds j true) a' H' UU (tQ.set hj) (HB tF) (ready_mono hr (Ne.symm Ju)) ?_
   rw[Array.setIfInBounds_comm _ _ Ju];exact hk
theorem count_set:∀ (l:List Bool) (i:Nat),l[i]? =some false→(l.set i true).count false+1=l.count false:=by
 intro l
 induction l with
 |nil=>intro i h;simp at h
 |cons b l ih=>
  intro i h
  cases i with
  |zero=>
   simp only[aqE,aqk]at h
   subst h
   simp
  |succ i=>
   have:=ih i (by simpa using h)
   rw[aqU,arX,arX]
   omega
theorem Cs{listed:Array Bool}{i c9:Nat}(hs:listed.size=ops.size)(hc:listed.toList.count false=c9)(h:i∈Region.ready .any ops listed):
  ∃f,c9=f+1∧(listed.setIfInBounds i true).toList.count false=f∧(listed.setIfInBounds i true).size=ops.size:=by
 have h1:=jz h
 obtain⟨_,o,ho,_⟩:=mem_ready.1 h
 have aN:i<listed.size:=by rw[hs];exact(aq5.1 ho).1
 have h2:listed.toList[i]? =some false:=by
  simp only[Array.getElem?_toList]
  simp[aN]at h1 ⊢
  exact h1
 have h3:=count_set _ i h2
 refine⟨(listed.setIfInBounds i true).toList.count false,?_,rfl,by simpa using hs⟩
 rw[Array.toList_setIfInBounds]
 omega
theorem K4{ng:Array Nat}(D3:AY ops ng=true)(D4:Region.noSelect ops=true){K:Act→Hp→Prop}:
  ∀ (t:Ot) (listed:Array Bool) (hd:List Nat) (c9:Nat) (a:Act) (H:Hp),Uc ops ng st t listed hd=true→Inv H→vW ops listed→listed.size=ops.size→listed.toList.count false=c9→
   (∀i∈hd,i∈Region.ready .any ops listed→∃f,c9=f+1∧iC P ops Inv st i (anyI P ops Inv st K f (listed.setIfInBounds i true)) a H)→Qy P ops Inv st K t a H→anyI P ops Inv st K c9 listed a H:=by
 intro t
 induction t with
 |done=>
  intro listed hd c9 a H tU _ _ _ _ _ h
  simp only[Uc,List.isEmpty_iff]at tU
  cases c9 with
  |zero=>exact⟨tU,h⟩
  |succ c9=>exact⟨fun _=>h,fun i hi=>by rw[tU]at hi;cases hi⟩
 |step i t ih=>
  intro listed hd c9 a H tU hI tQ hs hc _ h
  simp only[Uc,aq0,List.contains_iff_mem]at tU
  obtain⟨⟨hr,tF⟩,tU⟩:=tU
  obtain⟨f,rfl,NF,El⟩:=Cs hs hc hr
  obtain⟨_,o,ho,_⟩:=mem_ready.1 hr
  refine Rg D3 ho (Region.noSelect_spec D4) f listed a H hI tQ tF hr ?_
  refine sV hI (fun a' H' UU hk=>?_) h
  exact ih _ [] f a' H' tU UU (tQ.set hr) El NF (fun i hi=>by cases hi) hk
 |aC i t r iht ihr=>
  intro listed hd c9 a H tU hI tQ hs hc VI h
  simp only[Uc,aq0,List.contains_iff_mem]at tU
  obtain⟨⟨hr,aig⟩,aih⟩:=tU
  obtain⟨f,rfl,NF,El⟩:=Cs hs hc hr
  refine ihr listed (i::hd) (f+1) a H aih hI tQ hs hc ?_ h.2
  intro j hj hjr
  rcases aqC.1 hj with rfl|hj
  ·refine⟨f,rfl,sV hI (fun a' H' UU hk=>?_) h.1⟩
   exact iht _ [] f a' H' aig UU (tQ.set hr) El NF (fun i hi=>by cases hi) hk
  ·exact VI j hj hjr
 |stop=>
  intro listed hd c9 a H tU hI tQ hs hc VI _
  simp only[Uc,aq0,arc,List.contains_iff_mem]at tU
  obtain⟨aR,cM⟩:=tU
  by_cases hre:Region.ready .any ops listed=[]
  ·exact absurd (List.isEmpty_iff.2 hre) (by simpa using aR)
  ·obtain⟨i,hi⟩:=List.exists_mem_of_ne_nil _ hre
   obtain⟨f,rfl,_⟩:=VI i (cM i hi) hi
   refine⟨fun h0=>absurd h0 hre,fun j hj=>?_⟩
   obtain⟨f',e,h⟩:=VI j (cM j hj) hj
   have:f'=f:=by omega
   subst this
   exact h
theorem Gj{id:Nat}{ng:Array Nat}{t:Ot}(hm:P.follows .mixedOrders=true)(D3:AY ops ng=true)(tU:Uc ops ng st t (Array.replicate ops.size false) []=true)
  (D4:Region.noSelect ops=true){K:Act→Hp→Prop}{Q:Exit→Act→World→Prop}{a:Act}{w:World}(hI:Inv w.heap)
  (hQ:∀a' w',cu w w'→K a' w'.heap→Q .normal a' w')(h:Qy P ops Inv st K t a w.heap):(Code.region id ops true).wp P Q a w:=by
 refine wp_region_any hm ?_
 refine I7 (Inv:=Inv) (st:=st) (K:=K) (w₀:=w) hQ _ _ _ _ ⟨rfl,rfl⟩ hI ?_
 refine K4 D3 D4 t _ [] _ _ _ tU hI ?_ (by simp) (by simp) (fun i hi=>by cases hi) h
 intro k ok _ hl
 exfalso
 by_cases hk:k<ops.size<;>simp[hk]at hl
end
end Go.Vc
