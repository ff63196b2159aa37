/- Texts put behind each other. -/
import Derived.Test.YtjkkkibiegfecaaGreatDoorK98
import Derived.Orders
import Derived.Laws.Sem
import Derived.Laws.World
import Derived.KernelRfl
set_option maxRecDepth 100000
set_option maxHeartbeats 8000000
namespace Go.Vc
structure Tag{α:Sort _}(F:α):Type where
abbrev Hp:=Array Obj
structure cz(w w':World):Prop where
 os:w'.os=w.os
 output:w'.output=w.output
theorem cz.refl(w:World):cz w w:=⟨rfl,rfl⟩
theorem cz.trans{a b c:World}(h:cz a b)(k:cz b c):cz a c:=⟨k.os.trans h.os,k.output.trans h.output⟩
def ag(P:Program)(f:FuncId)(args:List Value)(H:Hp)(K:Value→Hp→Prop)(_t:Tag K:=⟨⟩):Prop:=
 ∀w,w.heap=H→Calls P f args.toArray w fun e w'=>∃v,e= .returned v∧cz w w'∧K v w'.heap
theorem ag.mono{P:Program}{f:FuncId}{args:List Value}{H:Hp}{K K':Value→Hp→Prop}(h:ag P f args H K)(hk:∀v H',K v H'→K' v H'):
  ag P f args H K':=
 fun w hw=>(h w hw).mono (by grind)
def ef(P:Program)(o:Oper)(a:Act)(H:Hp)(K:Value→Hp→Prop):Prop:=
 ∀w,w.heap=H→
  (∃v w',(execOp a.eval o).run P w= .ok (.value v) w'∧cz w w'∧K v w'.heap)∨
  (∃w',(execOp a.eval o).run P w= .ok .skip w'∧cz w w'∧K undef w'.heap)∨
  (∃f args w',(execOp a.eval o).run P w= .ok (.enter f args) w'∧cz w w'∧ag P f args.toList w'.heap K)
theorem ef.mono{P:Program}{o:Oper}{a:Act}{H:Hp}{K K':Value→Hp→Prop}(h:ef P o a H K)(hk:∀v H',K v H'→K' v H'):ef P o a H K':=by
 intro w hw
 rcases h w hw with ⟨v,w',h1,h2,h3⟩| ⟨w',h1,h2,h3⟩| ⟨f,args,w',h1,h2,h3⟩
 ·exact .inl (by grind)
 ·exact .inr (.inl (by grind))
 ·exact .inr (.inr ⟨f,args,w',h1,h2,h3.mono hk⟩)
theorem ef.wp{P:Program}{o:Oper}{a:Act}{H:Hp}{K:Value→Hp→Prop}{next:Act→World→Prop}{Q:Exit→Act→World→Prop}{w:World}
  (h:ef P o a H K)(hw:w.heap=H)(hn:∀v w',cz w w'→K v w'.heap→next (a.put o.dst v) w'):o.wp P a w next Q:=by
 unfold Oper.wp
 rcases h w hw with ⟨v,w',h1,h2,h3⟩| ⟨w',h1,h2,h3⟩| ⟨f,args,w',h1,h2,h3⟩
 ·rw[h1];exact hn _ _ h2 h3
 ·rw[h1];exact hn _ _ h2 h3
 ·rw[h1]
  have h4:=h3 w' rfl
  simp only[apn]at h4
  show Calls P f args w' _
  refine h4.mono fun e w'' he=>?_
  obtain⟨v,rfl,hs,hk⟩:=he
  exact hn _ _ (h2.trans hs) hk
def LX(P:Program)(ops:Array Oper)(K:Act→Hp→Prop):List Nat→Act→Hp→Prop
 | [],a,H=>K a H
 |i::r,a,H=>
  match ops[i]? with
  |none=>LX P ops K r a H
  |some o=>if Region.wanted o (yielded ops a.tmps)then ef P o a H (fun v H'=>LX P ops K r (a.put o.dst v) H')else LX P ops K r (a.put o.dst undef) H
theorem Jb{P:Program}{ops:Array Oper}{K:Act→Hp→Prop}{Q:Exit→Act→World→Prop}{w₀:World}
  (hQ:∀a w,cz w₀ w→K a w.heap→Q .normal a w):∀ (l:List Nat) (a:Act) (w:World),cz w₀ w→LX P ops K l a w.heap→wpOps P ops Q l a w:=by
 intro l
 induction l with
 |nil=>intro a w hs h;exact hQ a w hs h
 |cons i r ih=>
  intro a w hs h
  simp only[wpOps,LX]at*
  cases ho:ops[i]? with
  |none=>grind
  |some o=>
   rw[ho]at h
   simp only at h ⊢
   split
   ·rename_i hw
    rw[if_pos hw]at h
    exact .inl (h.wp rfl fun v w' Es hk=>ih _ _ (hs.trans Es) hk)
   grind
inductive LN where
 |pure|quiet|HZ
 deriving DecidableEq,Inhabited
def ke(P:Program)(ops:Array Oper)(cls:Nat→LN)(i:Nat)(K:Act→Hp→Prop)(a:Act)(H:Hp):Prop:=
 match ops[i]? with
 |none=>K a H
 |some o=>
  if Region.wanted o (yielded ops a.tmps)then
   match cls i with
   | .pure=>∃v,(∀w,(execOp a.eval o).run P w= .ok (.value v) w)∧K (a.put o.dst v) H
   | .quiet=>∃v,ef P o a H (fun v' H'=>v'=v∧H'=H)∧K (a.put o.dst v) H
   | .HZ=>ef P o a H fun v H'=>K (a.put o.dst v) H'
  else K (a.put o.dst undef) H
theorem Am{P:Program}{ops:Array Oper}{cls:Nat→LN}{i:Nat}{K K':Act→Hp→Prop}{a:Act}{H:Hp}(hk:∀a H,K a H→K' a H)
  (h:ke P ops cls i K a H):ke P ops cls i K' a H:=by
 unfold ke at*
 split
 ·grind
 ·rename_i o ho
  simp only[ho]at h
  split
  ·rename_i hw
   rw[if_pos hw]at h
   cases hc:cls i with
   |pure=>grind
   |quiet=>grind
   |HZ=>rw[hc]at h;exact h.mono fun v H'=>hk _ _
  grind
theorem AQ{P:Program}{o:Oper}{a:Act}{v:Value}(h:∀w,(execOp a.eval o).run P w= .ok (.value v) w)(H:Hp):
  ef P o a H fun v' H'=>v'=v∧H'=H:=fun w hw=>.inl ⟨v,w,h w,cz.refl w,rfl,hw⟩
theorem Jc{P:Program}{ops:Array Oper}{cls:Nat→LN}{i:Nat}{K:Act→Hp→Prop}{a:Act}{w:World}{K':Act→World→Prop}
  {Q:Exit→Act→World→Prop}(hk:∀a w',cz w w'→K a w'.heap→K' a w')(h:ke P ops cls i K a w.heap):wpOp P ops Q i K' a w:=by
 unfold ke at h
 unfold wpOp
 split
 ·rename_i ho;rw[ho]at h;exact hk _ _ (cz.refl w) h
 ·rename_i o ho
  simp only[ho]at h
  split
  ·rename_i hw
   rw[if_pos hw]at h
   refine .inl ?_
   cases hc:cls i with
   |pure=>
    rw[hc]at h
    obtain⟨v,h1,h2⟩:=h
    exact(AQ h1 w.heap).wp rfl (by grind)
   |quiet=>
    rw[hc]at h
    obtain⟨v,h1,h2⟩:=h
    exact h1.wp rfl (by grind)
   |HZ=>rw[hc]at h;exact h.wp rfl (by grind)
  ·rename_i hw;rw[if_neg hw]at h;exact hk _ _ (cz.refl w) h
def Rs(P:Program)(ops:Array Oper)(cls:Nat→LN)(K:Act→Hp→Prop):Nat→Array Bool→Act→Hp→Prop
 |0,listed,a,H=>Region.ready .any ops listed=[]∧K a H
 |dk+1,listed,a,H=>
  (Region.ready .any ops listed=[]→K a H)∧
  ∀i∈Region.ready .any ops listed,ke P ops cls i (Rs P ops cls K dk (listed.setIfInBounds i true)) a H
theorem Jd{P:Program}{ops:Array Oper}{cls:Nat→LN}{K:Act→Hp→Prop}{Q:Exit→Act→World→Prop}{w₀:World}
  (hQ:∀a w,cz w₀ w→K a w.heap→Q .normal a w):∀ (dk:Nat) (listed:Array Bool) (a:Act) (w:World),cz w₀ w→
   Rs P ops cls K dk listed a w.heap→wpAny P .any ops Q dk listed a w:=by
 intro dk
 induction dk with
 |zero=>intro listed a w hs h;exact⟨h.1,hQ _ _ hs h.2⟩
 |succ dk ih=>
  intro listed a w hs h
  exact⟨fun hr=>hQ _ _ hs (h.1 hr),fun i hi=>Jc (fun a' w' Es hk=>ih _ _ _ (hs.trans Es) hk) (h.2 i hi)⟩
def LN.Qa:LN→LN→Bool
 | .pure,_=>true
 |_,.pure=>true
 | .quiet,.quiet=>true
 |_,_=>false
section
variable {P : Program} {ops : Array Oper} {cls : Nat → LN}
theorem Cu(H:Hp):∃w:World,w.heap=H:=⟨{ (default:World)with heap:=H},rfl⟩
theorem jT{o:Oper}{y:Nat→Option Bool}:Region.wanted o y=true∨Region.wanted o y=false:=by grind
theorem Cv{o:Oper}{a:Act}{dst:Option Tmp}{u:Value}(hs:∀cs b,o.op≠ .select cs b)(h:∀d,dst=some d→d∉o.looksAt ops){H:Hp}{K:Value→Hp→Prop}:
  ef P o (a.put dst u) H K↔ef P o a H K:=by
 unfold ef
 rw[execOp_put (ops:=ops) o hs a dst u h]
theorem ace{i j:Nat}{oi oj:Oper}(hi:ops[i]? =some oi)(hj:ops[j]? =some oj)(Ys:oi.apart ops oj=true)(Yt:(cls i).Qa (cls j)=true)
  (hsi:∀cs b,oi.op≠ .select cs b)(hsj:∀cs b,oj.op≠ .select cs b){K:Act→Hp→Prop}{a:Act}{H:Hp}
  (h:ke P ops cls i (fun a' H'=>ke P ops cls j K a' H') a H):ke P ops cls j (fun a' H'=>ke P ops cls i K a' H') a H:=by
 obtain⟨h1,h2,h3⟩:=Oper.apart_spec Ys
 have wi:∀u,Region.wanted oi (yielded ops (a.put oj.dst u).tmps)=Region.wanted oi (yielded ops a.tmps):=fun u=>wanted_put oi a oj.dst u h3
 have wj:∀u,Region.wanted oj (yielded ops (a.put oi.dst u).tmps)=Region.wanted oj (yielded ops a.tmps):=fun u=>wanted_put oj a oi.dst u h1
 have ei:∀u,execOp (a.put oj.dst u).eval oi=execOp a.eval oi:=fun u=>execOp_put oi hsi a oj.dst u h3
 have ej:∀u,execOp (a.put oi.dst u).eval oj=execOp a.eval oj:=fun u=>execOp_put oj hsj a oi.dst u h1
 have cm:∀v u,(a.put oi.dst v).put oj.dst u=(a.put oj.dst u).put oi.dst v:=fun v u=>Act.put_comm a v u h2
 unfold ke at*
 simp only[hi,hj]at*
 simp only[wi,wj,ei,ej,cm,Cv (P:=P) hsi h3,Cv (P:=P) hsj h1]at*
 rcases jT (o:=oi) (y:=yielded ops a.tmps)with hwi|hwi<;>rcases jT (o:=oj) (y:=yielded ops a.tmps)with hwj|hwj<;>
  simp only[hwi,hwj,if_true,if_false,ao6]at*
 ·cases hci:cls i<;>cases hcj:cls j<;>simp only[hci,hcj,LN.Qa,ao6]at h Yt ⊢
  ·grind
  ·grind
  ·obtain⟨v,e1,k⟩:=h;simp_all
  ·grind
  ·grind
  ·obtain⟨w,hw⟩:=Cu H
   have pick:∃u,∀w,(execOp a.eval oj).run P w= .ok (.value u) w:=by
    rcases h w hw with ⟨v,w',_,_,u,e,_⟩| ⟨w',_,_,u,e,_⟩| ⟨f,args,w',_,_,hc⟩
    ·simp_all
    ·simp_all
    ·obtain⟨e,w'',fr,⟨v,_,_,u,eu,_⟩,_⟩:=hc w' rfl []
     simp_all
   obtain⟨u,eu⟩:=pick
   simp_all
 ·omega
 ·omega
 omega
def wu(ops:Array Oper)(listed:Array Bool):Prop:=
 ∀k ok,ops[k]? =some ok→listed.getD k false=true→∀e∈ok.after,Region.binds .any e=true→listed.getD e.on false=true
theorem wu.set{listed:Array Bool}(h:wu ops listed){i:Nat}(hi:i∈Region.ready .any ops listed):wu ops (listed.setIfInBounds i true):=by
 intro k ok hk hl e he hb
 by_cases hik:i=k
 ·subst hik
  obtain⟨_,o,ho,jZ⟩:=mem_ready.1 hi
  rw[hk]at ho
  injection ho with ho
  subst ho
  exact getD_set_true (jZ e he hb)
 ·rw[getD_set_ne false hik]at hl
  exact getD_set_true (h k ok hk hl e he hb)
def up(nG:Array Nat)(o:Oper):Nat:=o.after.toList.foldl (fun s e=>if Region.binds .any e then s ||| (2^e.on |||nG.getD e.on 0)else s) 0
theorem O8{nG:Array Nat}{i:Nat}:∀ (l:List Edge) (s:Nat),
  (l.foldl (fun s e=>if Region.binds .any e then s ||| (2^e.on |||nG.getD e.on 0)else s) s).testBit i=true→
   s.testBit i=true∨∃e∈l,Region.binds .any e=true∧(e.on=i∨(nG.getD e.on 0).testBit i=true):=by
 intro l
 induction l with
 |nil=>grind
 |cons e l ih=>
  grind
def AR(ops:Array Oper)(nG:Array Nat):Bool:=
 (List.range ops.size).all fun j=>
  match ops[j]? with
  |none=>false
  |some oj=>oj.after.all (fun e=> !Region.binds .any e || decide (e.on<j)) && (nG.getD j 0 |||up nG oj==up nG oj)
theorem Hy{nG:Array Nat}(h:AR ops nG=true){listed:Array Bool}(hc:wu ops listed){i:Nat}:∀ (j:Nat) (oj:Oper),ops[j]? =some oj→
  (∀e∈oj.after,Region.binds .any e=true→listed.getD e.on false=true)→(nG.getD j 0).testBit i=true→listed.getD i false=true:=by
 intro j
 induction j using Nat.strongRecOn with
 |_ j ih=>
  intro oj hj jZ hb
  have bf:j<ops.size:=by grind
  have h1:=(apq.1 h) j (by grind)
  simp only[hj,aoW,beq_iff_eq]at h1
  obtain⟨hlo,Ly⟩:=h1
  have hu:(up nG oj).testBit i=true:=by grind
  rcases O8 _ _ hu with h0| ⟨e,he,Yu,h2⟩
  ·grind
  ·have hem:e∈oj.after:=by simpa using he
   have hl:=jZ e hem Yu
   rcases h2 with h2|h2
   ·grind
   ·have agZ:e.on<j:=by
     have:=(apg.1 hlo) e hem
     simpa[Yu]using this
    cases hoe:ops[e.on]? with
    |none=>
     grind
    |some oe=>exact ih e.on agZ oe hoe (hc e.on oe hoe hl) h2
def wJ(ops:Array Oper)(nG:Array Nat)(cls:Nat→LN):Bool:=
 (List.range ops.size).all fun j=>
  match ops[j]? with
  |none=>false
  |some oj=>(List.range j).all fun i=>(nG.getD j 0).testBit i ||
    match ops[i]? with
    |none=>false
    |some oi=>oi.apart ops oj && (cls i).Qa (cls j)
theorem Lc{nG:Array Nat}(h:wJ ops nG cls=true){i j:Nat}{oi oj:Oper}(hi:ops[i]? =some oi)(hj:ops[j]? =some oj)(NT:i<j)
  (hn:(nG.getD j 0).testBit i=false):oi.apart ops oj=true∧(cls i).Qa (cls j)=true:=by
 grind [wJ]
theorem O9{nG:Array Nat}(DQ:AR ops nG=true)(Yt:wJ ops nG cls=true){K:Act→Hp→Prop}{i:Nat}{oi:Oper}(hi:ops[i]? =some oi)
  (Ld:∀ (j:Nat) (o:Oper) cs b,ops[j]? =some o→o.op≠ .select cs b):
  ∀ (dk:Nat) (listed:Array Bool) (a:Act) (H:Hp),wu ops listed→(∀j,j<i→listed.getD j false=true)→
   i∈Region.ready .any ops listed→
   ke P ops cls i (Rs P ops cls K dk (listed.setIfInBounds i true)) a H→Rs P ops cls K (dk+1) listed a H:=by
 intro dk
 induction dk with
 |zero=>
  intro listed a H _ _ hr h
  refine⟨by grind,fun j hj=>?_⟩
  by_cases Rt:j=i
  ·grind
  ·exfalso
   have Pa:Region.ready .any ops (listed.setIfInBounds i true)=[]:=by
    unfold ke at h
    simp only[hi]at h
    split at h
    ·cases hc:cls i<;>simp only[hc]at h
     ·obtain⟨v,_,k⟩:=h;exact k.1
     ·obtain⟨v,_,k⟩:=h;exact k.1
     ·obtain⟨w,hw⟩:=Cu H
      rcases h w hw with ⟨v,w',_,_,k⟩| ⟨w',_,_,k⟩| ⟨f,args,w',_,_,hc⟩
      ·exact k.1
      ·exact k.1
      ·obtain⟨e,w'',fr,⟨v,_,_,k⟩,_⟩:=hc w' rfl []
       exact k.1
    ·exact h.1
   have:=ready_mono hj Rt
   grind
 |succ dk ih=>
  intro listed a H rV ag0 hr h
  refine⟨by grind,fun j hj=>?_⟩
  by_cases Rt:j=i
  ·grind
  ·obtain⟨ag1,oj,WF,jZ⟩:=mem_ready.1 hj
   have ame:=(mem_ready.1 hr).1
   have hjs:listed.getD j false=false:=by
    rcases ao3 j listed.size with h'|h'
    ·grind
    ·grind
   have his:listed.getD i false=false:=by
    rcases ao3 i listed.size with h'|h'
    ·grind
    ·grind
   have NT:i<j:=by
    rcases ao3 i j with h'|h'
    ·exact h'
    ·grind
   have Yv:(nG.getD j 0).testBit i=false:=by
    cases hb:(nG.getD j 0).testBit i with
    |false=>rfl
    |true=>have:=Hy DQ rV j oj WF jZ hb;grind
   obtain⟨Ys,aci⟩:=Lc Yt hi WF NT Yv
   have h2:ke P ops cls i (fun a' H'=>ke P ops cls j (Rs P ops cls K dk ((listed.setIfInBounds i true).setIfInBounds j true)) a' H') a H:=
    Am (fun a' H' hk=>hk.2 j (ready_mono hj Rt)) h
   have h3:=ace hi WF Ys aci (by grind) (by grind) h2
   refine Am (fun a' H' hk=>?_) h3
   refine ih (listed.setIfInBounds j true) a' H' (rV.set hj) (fun k Ub=>getD_set_true (ag0 k Ub)) (ready_mono hr (Ne.symm Rt)) ?_
   rw[Array.setIfInBounds_comm _ _ Rt];exact hk
def Se(P:Program)(ops:Array Oper)(cls:Nat→LN)(K:Act→Hp→Prop):List Nat→Act→Hp→Prop
 | [],a,H=>K a H
 |i::r,a,H=>ke P ops cls i (Se P ops cls K r) a H
theorem Le{nG:Array Nat}(DQ:AR ops nG=true)(Yt:wJ ops nG cls=true)(Ld:Region.noSelect ops=true){K:Act→Hp→Prop}:
  ∀ (m k:Nat) (listed:Array Bool) (a:Act) (H:Hp),k+m=ops.size→listed.size=ops.size→(∀j,listed.getD j false=decide (j<k))→
   Se P ops cls K (List.range' k m) a H→Rs P ops cls K m listed a H:=by
 intro m
 induction m with
 |zero=>
  intro k listed a H hk hs hl h
  refine⟨?_,h⟩
  refine List.eq_nil_iff_forall_not_mem.2 fun j hj=>?_
  obtain⟨h0,o,ho,_⟩:=mem_ready.1 hj
  grind
 |succ m ih=>
  intro k listed a H hk hs hl h
  have bf:k<ops.size:=by omega
  obtain⟨o,ho⟩:∃o,ops[k]? =some o:=⟨ops[k],by grind⟩
  have VB:wu ops listed:=by
   intro x ox hx ZK e he hb
   have nO:x<ops.size:=by grind
   have h1:=(apq.1 DQ) x (by grind)
   simp only[hx,aoW]at h1
   have h2:=(apg.1 h1.1) e he
   simp only[hb,apD,Bool.false_or,apx]at h2
   rw[hl x,apx]at ZK
   rw[hl e.on]
   exact(by grind)
  have Pa:k∈Region.ready .any ops listed:=by
   refine mem_ready.2 ⟨?_,o,ho,fun e he hb=>?_⟩
   ·grind
   ·have h1:=(apq.1 DQ) k (by grind)
    simp only[ho,aoW]at h1
    have h2:=(apg.1 h1.1) e he
    grind
  refine O9 DQ Yt ho (Region.noSelect_spec Ld) m listed a H VB (by grind) Pa ?_
  rw[List.range'_succ]at h
  simp only[Se]at h
  refine Am (fun a' H' Ub=>ih (k+1) _ a' H' (by omega) (by grind) (fun j=>?_) Ub) h
  by_cases hkj:k=j
  ·simp_all
  ·rw[getD_set_ne false hkj,hl j]
   grind
theorem F6{id:Nat}{nG:Array Nat}(hm:P.follows .mixedOrders=true)(DQ:AR ops nG=true)(Yt:wJ ops nG cls=true)
  (Ld:Region.noSelect ops=true){K:Act→Hp→Prop}{Q:Exit→Act→World→Prop}{a:Act}{w:World}
  (hQ:∀a' w',cz w w'→K a' w'.heap→Q .normal a' w')(h:Se P ops cls K (List.range ops.size) a w.heap):(Code.region id ops true).wp P Q a w:=by
 refine wp_region_any hm ?_
 refine Jd (cls:=cls) (K:=K) (w₀:=w) hQ _ _ _ _ ⟨rfl,rfl⟩ ?_
 refine Le DQ Yt Ld ops.size 0 _ _ _ (by omega) (by simp) (fun j=>?_) (by rw[List.range_eq_range']at h;exact h)
 simp only[Nat.not_lt_zero,decide_false]
 by_cases hj:j<ops.size<;>simp[hj]
theorem F2{id:Nat}{K:Act→Hp→Prop}{Q:Exit→Act→World→Prop}{a:Act}{w:World}
  (hQ:∀a' w',cz w w'→K a' w'.heap→Q .normal a' w')(h:LX P ops K (List.range ops.size) a w.heap):(Code.region id ops false).wp P Q a w:=
 wp_region (Jb hQ _ _ _ (cz.refl w) h)
inductive Ot where
 |done
 |step(i:Nat)(t:Ot)
 |aT(i:Nat)(t r:Ot)
 |stop
 deriving Inhabited
def iP(P:Program)(ops:Array Oper)(Inv:Hp→Prop)(st:Nat→Bool)(i:Nat)(K:Act→Hp→Prop)(a:Act)(H:Hp):Prop:=
 match ops[i]? with
 |none=>K a H
 |some o=>
  if Region.wanted o (yielded ops a.tmps)then
   match st i with
   |true=>∃v,(∀H',Inv H'→ef P o a H' fun v' FY=>v'=v∧FY=H')∧K (a.put o.dst v) H
   |false=>ef P o a H fun v H'=>Inv H'∧K (a.put o.dst v) H'
  else K (a.put o.dst undef) H
variable {Inv : Hp → Prop} {st : Nat → Bool}
theorem th{i:Nat}{K K':Act→Hp→Prop}{a:Act}{H:Hp}(hI:Inv H)(hk:∀a H,Inv H→K a H→K' a H)
  (h:iP P ops Inv st i K a H):iP P ops Inv st i K' a H:=by
 unfold iP at*
 split
 ·grind
 ·rename_i o ho
  simp only[ho]at h
  split
  ·rename_i hw
   rw[if_pos hw]at h
   cases hc:st i with
   |true=>grind
   |false=>rw[hc]at h;exact h.mono (by grind)
  grind
theorem Je{i:Nat}{K:Act→Hp→Prop}{a:Act}{w:World}{K':Act→World→Prop}
  {Q:Exit→Act→World→Prop}(hI:Inv w.heap)(hk:∀a w',cz w w'→Inv w'.heap→K a w'.heap→K' a w')(h:iP P ops Inv st i K a w.heap):wpOp P ops Q i K' a w:=by
 unfold iP at h
 unfold wpOp
 split
 ·rename_i ho;rw[ho]at h;exact hk _ _ (cz.refl w) hI h
 ·rename_i o ho
  simp only[ho]at h
  split
  ·rename_i hw
   rw[if_pos hw]at h
   refine .inl ?_
   cases hc:st i with
   |true=>
    rw[hc]at h
    obtain⟨v,h1,h2⟩:=h
    exact(h1 w.heap hI).wp rfl (by grind)
   |false=>rw[hc]at h;exact h.wp rfl (by grind)
  ·rename_i hw;rw[if_neg hw]at h;exact hk _ _ (cz.refl w) hI h
def anyI(P:Program)(ops:Array Oper)(Inv:Hp→Prop)(st:Nat→Bool)(K:Act→Hp→Prop):Nat→Array Bool→Act→Hp→Prop
 |0,listed,a,H=>Region.ready .any ops listed=[]∧K a H
 |dk+1,listed,a,H=>
  (Region.ready .any ops listed=[]→K a H)∧
  ∀i∈Region.ready .any ops listed,iP P ops Inv st i (anyI P ops Inv st K dk (listed.setIfInBounds i true)) a H
theorem Jf{K:Act→Hp→Prop}{Q:Exit→Act→World→Prop}{w₀:World}
  (hQ:∀a w,cz w₀ w→K a w.heap→Q .normal a w):∀ (dk:Nat) (listed:Array Bool) (a:Act) (w:World),cz w₀ w→Inv w.heap→
   anyI P ops Inv st K dk listed a w.heap→wpAny P .any ops Q dk listed a w:=by
 intro dk
 induction dk with
 |zero=>intro listed a w hs _ h;exact⟨h.1,hQ _ _ hs h.2⟩
 |succ dk ih=>
  intro listed a w hs hI h
  exact⟨fun hr=>hQ _ _ hs (h.1 hr),fun i hi=>Je hI (fun a' w' Es UR hk=>ih _ _ _ (hs.trans Es) UR hk) (h.2 i hi)⟩
theorem acj{i j:Nat}{oi oj:Oper}(hi:ops[i]? =some oi)(hj:ops[j]? =some oj)(Ys:oi.apart ops oj=true)(yQ:st i=true)
  (hsi:∀cs b,oi.op≠ .select cs b)(hsj:∀cs b,oj.op≠ .select cs b){K:Act→Hp→Prop}{a:Act}{H:Hp}
  (h:iP P ops Inv st i (fun a' H'=>iP P ops Inv st j K a' H') a H):iP P ops Inv st j (fun a' H'=>iP P ops Inv st i K a' H') a H:=by
 obtain⟨h1,h2,h3⟩:=Oper.apart_spec Ys
 have wi:∀u,Region.wanted oi (yielded ops (a.put oj.dst u).tmps)=Region.wanted oi (yielded ops a.tmps):=fun u=>wanted_put oi a oj.dst u h3
 have wj:∀u,Region.wanted oj (yielded ops (a.put oi.dst u).tmps)=Region.wanted oj (yielded ops a.tmps):=fun u=>wanted_put oj a oi.dst u h1
 have cm:∀v u,(a.put oi.dst v).put oj.dst u=(a.put oj.dst u).put oi.dst v:=fun v u=>Act.put_comm a v u h2
 unfold iP at*
 simp only[hi,hj,yQ]at*
 simp only[wi,wj,cm,Cv (P:=P) hsi h3,Cv (P:=P) hsj h1]at*
 rcases jT (o:=oi) (y:=yielded ops a.tmps)with hwi|hwi<;>rcases jT (o:=oj) (y:=yielded ops a.tmps)with hwj|hwj<;>
  simp only[hwi,hwj,if_true,if_false,ao6]at*
 ·cases hcj:st j<;>simp only[hcj]at h ⊢
  ·obtain⟨v,e1,k⟩:=h;exact k.mono (by grind)
  grind
 ·exact h
 ·omega
 omega
def je(ops:Array Oper)(nG:Array Nat)(st:Nat→Bool)(listed:Array Bool)(i:Nat):Bool:=
 st i && match ops[i]? with
 |none=>false
 |some oi=>(List.range ops.size).all fun j=>j==i || listed.getD j false || (nG.getD j 0).testBit i ||
   match ops[j]? with
   |none=>false
   |some oj=>oi.apart ops oj
def Ua(ops:Array Oper)(nG:Array Nat)(st:Nat→Bool):Ot→Array Bool→List Nat→Bool
 | .done,listed,_=>(Region.ready .any ops listed).isEmpty
 | .step i t,listed,_=>(Region.ready .any ops listed).contains i && je ops nG st listed i && Ua ops nG st t (listed.setIfInBounds i true) []
 | .aT i t r,listed,hd=>(Region.ready .any ops listed).contains i && Ua ops nG st t (listed.setIfInBounds i true) [] && Ua ops nG st r listed (i::hd)
 | .stop,listed,hd=> !(Region.ready .any ops listed).isEmpty && (Region.ready .any ops listed).all (hd.contains ·)
def Qx(P:Program)(ops:Array Oper)(Inv:Hp→Prop)(st:Nat→Bool)(K:Act→Hp→Prop):Ot→Act→Hp→Prop
 | .done,a,H=>K a H
 | .step i t,a,H=>iP P ops Inv st i (Qx P ops Inv st K t) a H
 | .aT i t r,a,H=>iP P ops Inv st i (Qx P ops Inv st K t) a H∧Qx P ops Inv st K r a H
 | .stop,_,_=>True
theorem Ru{listed:Array Bool}{i j:Nat}(h:listed.getD j false=true):(listed.setIfInBounds i true).getD j false=true:=getD_set_true h
theorem Hz{nG:Array Nat}{listed:Array Bool}{i j:Nat}(h:je ops nG st listed i=true):je ops nG st (listed.setIfInBounds j true) i=true:=by
 grind [je,Ru]
theorem jU{listed:Array Bool}{i:Nat}(h:i∈Region.ready .any ops listed):listed.getD i false=false:=by
 obtain⟨hun,_⟩:=mem_ready.1 h
 grind
theorem Rv{nG:Array Nat}(DQ:AR ops nG=true){K:Act→Hp→Prop}{i:Nat}{oi:Oper}(hi:ops[i]? =some oi)
  (Ld:∀ (j:Nat) (o:Oper) cs b,ops[j]? =some o→o.op≠ .select cs b):
  ∀ (dk:Nat) (listed:Array Bool) (a:Act) (H:Hp),Inv H→wu ops listed→je ops nG st listed i=true→
   i∈Region.ready .any ops listed→
   iP P ops Inv st i (anyI P ops Inv st K dk (listed.setIfInBounds i true)) a H→anyI P ops Inv st K (dk+1) listed a H:=by
 intro dk
 induction dk with
 |zero=>
  intro listed a H hI _ Cw hr h
  refine⟨by grind,fun j hj=>?_⟩
  by_cases Rt:j=i
  ·grind
  ·exfalso
   have yQ:st i=true:=by unfold je at Cw;rw[aoW]at Cw;exact Cw.1
   have Pa:Region.ready .any ops (listed.setIfInBounds i true)=[]:=by
    unfold iP at h
    simp only[hi,yQ]at h
    split at h
    ·obtain⟨v,_,k⟩:=h;exact k.1
    ·exact h.1
   have:=ready_mono hj Rt
   grind
 |succ dk ih=>
  intro listed a H hI rV Cw hr h
  refine⟨fun h0=>(by rw[h0]at hr;cases hr),fun j hj=>?_⟩
  by_cases Rt:j=i
  ·subst Rt;exact h
  ·obtain⟨ag1,oj,WF,jZ⟩:=mem_ready.1 hj
   have hjs:=jU hj
   have his:=jU hr
   have yQ:st i=true:=by have hf:=Cw;unfold je at hf;rw[aoW]at hf;exact hf.1
   have Yv:(nG.getD j 0).testBit i=false:=by
    cases hb:(nG.getD j 0).testBit i with
    |false=>rfl
    |true=>have:=Hy DQ rV j oj WF jZ hb;rw[his]at this;cases this
   have Ys:oi.apart ops oj=true:=by
    have hf:=Cw
    unfold je at hf
    rw[aoW]at hf
    have hf:=hf.2
    rw[hi]at hf
    simp only at hf
    have bf:j<ops.size:=(Array.getElem?_eq_some_iff.1 WF).1
    have:=(apq.1 hf) j (List.mem_range.2 bf)
    have bN:(j==i)=false:=by simpa using Rt
    simp only[WF,Yv,hjs,bN,Bool.false_or]at this
    exact this
   have h2:iP P ops Inv st i (fun a' H'=>iP P ops Inv st j (anyI P ops Inv st K dk ((listed.setIfInBounds i true).setIfInBounds j true)) a' H') a H:=
    th hI (fun a' H' _ hk=>hk.2 j (ready_mono hj Rt)) h
   have h3:=acj hi WF Ys yQ (by grind) (by grind) h2
   refine th hI (fun a' H' UR hk=>?_) h3
   refine ih (listed.setIfInBounds j true) a' H' UR (rV.set hj) (Hz Cw) (ready_mono hr (Ne.symm Rt)) ?_
   rw[Array.setIfInBounds_comm _ _ Rt];exact hk
theorem count_set:∀ (l:List Bool) (i:Nat),l[i]? =some false→(l.set i true).count false+1=l.count false:=by
 grind
theorem Cx{listed:Array Bool}{i dk:Nat}(hs:listed.size=ops.size)(hc:listed.toList.count false=dk)(h:i∈Region.ready .any ops listed):
  ∃f,dk=f+1∧(listed.setIfInBounds i true).toList.count false=f∧(listed.setIfInBounds i true).size=ops.size:=by
 have h1:=jU h
 obtain⟨_,o,ho,_⟩:=mem_ready.1 h
 have bf:i<listed.size:=by rw[hs];exact(by grind)
 have h2:listed.toList[i]? =some false:=by
  simp only[Array.getElem?_toList]
  simp[bf]at h1 ⊢
  exact h1
 grind
theorem Lf{nG:Array Nat}(DQ:AR ops nG=true)(Ld:Region.noSelect ops=true){K:Act→Hp→Prop}:
  ∀ (t:Ot) (listed:Array Bool) (hd:List Nat) (dk:Nat) (a:Act) (H:Hp),Ua ops nG st t listed hd=true→Inv H→wu ops listed→listed.size=ops.size→listed.toList.count false=dk→
   (∀i∈hd,i∈Region.ready .any ops listed→∃f,dk=f+1∧iP P ops Inv st i (anyI P ops Inv st K f (listed.setIfInBounds i true)) a H)→Qx P ops Inv st K t a H→anyI P ops Inv st K dk listed a H:=by
 intro t
 induction t with
 |done=>
  intro listed hd dk a H pR _ _ _ _ _ h
  simp only[Ua,List.isEmpty_iff]at pR
  cases dk with
  |zero=>exact⟨pR,h⟩
  |succ dk=>exact⟨fun _=>h,by grind⟩
 |step i t ih=>
  intro listed hd dk a H pR hI rV hs hc _ h
  simp only[Ua,aoW,List.contains_iff_mem]at pR
  obtain⟨⟨hr,Cw⟩,pR⟩:=pR
  obtain⟨f,rfl,Ni,Es⟩:=Cx hs hc hr
  obtain⟨_,o,ho,_⟩:=mem_ready.1 hr
  refine Rv DQ ho (Region.noSelect_spec Ld) f listed a H hI rV Cw hr ?_
  refine th hI (fun a' H' UR hk=>?_) h
  exact ih _ [] f a' H' pR UR (rV.set hr) Es Ni (by grind) hk
 |aT i t r iht ihr=>
  intro listed hd dk a H pR hI rV hs hc hhd h
  simp only[Ua,aoW,List.contains_iff_mem]at pR
  obtain⟨⟨hr,ag2⟩,ag3⟩:=pR
  obtain⟨f,rfl,Ni,Es⟩:=Cx hs hc hr
  refine ihr listed (i::hd) (f+1) a H ag3 hI rV hs hc ?_ h.2
  intro j hj hjr
  rcases aoR.1 hj with rfl|hj
  ·refine⟨f,rfl,th hI (fun a' H' UR hk=>?_) h.1⟩
   exact iht _ [] f a' H' ag2 UR (rV.set hr) Es Ni (by grind) hk
  grind
 |stop=>
  intro listed hd dk a H pR hI rV hs hc hhd _
  simp only[Ua,aoW,apq,List.contains_iff_mem]at pR
  obtain⟨bN,jZ⟩:=pR
  by_cases hre:Region.ready .any ops listed=[]
  ·grind
  ·obtain⟨i,hi⟩:=List.exists_mem_of_ne_nil _ hre
   obtain⟨f,rfl,_⟩:=hhd i (jZ i hi) hi
   refine⟨by grind,fun j hj=>?_⟩
   grind
theorem F0{id:Nat}{nG:Array Nat}{t:Ot}(hm:P.follows .mixedOrders=true)(DQ:AR ops nG=true)(pR:Ua ops nG st t (Array.replicate ops.size false) []=true)
  (Ld:Region.noSelect ops=true){K:Act→Hp→Prop}{Q:Exit→Act→World→Prop}{a:Act}{w:World}(hI:Inv w.heap)
  (hQ:∀a' w',cz w w'→K a' w'.heap→Q .normal a' w')(h:Qx P ops Inv st K t a w.heap):(Code.region id ops true).wp P Q a w:=by
 refine wp_region_any hm ?_
 refine Jf (Inv:=Inv) (st:=st) (K:=K) (w₀:=w) hQ _ _ _ _ ⟨rfl,rfl⟩ hI ?_
 refine Lf DQ Ld t _ [] _ _ _ pR hI ?_ (by simp) (by simp) (by grind) h
 intro k ok _ hl
 exfalso
 by_cases hk:k<ops.size<;>simp_all
end
end Go.Vc
