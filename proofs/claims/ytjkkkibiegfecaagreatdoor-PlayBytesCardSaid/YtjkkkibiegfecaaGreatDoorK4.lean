/- Texts put behind each other. -/
import Derived.Test.YtjkkkibiegfecaaGreatDoorK98
import Derived.Orders
import Derived.Laws.Sem
import Derived.Laws.World
import Derived.KernelRfl
set_option maxRecDepth 100000
set_option maxHeartbeats 8000000
namespace Go.Vc
section
variable{i j id:Nat}{lm:Array Nat}{a:Act}{listed:Array Bool}{o x z:Oper}{w w₀:World}
structure Tag{α:Sort _}(F:α):Type where
abbrev Hp:=Array Obj
structure cv(w w':World):Prop where
 os:w'.os=w.os
 output:w'.output=w.output
theorem cv.refl(w:World):cv w w:=⟨rfl,rfl⟩
theorem cv.trans{a b c:World}(h:cv a b)(k:cv b c):cv a c:=⟨k.os.trans h.os,k.output.trans h.output⟩
def ee(P:Program)(f:FuncId)(args:List Value)(H:Hp)(K:Value->Hp->Prop)(_t:Tag K:=⟨⟩):Prop:=
 ∀w,w.heap=H->Calls P f args.toArray w fun e w'=>∃v,e= .returned v/\cv w w'/\K v w'.heap
theorem ee.mono{P:Program}{f:FuncId}{args:List Value}{H:Hp}{K K':Value->Hp->Prop}(h:ee P f args H K)(z:∀v J,K v J->K' v J):
  ee P f args H K':=
 fun w x=>(h w x).mono Z
def ej(P:Program)(o:Oper)(a:Act)(H:Hp)(K:Value->Hp->Prop):Prop:=
 ∀w,w.heap=H->
  (∃v w',(execOp a.eval o).run P w= .ok (.value v) w'/\cv w w'/\K v w'.heap)\/
  (∃w',(execOp a.eval o).run P w= .ok .skip w'/\cv w w'/\K undef w'.heap)\/
  (∃f args w',(execOp a.eval o).run P w= .ok (.enter f args) w'/\cv w w'/\ee P f args.toList w'.heap K)
theorem ej.mono{P:Program}{H:Hp}{K K':Value->Hp->Prop}(h:ej P o a H K)(n:∀v J,K v J->K' v J):ej P o a H K':=by
 intro w m;rcases h w m with ⟨v,w',x,z,l⟩| ⟨w',x,z,l⟩| ⟨f,args,w',x,z,l⟩
 ·exact .inl Z
 ·exact .inr (.inl Z)
 ·exact .inr (.inr ⟨f,args,w',x,z,l.mono n⟩)
theorem ej.wp{P:Program}{H:Hp}{K:Value->Hp->Prop}{next:Act->World->Prop}{Q:Exit->Act->World->Prop}
  (h:ej P o a H K)(t:w.heap=H)(n:∀v w',cv w w'->K v w'.heap->next (a.put o.dst v) w'):o.wp P a w next Q:=by
 unfold Oper.wp;rcases h w t with ⟨v,w',x,z,l⟩| ⟨w',x,z,l⟩| ⟨f,args,w',x,z,l⟩
 ·rw[x];exact n _ _ z l
 ·rw[x];exact n _ _ z l
 ·rw[x];have m:=l w' rfl;simp only[akQ]at m;show Calls P f args w' _;refine m.mono fun e r c=>?_;obtain⟨v,rfl,y,g⟩:=c;exact n _ _ (z.trans y) g
def Io(P:Program)(ops:Array Oper)(K:Act->Hp->Prop):List Nat->Act->Hp->Prop
 | [],a,H=>K a H
 |i::r,a,H=>
  match ops[i]? with
  |none=>Io P ops K r a H
  |some o=>if Region.wanted o (yielded ops a.tmps)then ej P o a H (fun v J=>Io P ops K r (a.put o.dst v) J)else Io P ops K r (a.put o.dst undef) H
theorem Fz{P:Program}{ops:Array Oper}{K:Act->Hp->Prop}{Q:Exit->Act->World->Prop}
  (z:∀a w,cv w₀ w->K a w.heap->Q .normal a w):∀ (l:List Nat) (a:Act) (w:World),cv w₀ w->Io P ops K l a w.heap->wpOps P ops Q l a w:=by
 intro l;induction l with
 |nil=>intro a w x h;exact z a w x h
 |cons i r g=>
  intro a w x h;simp only[wpOps,Io]at*;cases m:ops[i]? with
  |none=>grind
  |some o=>
   rw[m]at h;simp only at h ⊢;split
   ·rename_i e;rw[if_pos e]at h;exact .inl (h.wp rfl fun v w' c n=>g _ _ (x.trans c) n)
   grind
inductive Ie where
 |pure|quiet|ED
 deriving DecidableEq,Inhabited
def je(P:Program)(ops:Array Oper)(cls:Nat->Ie)(i:Nat)(K:Act->Hp->Prop)(a:Act)(H:Hp):Prop:=
 match ops[i]? with
 |none=>K a H
 |some o=>
  if Region.wanted o (yielded ops a.tmps)then
   match cls i with
   | .pure=>∃v,(∀w,(execOp a.eval o).run P w= .ok (.value v) w)/\K (a.put o.dst v) H
   | .quiet=>∃v,ej P o a H (fun x J=>x=v/\J=H)/\K (a.put o.dst v) H
   | .ED=>ej P o a H fun v J=>K (a.put o.dst v) J
  else K (a.put o.dst undef) H
theorem w7{P:Program}{ops:Array Oper}{cls:Nat->Ie}{K K':Act->Hp->Prop}{H:Hp}(z:∀a H,K a H->K' a H)
  (h:je P ops cls i K a H):je P ops cls i K' a H:=by
 unfold je at*;split
 ·grind
 ·rename_i o w;simp only[w]at h;split
  ·rename_i l;rw[if_pos l]at h;cases x:cls i with
   |pure=>grind
   |quiet=>grind
   |ED=>rw[x]at h;exact h.mono fun v J=>z _ _
  grind
theorem xy{P:Program}{v:Value}(h:∀w,(execOp a.eval o).run P w= .ok (.value v) w)(H:Hp):
  ej P o a H fun z J=>z=v/\J=H:=fun w x=>.inl ⟨v,w,h w,cv.refl w,rfl,x⟩
theorem FA{P:Program}{ops:Array Oper}{cls:Nat->Ie}{K:Act->Hp->Prop}{K':Act->World->Prop}
  {Q:Exit->Act->World->Prop}(m:∀a w',cv w w'->K a w'.heap->K' a w')(h:je P ops cls i K a w.heap):wpOp P ops Q i K' a w:=by
 unfold je at h;unfold wpOp;split
 ·rename_i l;rw[l]at h;exact m _ _ (cv.refl w) h
 ·rename_i o l;simp only[l]at h;split
  ·rename_i n;rw[if_pos n]at h;refine .inl ?_;cases z:cls i with
   |pure=>
    rw[z]at h;obtain⟨v,x,c⟩:=h;exact(xy x w.heap).wp rfl Z
   |quiet=>
    rw[z]at h;obtain⟨v,x,c⟩:=h;exact x.wp rfl Z
   |ED=>rw[z]at h;exact h.wp rfl Z
  ·rename_i n;rw[if_neg n]at h;exact m _ _ (cv.refl w) h
def Na(P:Program)(ops:Array Oper)(cls:Nat->Ie)(K:Act->Hp->Prop):Nat->Array Bool->Act->Hp->Prop
 |0,listed,a,H=>Region.ready .any ops listed=[]/\K a H
 |TR+1,listed,a,H=>
  (Region.ready .any ops listed=[]->K a H)/\
  ∀i∈Region.ready .any ops listed,je P ops cls i (Na P ops cls K TR (listed.setIfInBounds i true)) a H
theorem FC{P:Program}{ops:Array Oper}{cls:Nat->Ie}{K:Act->Hp->Prop}{Q:Exit->Act->World->Prop}
  (l:∀a w,cv w₀ w->K a w.heap->Q .normal a w):∀ (x:Nat) (listed:Array Bool) (a:Act) (w:World),cv w₀ w->
   Na P ops cls K x listed a w.heap->wpAny P .any ops Q x listed a w:=by
 intro x;induction x with
 |zero=>intro listed a w z h;exact⟨h.1,l _ _ z h.2⟩
 |succ x v=>
  intro listed a w z h;exact⟨fun m=>l _ _ z (h.1 m),fun i hi=>FA (fun e w' c n=>v _ _ _ (z.trans c) n) (h.2 i hi)⟩
def Ie.LX:Ie->Ie->Bool
 | .pure,_=>true
 |_,.pure=>true
 | .quiet,.quiet=>true
 |_,_=>false
section
variable {P : Program} {ops : Array Oper} {cls : Nat → Ie}
theorem yR(H:Hp):∃w:World,w.heap=H:=⟨{ (default:World)with heap:=H},rfl⟩
theorem iX{y:Nat->Option Bool}:Region.wanted o y=true\/Region.wanted o y=false:=Z
theorem yS{dst:Option Tmp}{u:Value}(x:∀cs b,o.op≠ .select cs b)(h:∀d,dst=some d->d∉o.looksAt ops){H:Hp}{K:Value->Hp->Prop}:
  ej P o (a.put dst u) H K↔ej P o a H K:=by
 unfold ej;rw[execOp_put (ops:=ops) o x a dst u h]
theorem XC{oi oj:Oper}(hi:ops[i]? =some oi)(T:ops[j]? =some oj)(B:oi.apart ops oj=true)(F:(cls i).LX (cls j)=true)
  (n:∀cs b,oi.op≠ .select cs b)(m:∀cs b,oj.op≠ .select cs b){K:Act->Hp->Prop}{a:Act}{H:Hp}
  (h:je P ops cls i (fun x J=>je P ops cls j K x J) a H):je P ops cls j (fun x J=>je P ops cls i K x J) a H:=by
 obtain⟨z,q,l⟩:=Oper.apart_spec B;have Q:∀u,Region.wanted oi (yielded ops (a.put oj.dst u).tmps)=Region.wanted oi (yielded ops a.tmps):=fun u=>wanted_put oi a oj.dst u l;have U:∀u,Region.wanted oj (yielded ops (a.put oi.dst u).tmps)=Region.wanted oj (yielded ops a.tmps):=fun u=>wanted_put oj a oi.dst u z;have r:∀u,execOp (a.put oj.dst u).eval oi=execOp a.eval oi:=fun u=>execOp_put oi n a oj.dst u l;have d:∀u,execOp (a.put oi.dst u).eval oj=execOp a.eval oj:=fun u=>execOp_put oj m a oi.dst u z;have t:∀v u,(a.put oi.dst v).put oj.dst u=(a.put oj.dst u).put oi.dst v:=fun v u=>Act.put_comm a v u q;unfold je at*;simp only[hi,T]at*;simp only[Q,U,r,d,t,yS (P:=P) n l,yS (P:=P) m z]at*;rcases iX (o:=oi) (y:=yielded ops a.tmps)with c|c<;>rcases iX (o:=oj) (y:=yielded ops a.tmps)with g|g<;>
  simp only[c,g,if_true,if_false,akC]at*
 ·cases A:cls i<;>cases C:cls j<;>simp only[A,C,Ie.LX,akC]at h F ⊢
  ·grind
  ·grind
  ·obtain⟨v,W,k⟩:=h;simp_all
  ·grind
  ·grind
  ·obtain⟨w,N⟩:=yR H;have pick:∃u,∀w,(execOp a.eval oj).run P w= .ok (.value u) w:=by
    rcases h w N with ⟨v,w',_,_,u,e,_⟩| ⟨w',_,_,u,e,_⟩| ⟨f,args,w',_,_,L⟩
    ·simp_all
    ·simp_all
    ·obtain⟨e,V,I,⟨v,_,_,u,p,_⟩,_⟩:=L w' rfl [];simp_all
   obtain⟨u,p⟩:=pick;simp_all
 ·omega
 ·omega
 omega
def th(ops:Array Oper)(listed:Array Bool):Prop:=
 ∀k ok,ops[k]? =some ok->listed.getD k false=true->∀e∈ok.after,Region.binds .any e=true->listed.getD e.on false=true
theorem th.set(h:th ops listed)(hi:i∈Region.ready .any ops listed):th ops (listed.setIfInBounds i true):=by
 intro k ok a n e w z;by_cases l:i=k
 ·subst l;obtain⟨_,o,x,m⟩:=mem_ready.1 hi;rw[a]at x;injection x with x;subst x;exact getD_set_true (m e w z)
 ·rw[getD_set_ne false l]at n;exact getD_set_true (h k ok a n e w z)
def up(lm:Array Nat)(o:Oper):Nat:=o.after.toList.foldl (fun s e=>if Region.binds .any e then s ||| (2^e.on |||lm.getD e.on 0)else s) 0
theorem Lb:∀ (l:List Edge) (s:Nat),
  (l.foldl (fun s e=>if Region.binds .any e then s ||| (2^e.on |||lm.getD e.on 0)else s) s).testBit i=true->
   s.testBit i=true\/∃e∈l,Region.binds .any e=true/\(e.on=i\/(lm.getD e.on 0).testBit i=true):=by
 intro l;induction l with
 |nil=>grind
 |cons e l x=>
  grind
def xz(ops:Array Oper)(lm:Array Nat):Bool:=
 (List.range ops.size).all fun j=>
  match ops[j]? with
  |none=>false
  |some x=>x.after.all (fun e=> !Region.binds .any e || decide (e.on<j)) && (lm.getD j 0 |||up lm x==up lm x)
theorem D3(h:xz ops lm=true)(c:th ops listed):∀ (j:Nat) (oj:Oper),ops[j]? =some oj->
  (∀e∈oj.after,Region.binds .any e=true->listed.getD e.on false=true)->(lm.getD j 0).testBit i=true->listed.getD i false=true:=by
 intro j;induction j using Nat.strongRecOn with
 |_ j p=>
  intro oj g m o;have f:j<ops.size:=Z;have z:=(akV.1 h) j Z;simp only[g,aki,beq_iff_eq]at z;obtain⟨t,u⟩:=z;have d:(up lm oj).testBit i=true:=Z;rcases Lb _ _ d with q| ⟨e,v,w,x⟩
  ·grind
  ·have l:e∈oj.after:=by simpa using v
   have y:=m e l w;rcases x with x|x
   ·grind
   ·have r:e.on<j:=by
     have:=(akK.1 t) e l;simpa[w]using this
    cases a:ops[e.on]? with
    |none=>
     grind
    |some n=>exact p e.on r n a (c e.on n a y) x
def tC(ops:Array Oper)(lm:Array Nat)(cls:Nat->Ie):Bool:=
 (List.range ops.size).all fun j=>
  match ops[j]? with
  |none=>false
  |some h=>(List.range j).all fun i=>(lm.getD j 0).testBit i ||
    match ops[i]? with
    |none=>false
    |some x=>x.apart ops h && (cls i).LX (cls j)
theorem HF(h:tC ops lm cls=true)(hi:ops[i]? =some x)(l:ops[j]? =some z)(w:i<j)
  (a:(lm.getD j 0).testBit i=false):x.apart ops z=true/\(cls i).LX (cls j)=true:=by
 grind [tC]
theorem Lc(u:xz ops lm=true)(N:tC ops lm cls=true){K:Act->Hp->Prop}{I:Oper}(hi:ops[i]? =some I)
  (ag8:∀ (j:Nat) (o:Oper) cs b,ops[j]? =some o->o.op≠ .select cs b):
  ∀ (x:Nat) (listed:Array Bool) (a:Act) (H:Hp),th ops listed->(∀j,j<i->listed.getD j false=true)->
   i∈Region.ready .any ops listed->
   je P ops cls i (Na P ops cls K x (listed.setIfInBounds i true)) a H->Na P ops cls K (x+1) listed a H:=by
 intro x;induction x with
 |zero=>
  intro listed a H _ _ t h;refine⟨Z,fun j l=>?_⟩;by_cases n:j=i
  ·grind
  ·exfalso;have abU:Region.ready .any ops (listed.setIfInBounds i true)=[]:=by
    unfold je at h;simp only[hi]at h;split at h
    ·cases c:cls i<;>simp only[c]at h
     ·obtain⟨v,_,k⟩:=h;exact k.1
     ·obtain⟨v,_,k⟩:=h;exact k.1
     ·obtain⟨w,U⟩:=yR H;rcases h w U with ⟨v,w',_,_,k⟩| ⟨w',_,_,k⟩| ⟨f,args,w',_,_,c⟩
      ·exact k.1
      ·exact k.1
      ·obtain⟨e,w'',G,⟨v,_,_,k⟩,_⟩:=c w' rfl [];exact k.1
    ·exact h.1
   have:=ready_mono l n;grind
 |succ x W=>
  intro listed a H r T t h;refine⟨Z,fun j l=>?_⟩;by_cases n:j=i
  ·grind
  ·obtain⟨X,V,y,q⟩:=mem_ready.1 l;have M:=(mem_ready.1 t).1;have E:listed.getD j false=false:=by
    rcases aky j listed.size with z|z
    ·grind
    ·grind
   have D:listed.getD i false=false:=by
    rcases aky i listed.size with z|z
    ·grind
    ·grind
   have A:i<j:=by
    rcases aky i j with z|z
    ·exact z
    ·grind
   have F:(lm.getD j 0).testBit i=false:=by
    cases L:(lm.getD j 0).testBit i with
    |false=>rfl
    |true=>have:=D3 u r j V y q L;grind
   obtain⟨B,Q⟩:=HF N hi y A F;have d:je P ops cls i (fun m J=>je P ops cls j (Na P ops cls K x ((listed.setIfInBounds i true).setIfInBounds j true)) m J) a H:=
    w7 (fun m J g=>g.2 j (ready_mono l n)) h
   have p:=XC hi y B Q Z Z d;refine w7 (fun m J g=>?_) p;refine W (listed.setIfInBounds j true) m J (r.set l) (fun k C=>getD_set_true (T k C)) (ready_mono t (Ne.symm n)) ?_;rw[Array.setIfInBounds_comm _ _ n];exact g
def NS(P:Program)(ops:Array Oper)(cls:Nat->Ie)(K:Act->Hp->Prop):List Nat->Act->Hp->Prop
 | [],a,H=>K a H
 |i::r,a,H=>je P ops cls i (NS P ops cls K r) a H
theorem HG(n:xz ops lm=true)(A:tC ops lm cls=true)(L:Region.noSelect ops=true){K:Act->Hp->Prop}:
  ∀ (m k:Nat) (listed:Array Bool) (a:Act) (H:Hp),k+m=ops.size->listed.size=ops.size->(∀j,listed.getD j false=decide (j<k))->
   NS P ops cls K (List.range' k m) a H->Na P ops cls K m listed a H:=by
 intro m;induction m with
 |zero=>
  intro k listed a H d B w h;refine⟨?_,h⟩;refine List.eq_nil_iff_forall_not_mem.2 fun j r=>?_;obtain⟨F,o,l,_⟩:=mem_ready.1 r;grind
 |succ m T=>
  intro k listed a H d B w h;have N:k<ops.size:=O;obtain⟨o,l⟩:∃o,ops[k]? =some o:=⟨ops[k],Z⟩;have t:th ops listed:=by
   intro x U C f e c g;have Q:x<ops.size:=Z;have z:=(akV.1 n) x Z;simp only[C,aki]at z;have v:=(akK.1 z.1) e c;simp only[g,akw,Bool.false_or,ak1]at v;rw[w x,ak1]at f;rw[w e.on];exact Z
  have u:k∈Region.ready .any ops listed:=by
   refine mem_ready.2 ⟨?_,o,l,fun e c g=>?_⟩
   ·grind
   ·have z:=(akV.1 n) k Z;simp only[l,aki]at z;have v:=(akK.1 z.1) e c;grind
  refine Lc n A l (Region.noSelect_spec L) m listed a H t Z u ?_;rw[List.range'_succ]at h;simp only[NS]at h;refine w7 (fun y J p=>T (k+1) _ y J O Z (fun j=>?_) p) h;by_cases q:k=j
  ·simp_all
  ·rw[getD_set_ne false q,w j];grind
theorem CD(hm:P.follows .mixedOrders=true)(l:xz ops lm=true)(c:tC ops lm cls=true)
  (m:Region.noSelect ops=true){K:Act->Hp->Prop}{Q:Exit->Act->World->Prop}{a:Act}{w:World}
  (z:∀x w',cv w w'->K x w'.heap->Q .normal x w')(h:NS P ops cls K (List.range ops.size) a w.heap):(Code.region id ops true).wp P Q a w:=by
 refine wp_region_any hm ?_;refine FC (cls:=cls) (K:=K) (w₀:=w) z _ _ _ _ ⟨rfl,rfl⟩ ?_;refine HG l c m ops.size 0 _ _ _ O (by simp) (fun j=>?_) (by rw[List.range_eq_range']at h;exact h);simp only[Nat.not_lt_zero,decide_false];by_cases n:j<ops.size<;>simp[n]
theorem CC{K:Act->Hp->Prop}{Q:Exit->Act->World->Prop}
  (z:∀x w',cv w w'->K x w'.heap->Q .normal x w')(h:Io P ops K (List.range ops.size) a w.heap):(Code.region id ops false).wp P Q a w:=
 wp_region (Fz z _ _ _ (cv.refl w) h)
inductive Ot where
 |done
 |step(i:Nat)(t:Ot)
 |aM(i:Nat)(t r:Ot)
 |stop
 deriving Inhabited
def hY(P:Program)(ops:Array Oper)(Inv:Hp->Prop)(st:Nat->Bool)(i:Nat)(K:Act->Hp->Prop)(a:Act)(H:Hp):Prop:=
 match ops[i]? with
 |none=>K a H
 |some o=>
  if Region.wanted o (yielded ops a.tmps)then
   match st i with
   |true=>∃v,(∀J,Inv J->ej P o a J fun h x=>h=v/\x=J)/\K (a.put o.dst v) H
   |false=>ej P o a H fun v J=>Inv J/\K (a.put o.dst v) J
  else K (a.put o.dst undef) H
variable {Inv : Hp → Prop} {st : Nat → Bool}
theorem qd{K K':Act->Hp->Prop}{H:Hp}(l:Inv H)(n:∀a H,Inv H->K a H->K' a H)
  (h:hY P ops Inv st i K a H):hY P ops Inv st i K' a H:=by
 unfold hY at*;split
 ·grind
 ·rename_i o z;simp only[z]at h;split
  ·rename_i w;rw[if_pos w]at h;cases x:st i with
   |true=>grind
   |false=>rw[x]at h;exact h.mono Z
  grind
theorem FD{K:Act->Hp->Prop}{K':Act->World->Prop}
  {Q:Exit->Act->World->Prop}(x:Inv w.heap)(m:∀a w',cv w w'->Inv w'.heap->K a w'.heap->K' a w')(h:hY P ops Inv st i K a w.heap):wpOp P ops Q i K' a w:=by
 unfold hY at h;unfold wpOp;split
 ·rename_i z;rw[z]at h;exact m _ _ (cv.refl w) x h
 ·rename_i o z;simp only[z]at h;split
  ·rename_i l;rw[if_pos l]at h;refine .inl ?_;cases n:st i with
   |true=>
    rw[n]at h;obtain⟨v,c,e⟩:=h;exact(c w.heap x).wp rfl Z
   |false=>rw[n]at h;exact h.wp rfl Z
  ·rename_i l;rw[if_neg l]at h;exact m _ _ (cv.refl w) x h
def anyI(P:Program)(ops:Array Oper)(Inv:Hp->Prop)(st:Nat->Bool)(K:Act->Hp->Prop):Nat->Array Bool->Act->Hp->Prop
 |0,listed,a,H=>Region.ready .any ops listed=[]/\K a H
 |TR+1,listed,a,H=>
  (Region.ready .any ops listed=[]->K a H)/\
  ∀i∈Region.ready .any ops listed,hY P ops Inv st i (anyI P ops Inv st K TR (listed.setIfInBounds i true)) a H
theorem FE{K:Act->Hp->Prop}{Q:Exit->Act->World->Prop}
  (l:∀a w,cv w₀ w->K a w.heap->Q .normal a w):∀ (x:Nat) (listed:Array Bool) (a:Act) (w:World),cv w₀ w->Inv w.heap->
   anyI P ops Inv st K x listed a w.heap->wpAny P .any ops Q x listed a w:=by
 intro x;induction x with
 |zero=>intro listed a w z _ h;exact⟨h.1,l _ _ z h.2⟩
 |succ x g=>
  intro listed a w z n h;exact⟨fun v=>l _ _ z (h.1 v),fun i hi=>FD n (fun y w' e m c=>g _ _ _ (z.trans e) m c) (h.2 i hi)⟩
theorem XD(hi:ops[i]? =some x)(d:ops[j]? =some z)(t:x.apart ops z=true)(f:st i=true)
  (p:∀cs b,x.op≠ .select cs b)(q:∀cs b,z.op≠ .select cs b){K:Act->Hp->Prop}{a:Act}{H:Hp}
  (h:hY P ops Inv st i (fun w J=>hY P ops Inv st j K w J) a H):hY P ops Inv st j (fun w J=>hY P ops Inv st i K w J) a H:=by
 obtain⟨l,g,n⟩:=Oper.apart_spec t;have B:∀u,Region.wanted x (yielded ops (a.put z.dst u).tmps)=Region.wanted x (yielded ops a.tmps):=fun u=>wanted_put x a z.dst u n;have L:∀u,Region.wanted z (yielded ops (a.put x.dst u).tmps)=Region.wanted z (yielded ops a.tmps):=fun u=>wanted_put z a x.dst u l;have e:∀v u,(a.put x.dst v).put z.dst u=(a.put z.dst u).put x.dst v:=fun v u=>Act.put_comm a v u g;unfold hY at*;simp only[hi,d,f]at*;simp only[B,L,e,yS (P:=P) p n,yS (P:=P) q l]at*;rcases iX (o:=x) (y:=yielded ops a.tmps)with m|m<;>rcases iX (o:=z) (y:=yielded ops a.tmps)with c|c<;>
  simp only[m,c,if_true,if_false,akC]at*
 ·cases r:st j<;>simp only[r]at h ⊢
  ·obtain⟨v,A,k⟩:=h;exact k.mono Z
  grind
 ·exact h
 ·omega
 omega
def iq(ops:Array Oper)(lm:Array Nat)(st:Nat->Bool)(listed:Array Bool)(i:Nat):Bool:=
 st i && match ops[i]? with
 |none=>false
 |some x=>(List.range ops.size).all fun j=>j==i || listed.getD j false || (lm.getD j 0).testBit i ||
   match ops[j]? with
   |none=>false
   |some h=>x.apart ops h
def PP(ops:Array Oper)(lm:Array Nat)(st:Nat->Bool):Ot->Array Bool->List Nat->Bool
 | .done,listed,_=>(Region.ready .any ops listed).isEmpty
 | .step i t,listed,_=>(Region.ready .any ops listed).contains i && iq ops lm st listed i && PP ops lm st t (listed.setIfInBounds i true) []
 | .aM i t r,listed,x=>(Region.ready .any ops listed).contains i && PP ops lm st t (listed.setIfInBounds i true) [] && PP ops lm st r listed (i::x)
 | .stop,listed,x=> !(Region.ready .any ops listed).isEmpty && (Region.ready .any ops listed).all (x.contains ·)
def Mo(P:Program)(ops:Array Oper)(Inv:Hp->Prop)(st:Nat->Bool)(K:Act->Hp->Prop):Ot->Act->Hp->Prop
 | .done,a,H=>K a H
 | .step i t,a,H=>hY P ops Inv st i (Mo P ops Inv st K t) a H
 | .aM i t r,a,H=>hY P ops Inv st i (Mo P ops Inv st K t) a H/\Mo P ops Inv st K r a H
 | .stop,_,_=>True
theorem Nb(h:listed.getD j false=true):(listed.setIfInBounds i true).getD j false=true:=getD_set_true h
theorem D4(h:iq ops lm st listed i=true):iq ops lm st (listed.setIfInBounds j true) i=true:=by
 grind [iq,Nb]
theorem iY(h:i∈Region.ready .any ops listed):listed.getD i false=false:=by
 obtain⟨x,_⟩:=mem_ready.1 h;grind
theorem Nc(A:xz ops lm=true){K:Act->Hp->Prop}{d:Oper}(hi:ops[i]? =some d)
  (D:∀ (j:Nat) (o:Oper) cs b,ops[j]? =some o->o.op≠ .select cs b):
  ∀ (l:Nat) (listed:Array Bool) (a:Act) (H:Hp),Inv H->th ops listed->iq ops lm st listed i=true->
   i∈Region.ready .any ops listed->
   hY P ops Inv st i (anyI P ops Inv st K l (listed.setIfInBounds i true)) a H->anyI P ops Inv st K (l+1) listed a H:=by
 intro l;induction l with
 |zero=>
  intro listed a H g _ z m h;refine⟨Z,fun j n=>?_⟩;by_cases w:j=i
  ·grind
  ·exfalso;have t:st i=true:=by unfold iq at z;rw[aki]at z;exact z.1
   have G:Region.ready .any ops (listed.setIfInBounds i true)=[]:=by
    unfold hY at h;simp only[hi,t]at h;split at h
    ·obtain⟨v,_,k⟩:=h;exact k.1
    ·exact h.1
   have:=ready_mono n w;grind
 |succ l I=>
  intro listed a H g r z m h;refine⟨fun q=>(by rw[q]at m;cases m),fun j n=>?_⟩;by_cases w:j=i
  ·subst w;exact h
  ·obtain⟨V,p,e,L⟩:=mem_ready.1 n;have N:=iY n;have F:=iY m;have t:st i=true:=by have x:=z;unfold iq at x;rw[aki]at x;exact x.1
   have W:(lm.getD j 0).testBit i=false:=by
    cases T:(lm.getD j 0).testBit i with
    |false=>rfl
    |true=>have:=D3 A r j p e L T;rw[F]at this;cases this
   have C:d.apart ops p=true:=by
    have x:=z;unfold iq at x;rw[aki]at x;have x:=x.2;rw[hi]at x;simp only at x;have Q:j<ops.size:=(Array.getElem?_eq_some_iff.1 e).1;have:=(akV.1 x) j (List.mem_range.2 Q);have U:(j==i)=false:=by simpa using w
    simp only[e,W,N,U,Bool.false_or]at this;exact this
   have f:hY P ops Inv st i (fun c J=>hY P ops Inv st j (anyI P ops Inv st K l ((listed.setIfInBounds i true).setIfInBounds j true)) c J) a H:=
    qd g (fun c J _ y=>y.2 j (ready_mono n w)) h
   have u:=XD hi e C t Z Z f;refine qd g (fun c J B y=>?_) u;refine I (listed.setIfInBounds j true) c J B (r.set n) (D4 z) (ready_mono m (Ne.symm w)) ?_;rw[Array.setIfInBounds_comm _ _ w];exact y
theorem count_set:∀ (l:List Bool) (i:Nat),l[i]? =some false->(l.set i true).count false+1=l.count false:=by
 grind
theorem yT{x:Nat}(l:listed.size=ops.size)(n:listed.toList.count false=x)(h:i∈Region.ready .any ops listed):
  ∃f,x=f+1/\(listed.setIfInBounds i true).toList.count false=f/\(listed.setIfInBounds i true).size=ops.size:=by
 have z:=iY h;obtain⟨_,o,m,_⟩:=mem_ready.1 h;have w:i<listed.size:=by rw[l];exact Z
 have a:listed.toList[i]? =some false:=by
  simp only[Array.getElem?_toList];simp[w]at z ⊢;exact z
 grind
theorem HH(L:xz ops lm=true)(Q:Region.noSelect ops=true){K:Act->Hp->Prop}:
  ∀ (t:Ot) (listed:Array Bool) (w:List Nat) (z:Nat) (a:Act) (H:Hp),PP ops lm st t listed w=true->Inv H->th ops listed->listed.size=ops.size->listed.toList.count false=z->
   (∀i∈w,i∈Region.ready .any ops listed->∃f,z=f+1/\hY P ops Inv st i (anyI P ops Inv st K f (listed.setIfInBounds i true)) a H)->Mo P ops Inv st K t a H->anyI P ops Inv st K z listed a H:=by
 intro t;induction t with
 |done=>
  intro listed w z a H x _ _ _ _ _ h;simp only[PP,List.isEmpty_iff]at x;cases z with
  |zero=>exact⟨x,h⟩
  |succ z=>exact⟨fun _=>h,Z⟩
 |step i t U=>
  intro listed w z a H x n m v c _ h;simp only[PP,aki,List.contains_iff_mem]at x;obtain⟨⟨l,A⟩,x⟩:=x;obtain⟨f,rfl,y,q⟩:=yT v c l;obtain⟨_,o,C,_⟩:=mem_ready.1 l;refine Nc L C (Region.noSelect_spec Q) f listed a H n m A l ?_;refine qd n (fun e J g p=>?_) h;exact U _ [] f e J x g (m.set l) q y Z p
 |aM i t r I W=>
  intro listed w z a H x n m v c u h;simp only[PP,aki,List.contains_iff_mem]at x;obtain⟨⟨l,T⟩,F⟩:=x;obtain⟨f,rfl,y,q⟩:=yT v c l;refine W listed (i::w) (f+1) a H F n m v c ?_ h.2;intro j d V;rcases akk.1 d with rfl|d
  ·refine⟨f,rfl,qd n (fun e J g p=>?_) h.1⟩;exact I _ [] f e J T g (m.set l) q y Z p
  grind
 |stop=>
  intro listed w z a H x n m v c u _;simp only[PP,aki,akV,List.contains_iff_mem]at x;obtain⟨G,B⟩:=x;by_cases N:Region.ready .any ops listed=[]
  ·grind
  ·obtain⟨i,hi⟩:=List.exists_mem_of_ne_nil _ N;obtain⟨f,rfl,_⟩:=u i (B i hi) hi;refine⟨Z,fun j d=>?_⟩;grind
theorem CB{t:Ot}(hm:P.follows .mixedOrders=true)(n:xz ops lm=true)(m:PP ops lm st t (Array.replicate ops.size false) []=true)
  (c:Region.noSelect ops=true){K:Act->Hp->Prop}{Q:Exit->Act->World->Prop}{a:Act}{w:World}(z:Inv w.heap)
  (l:∀x w',cv w w'->K x w'.heap->Q .normal x w')(h:Mo P ops Inv st K t a w.heap):(Code.region id ops true).wp P Q a w:=by
 refine wp_region_any hm ?_;refine FE (Inv:=Inv) (st:=st) (K:=K) (w₀:=w) l _ _ _ _ ⟨rfl,rfl⟩ z ?_;refine HH n c t _ [] _ _ _ m z ?_ (by simp) (by simp) Z h;intro k ok _ e;exfalso;by_cases v:k<ops.size<;>simp_all
end
end
end Go.Vc
