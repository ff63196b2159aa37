/- Texts put behind each other. -/
import Derived.Test.YtnanofhkpglbaaaGreatDoorK98
import Derived.Orders
import Derived.Laws.Sem
import Derived.Laws.World
import Derived.KernelRfl
set_option maxRecDepth 100000
set_option maxHeartbeats 80000000
namespace Go.Vc
section
variable{i j id:Nat}{kX:Array Nat}{a:Act}{listed:Array Bool}{o x z:Oper}{w w₀:World}
structure Tag{α:Sort _}(F:α):Type where
abbrev Hp:=Array Obj
structure bH(w w':World):Prop where
 os:w'.os=w.os
 output:w'.output=w.output
theorem bH.refl(w:World):bH w w:=⟨rfl,rfl⟩
theorem bH.trans{a b c:World}(h:bH a b)(k:bH b c):bH a c:=⟨k.os.trans h.os,k.output.trans h.output⟩
def dO(P:Program)(f:FuncId)(args:List Value)(H:Hp)(K:Value->Hp->Prop)(_t:Tag K:=⟨⟩):Prop:=
 ∀w,w.heap=H->Calls P f args.toArray w fun e w'=>∃v,e= .returned v/\bH w w'/\K v w'.heap
theorem dO.mono{P:Program}{f:FuncId}{args:List Value}{H:Hp}{K K':Value->Hp->Prop}(h:dO P f args H K)(z:∀v J,K v J->K' v J):
  dO P f args H K':=
 fun w x=>(h w x).mono Z
def ef(P:Program)(o:Oper)(a:Act)(H:Hp)(K:Value->Hp->Prop):Prop:=
 ∀w,w.heap=H->
  (∃v w',(execOp a.eval o).run P w= .ok (.value v) w'/\bH w w'/\K v w'.heap)\/
  (∃w',(execOp a.eval o).run P w= .ok .skip w'/\bH w w'/\K undef w'.heap)\/
  (∃f args w',(execOp a.eval o).run P w= .ok (.enter f args) w'/\bH w w'/\dO P f args.toList w'.heap K)
theorem ef.mono{P:Program}{H:Hp}{K K':Value->Hp->Prop}(h:ef P o a H K)(n:∀v J,K v J->K' v J):ef P o a H K':=by
 intro w m;rcases h w m with ⟨v,w',x,z,l⟩| ⟨w',x,z,l⟩| ⟨f,args,w',x,z,l⟩
 ·exact .inl Z
 ·exact .inr (.inl Z)
 ·exact .inr (.inr ⟨f,args,w',x,z,l.mono n⟩)
theorem ef.wp{P:Program}{H:Hp}{K:Value->Hp->Prop}{next:Act->World->Prop}{Q:Exit->Act->World->Prop}
  (h:ef P o a H K)(t:w.heap=H)(n:∀v w',bH w w'->K v w'.heap->next (a.put o.dst v) w'):o.wp P a w next Q:=by
 unfold Oper.wp;rcases h w t with ⟨v,w',x,z,l⟩| ⟨w',x,z,l⟩| ⟨f,args,w',x,z,l⟩
 ·rw[x];exact n _ _ z l
 ·rw[x];exact n _ _ z l
 ·rw[x];have m:=l w' rfl;simp only[amf]at m;show Calls P f args w' _;refine m.mono fun e r c=>?_;obtain⟨v,rfl,y,g⟩:=c;exact n _ _ (z.trans y) g
def IN(P:Program)(ops:Array Oper)(K:Act->Hp->Prop):List Nat->Act->Hp->Prop
 | [],a,H=>K a H
 |i::r,a,H=>
  match ops[i]? with
  |none=>IN P ops K r a H
  |some o=>if Region.wanted o (yielded ops a.tmps)then ef P o a H (fun v J=>IN P ops K r (a.put o.dst v) J)else IN P ops K r (a.put o.dst undef) H
theorem FK{P:Program}{ops:Array Oper}{K:Act->Hp->Prop}{Q:Exit->Act->World->Prop}
  (z:∀a w,bH w₀ w->K a w.heap->Q .normal a w):∀ (l:List Nat) (a:Act) (w:World),bH w₀ w->IN P ops K l a w.heap->wpOps P ops Q l a w:=by
 intro l;induction l with
 |nil=>intro a w x h;exact z a w x h
 |cons i r g=>
  intro a w x h;simp only[wpOps,IN]at*;cases m:ops[i]? with
  |none=>grind
  |some o=>
   rw[m]at h;simp only at h ⊢;split
   ·rename_i e;rw[if_pos e]at h;exact .inl (h.wp rfl fun v w' c n=>g _ _ (x.trans c) n)
   grind
inductive IE where
 |pure|quiet|EK
 deriving DecidableEq,Inhabited
def jh(P:Program)(ops:Array Oper)(cls:Nat->IE)(i:Nat)(K:Act->Hp->Prop)(a:Act)(H:Hp):Prop:=
 match ops[i]? with
 |none=>K a H
 |some o=>
  if Region.wanted o (yielded ops a.tmps)then
   match cls i with
   | .pure=>∃v,(∀w,(execOp a.eval o).run P w= .ok (.value v) w)/\K (a.put o.dst v) H
   | .quiet=>∃v,ef P o a H (fun x J=>x=v/\J=H)/\K (a.put o.dst v) H
   | .EK=>ef P o a H fun v J=>K (a.put o.dst v) J
  else K (a.put o.dst undef) H
theorem wJ{P:Program}{ops:Array Oper}{cls:Nat->IE}{K K':Act->Hp->Prop}{H:Hp}(z:∀a H,K a H->K' a H)
  (h:jh P ops cls i K a H):jh P ops cls i K' a H:=by
 unfold jh at*;split
 ·grind
 ·rename_i o w;simp only[w]at h;split
  ·rename_i l;rw[if_pos l]at h;cases x:cls i with
   |pure=>grind
   |quiet=>grind
   |EK=>rw[x]at h;exact h.mono fun v J=>z _ _
  grind
theorem xm{P:Program}{v:Value}(h:∀w,(execOp a.eval o).run P w= .ok (.value v) w)(H:Hp):
  ef P o a H fun z J=>z=v/\J=H:=fun w x=>.inl ⟨v,w,h w,bH.refl w,rfl,x⟩
theorem FL{P:Program}{ops:Array Oper}{cls:Nat->IE}{K:Act->Hp->Prop}{K':Act->World->Prop}
  {Q:Exit->Act->World->Prop}(m:∀a w',bH w w'->K a w'.heap->K' a w')(h:jh P ops cls i K a w.heap):wpOp P ops Q i K' a w:=by
 unfold jh at h;unfold wpOp;split
 ·rename_i l;rw[l]at h;exact m _ _ (bH.refl w) h
 ·rename_i o l;simp only[l]at h;split
  ·rename_i n;rw[if_pos n]at h;refine .inl ?_;cases z:cls i with
   |pure=>
    rw[z]at h;obtain⟨v,x,c⟩:=h;exact(xm x w.heap).wp rfl Z
   |quiet=>
    rw[z]at h;obtain⟨v,x,c⟩:=h;exact x.wp rfl Z
   |EK=>rw[z]at h;exact h.wp rfl Z
  ·rename_i n;rw[if_neg n]at h;exact m _ _ (bH.refl w) h
def NK(P:Program)(ops:Array Oper)(cls:Nat->IE)(K:Act->Hp->Prop):Nat->Array Bool->Act->Hp->Prop
 |0,listed,a,H=>Region.ready .any ops listed=[]/\K a H
 |UQ+1,listed,a,H=>
  (Region.ready .any ops listed=[]->K a H)/\
  ∀i∈Region.ready .any ops listed,jh P ops cls i (NK P ops cls K UQ (listed.setIfInBounds i true)) a H
theorem FM{P:Program}{ops:Array Oper}{cls:Nat->IE}{K:Act->Hp->Prop}{Q:Exit->Act->World->Prop}
  (l:∀a w,bH w₀ w->K a w.heap->Q .normal a w):∀ (x:Nat) (listed:Array Bool) (a:Act) (w:World),bH w₀ w->
   NK P ops cls K x listed a w.heap->wpAny P .any ops Q x listed a w:=by
 intro x;induction x with
 |zero=>intro listed a w z h;exact⟨h.1,l _ _ z h.2⟩
 |succ x v=>
  intro listed a w z h;exact⟨fun m=>l _ _ z (h.1 m),fun i hi=>FL (fun e w' c n=>v _ _ _ (z.trans c) n) (h.2 i hi)⟩
def IE.MA:IE->IE->Bool
 | .pure,_=>true
 |_,.pure=>true
 | .quiet,.quiet=>true
 |_,_=>false
section
variable {P : Program} {ops : Array Oper} {cls : Nat → IE}
theorem yI(H:Hp):∃w:World,w.heap=H:=⟨{ (default:World)with heap:=H},rfl⟩
theorem iY{y:Nat->Option Bool}:Region.wanted o y=true\/Region.wanted o y=false:=Z
theorem yJ{dst:Option Tmp}{u:Value}(x:∀cs b,o.op≠ .select cs b)(h:∀d,dst=some d->d∉o.looksAt ops){H:Hp}{K:Value->Hp->Prop}:
  ef P o (a.put dst u) H K↔ef P o a H K:=by
 unfold ef;rw[execOp_put (ops:=ops) o x a dst u h]
theorem YL{oi oj:Oper}(hi:ops[i]? =some oi)(T:ops[j]? =some oj)(B:oi.apart ops oj=true)(F:(cls i).MA (cls j)=true)
  (n:∀cs b,oi.op≠ .select cs b)(m:∀cs b,oj.op≠ .select cs b){K:Act->Hp->Prop}{a:Act}{H:Hp}
  (h:jh P ops cls i (fun x J=>jh P ops cls j K x J) a H):jh P ops cls j (fun x J=>jh P ops cls i K x J) a H:=by
 obtain⟨z,q,l⟩:=Oper.apart_spec B;have Q:∀u,Region.wanted oi (yielded ops (a.put oj.dst u).tmps)=Region.wanted oi (yielded ops a.tmps):=fun u=>wanted_put oi a oj.dst u l;have U:∀u,Region.wanted oj (yielded ops (a.put oi.dst u).tmps)=Region.wanted oj (yielded ops a.tmps):=fun u=>wanted_put oj a oi.dst u z;have r:∀u,execOp (a.put oj.dst u).eval oi=execOp a.eval oi:=fun u=>execOp_put oi n a oj.dst u l;have d:∀u,execOp (a.put oi.dst u).eval oj=execOp a.eval oj:=fun u=>execOp_put oj m a oi.dst u z;have t:∀v u,(a.put oi.dst v).put oj.dst u=(a.put oj.dst u).put oi.dst v:=fun v u=>Act.put_comm a v u q;unfold jh at*;simp only[hi,T]at*;simp only[Q,U,r,d,t,yJ (P:=P) n l,yJ (P:=P) m z]at*;rcases iY (o:=oi) (y:=yielded ops a.tmps)with c|c<;>rcases iY (o:=oj) (y:=yielded ops a.tmps)with g|g<;>
  simp only[c,g,if_true,if_false,al4]at*
 ·cases A:cls i<;>cases C:cls j<;>simp only[A,C,IE.MA,al4]at h F ⊢
  ·grind
  ·grind
  ·obtain⟨v,W,k⟩:=h;simp_all
  ·grind
  ·grind
  ·obtain⟨w,N⟩:=yI H;have pick:∃u,∀w,(execOp a.eval oj).run P w= .ok (.value u) w:=by
    rcases h w N with ⟨v,w',_,_,u,e,_⟩| ⟨w',_,_,u,e,_⟩| ⟨f,args,w',_,_,L⟩
    ·simp_all
    ·simp_all
    ·obtain⟨e,V,I,⟨v,_,_,u,p,_⟩,_⟩:=L w' rfl [];simp_all
   obtain⟨u,p⟩:=pick;simp_all
 ·omega
 ·omega
 omega
def sV(ops:Array Oper)(listed:Array Bool):Prop:=
 ∀k ok,ops[k]? =some ok->listed.getD k false=true->∀e∈ok.after,Region.binds .any e=true->listed.getD e.on false=true
theorem sV.set(h:sV ops listed)(hi:i∈Region.ready .any ops listed):sV ops (listed.setIfInBounds i true):=by
 intro k ok a n e w z;by_cases l:i=k
 ·subst l;obtain⟨_,o,x,m⟩:=mem_ready.1 hi;rw[a]at x;injection x with x;subst x;exact getD_set_true (m e w z)
 ·rw[getD_set_ne false l]at n;exact getD_set_true (h k ok a n e w z)
def up(kX:Array Nat)(o:Oper):Nat:=o.after.toList.foldl (fun s e=>if Region.binds .any e then s ||| (2^e.on |||kX.getD e.on 0)else s) 0
theorem LG:∀ (l:List Edge) (s:Nat),
  (l.foldl (fun s e=>if Region.binds .any e then s ||| (2^e.on |||kX.getD e.on 0)else s) s).testBit i=true->
   s.testBit i=true\/∃e∈l,Region.binds .any e=true/\(e.on=i\/(kX.getD e.on 0).testBit i=true):=by
 intro l;induction l with
 |nil=>grind
 |cons e l x=>
  grind
def xn(ops:Array Oper)(kX:Array Nat):Bool:=
 (List.range ops.size).all fun j=>
  match ops[j]? with
  |none=>false
  |some x=>x.after.all (fun e=> !Region.binds .any e || decide (e.on<j)) && (kX.getD j 0 |||up kX x==up kX x)
theorem D9(h:xn ops kX=true)(c:sV ops listed):∀ (j:Nat) (oj:Oper),ops[j]? =some oj->
  (∀e∈oj.after,Region.binds .any e=true->listed.getD e.on false=true)->(kX.getD j 0).testBit i=true->listed.getD i false=true:=by
 intro j;induction j using Nat.strongRecOn with
 |_ j p=>
  intro oj g m o;have f:j<ops.size:=Z;have z:=(amm.1 h) j Z;simp only[g,alJ,beq_iff_eq]at z;obtain⟨t,u⟩:=z;have d:(up kX oj).testBit i=true:=Z;rcases LG _ _ d with q| ⟨e,v,w,x⟩
  ·grind
  ·have l:e∈oj.after:=by simpa using v
   have y:=m e l w;rcases x with x|x
   ·grind
   ·have r:e.on<j:=by
     have:=(al9.1 t) e l;simpa[w]using this
    cases a:ops[e.on]? with
    |none=>
     grind
    |some n=>exact p e.on r n a (c e.on n a y) x
def to(ops:Array Oper)(kX:Array Nat)(cls:Nat->IE):Bool:=
 (List.range ops.size).all fun j=>
  match ops[j]? with
  |none=>false
  |some h=>(List.range j).all fun i=>(kX.getD j 0).testBit i ||
    match ops[i]? with
    |none=>false
    |some x=>x.apart ops h && (cls i).MA (cls j)
theorem HY(h:to ops kX cls=true)(hi:ops[i]? =some x)(l:ops[j]? =some z)(w:i<j)
  (a:(kX.getD j 0).testBit i=false):x.apart ops z=true/\(cls i).MA (cls j)=true:=by
 grind [to]
theorem LH(u:xn ops kX=true)(N:to ops kX cls=true){K:Act->Hp->Prop}{I:Oper}(hi:ops[i]? =some I)
  (aim:∀ (j:Nat) (o:Oper) cs b,ops[j]? =some o->o.op≠ .select cs b):
  ∀ (x:Nat) (listed:Array Bool) (a:Act) (H:Hp),sV ops listed->(∀j,j<i->listed.getD j false=true)->
   i∈Region.ready .any ops listed->
   jh P ops cls i (NK P ops cls K x (listed.setIfInBounds i true)) a H->NK P ops cls K (x+1) listed a H:=by
 intro x;induction x with
 |zero=>
  intro listed a H _ _ t h;refine⟨Z,fun j l=>?_⟩;by_cases n:j=i
  ·grind
  ·exfalso;have ac5:Region.ready .any ops (listed.setIfInBounds i true)=[]:=by
    unfold jh at h;simp only[hi]at h;split at h
    ·cases c:cls i<;>simp only[c]at h
     ·obtain⟨v,_,k⟩:=h;exact k.1
     ·obtain⟨v,_,k⟩:=h;exact k.1
     ·obtain⟨w,U⟩:=yI H;rcases h w U with ⟨v,w',_,_,k⟩| ⟨w',_,_,k⟩| ⟨f,args,w',_,_,c⟩
      ·exact k.1
      ·exact k.1
      ·obtain⟨e,w'',G,⟨v,_,_,k⟩,_⟩:=c w' rfl [];exact k.1
    ·exact h.1
   have:=ready_mono l n;grind
 |succ x W=>
  intro listed a H r T t h;refine⟨Z,fun j l=>?_⟩;by_cases n:j=i
  ·grind
  ·obtain⟨X,V,y,q⟩:=mem_ready.1 l;have M:=(mem_ready.1 t).1;have E:listed.getD j false=false:=by
    rcases al1 j listed.size with z|z
    ·grind
    ·grind
   have D:listed.getD i false=false:=by
    rcases al1 i listed.size with z|z
    ·grind
    ·grind
   have A:i<j:=by
    rcases al1 i j with z|z
    ·exact z
    ·grind
   have F:(kX.getD j 0).testBit i=false:=by
    cases L:(kX.getD j 0).testBit i with
    |false=>rfl
    |true=>have:=D9 u r j V y q L;grind
   obtain⟨B,Q⟩:=HY N hi y A F;have d:jh P ops cls i (fun m J=>jh P ops cls j (NK P ops cls K x ((listed.setIfInBounds i true).setIfInBounds j true)) m J) a H:=
    wJ (fun m J g=>g.2 j (ready_mono l n)) h
   have p:=YL hi y B Q Z Z d;refine wJ (fun m J g=>?_) p;refine W (listed.setIfInBounds j true) m J (r.set l) (fun k C=>getD_set_true (T k C)) (ready_mono t (Ne.symm n)) ?_;rw[Array.setIfInBounds_comm _ _ n];exact g
def OM(P:Program)(ops:Array Oper)(cls:Nat->IE)(K:Act->Hp->Prop):List Nat->Act->Hp->Prop
 | [],a,H=>K a H
 |i::r,a,H=>jh P ops cls i (OM P ops cls K r) a H
theorem HZ(n:xn ops kX=true)(A:to ops kX cls=true)(L:Region.noSelect ops=true){K:Act->Hp->Prop}:
  ∀ (m k:Nat) (listed:Array Bool) (a:Act) (H:Hp),k+m=ops.size->listed.size=ops.size->(∀j,listed.getD j false=decide (j<k))->
   OM P ops cls K (List.range' k m) a H->NK P ops cls K m listed a H:=by
 intro m;induction m with
 |zero=>
  intro k listed a H d B w h;refine⟨?_,h⟩;refine List.eq_nil_iff_forall_not_mem.2 fun j r=>?_;obtain⟨F,o,l,_⟩:=mem_ready.1 r;grind
 |succ m T=>
  intro k listed a H d B w h;have N:k<ops.size:=O;obtain⟨o,l⟩:∃o,ops[k]? =some o:=⟨ops[k],Z⟩;have t:sV ops listed:=by
   intro x U C f e c g;have Q:x<ops.size:=Z;have z:=(amm.1 n) x Z;simp only[C,alJ]at z;have v:=(al9.1 z.1) e c;simp only[g,al0,Bool.false_or,amv]at v;rw[w x,amv]at f;rw[w e.on];exact Z
  have u:k∈Region.ready .any ops listed:=by
   refine mem_ready.2 ⟨?_,o,l,fun e c g=>?_⟩
   ·grind
   ·have z:=(amm.1 n) k Z;simp only[l,alJ]at z;have v:=(al9.1 z.1) e c;grind
  refine LH n A l (Region.noSelect_spec L) m listed a H t Z u ?_;rw[List.range'_succ]at h;simp only[OM]at h;refine wJ (fun y J p=>T (k+1) _ y J O Z (fun j=>?_) p) h;by_cases q:k=j
  ·simp_all
  ·rw[getD_set_ne false q,w j];grind
theorem CF(hm:P.follows .mixedOrders=true)(l:xn ops kX=true)(c:to ops kX cls=true)
  (m:Region.noSelect ops=true){K:Act->Hp->Prop}{Q:Exit->Act->World->Prop}{a:Act}{w:World}
  (z:∀x w',bH w w'->K x w'.heap->Q .normal x w')(h:OM P ops cls K (List.range ops.size) a w.heap):(Code.region id ops true).wp P Q a w:=by
 refine wp_region_any hm ?_;refine FM (cls:=cls) (K:=K) (w₀:=w) z _ _ _ _ ⟨rfl,rfl⟩ ?_;refine HZ l c m ops.size 0 _ _ _ O (by simp) (fun j=>?_) (by rw[List.range_eq_range']at h;exact h);simp only[Nat.not_lt_zero,decide_false];by_cases n:j<ops.size<;>simp[n]
theorem CE{K:Act->Hp->Prop}{Q:Exit->Act->World->Prop}
  (z:∀x w',bH w w'->K x w'.heap->Q .normal x w')(h:IN P ops K (List.range ops.size) a w.heap):(Code.region id ops false).wp P Q a w:=
 wp_region (FK z _ _ _ (bH.refl w) h)
inductive Ot where
 |done
 |step(i:Nat)(t:Ot)
 |eR(i:Nat)(t r:Ot)
 |stop
 deriving Inhabited
def ie(P:Program)(ops:Array Oper)(Inv:Hp->Prop)(st:Nat->Bool)(i:Nat)(K:Act->Hp->Prop)(a:Act)(H:Hp):Prop:=
 match ops[i]? with
 |none=>K a H
 |some o=>
  if Region.wanted o (yielded ops a.tmps)then
   match st i with
   |true=>∃v,(∀J,Inv J->ef P o a J fun h x=>h=v/\x=J)/\K (a.put o.dst v) H
   |false=>ef P o a H fun v J=>Inv J/\K (a.put o.dst v) J
  else K (a.put o.dst undef) H
variable {Inv : Hp → Prop} {st : Nat → Bool}
theorem pP{K K':Act->Hp->Prop}{H:Hp}(l:Inv H)(n:∀a H,Inv H->K a H->K' a H)
  (h:ie P ops Inv st i K a H):ie P ops Inv st i K' a H:=by
 unfold ie at*;split
 ·grind
 ·rename_i o z;simp only[z]at h;split
  ·rename_i w;rw[if_pos w]at h;cases x:st i with
   |true=>grind
   |false=>rw[x]at h;exact h.mono Z
  grind
theorem FN{K:Act->Hp->Prop}{K':Act->World->Prop}
  {Q:Exit->Act->World->Prop}(x:Inv w.heap)(m:∀a w',bH w w'->Inv w'.heap->K a w'.heap->K' a w')(h:ie P ops Inv st i K a w.heap):wpOp P ops Q i K' a w:=by
 unfold ie at h;unfold wpOp;split
 ·rename_i z;rw[z]at h;exact m _ _ (bH.refl w) x h
 ·rename_i o z;simp only[z]at h;split
  ·rename_i l;rw[if_pos l]at h;refine .inl ?_;cases n:st i with
   |true=>
    rw[n]at h;obtain⟨v,c,e⟩:=h;exact(c w.heap x).wp rfl Z
   |false=>rw[n]at h;exact h.wp rfl Z
  ·rename_i l;rw[if_neg l]at h;exact m _ _ (bH.refl w) x h
def anyI(P:Program)(ops:Array Oper)(Inv:Hp->Prop)(st:Nat->Bool)(K:Act->Hp->Prop):Nat->Array Bool->Act->Hp->Prop
 |0,listed,a,H=>Region.ready .any ops listed=[]/\K a H
 |UQ+1,listed,a,H=>
  (Region.ready .any ops listed=[]->K a H)/\
  ∀i∈Region.ready .any ops listed,ie P ops Inv st i (anyI P ops Inv st K UQ (listed.setIfInBounds i true)) a H
theorem FO{K:Act->Hp->Prop}{Q:Exit->Act->World->Prop}
  (l:∀a w,bH w₀ w->K a w.heap->Q .normal a w):∀ (x:Nat) (listed:Array Bool) (a:Act) (w:World),bH w₀ w->Inv w.heap->
   anyI P ops Inv st K x listed a w.heap->wpAny P .any ops Q x listed a w:=by
 intro x;induction x with
 |zero=>intro listed a w z _ h;exact⟨h.1,l _ _ z h.2⟩
 |succ x g=>
  intro listed a w z n h;exact⟨fun v=>l _ _ z (h.1 v),fun i hi=>FN n (fun y w' e m c=>g _ _ _ (z.trans e) m c) (h.2 i hi)⟩
theorem YM(hi:ops[i]? =some x)(d:ops[j]? =some z)(t:x.apart ops z=true)(f:st i=true)
  (p:∀cs b,x.op≠ .select cs b)(q:∀cs b,z.op≠ .select cs b){K:Act->Hp->Prop}{a:Act}{H:Hp}
  (h:ie P ops Inv st i (fun w J=>ie P ops Inv st j K w J) a H):ie P ops Inv st j (fun w J=>ie P ops Inv st i K w J) a H:=by
 obtain⟨l,g,n⟩:=Oper.apart_spec t;have B:∀u,Region.wanted x (yielded ops (a.put z.dst u).tmps)=Region.wanted x (yielded ops a.tmps):=fun u=>wanted_put x a z.dst u n;have L:∀u,Region.wanted z (yielded ops (a.put x.dst u).tmps)=Region.wanted z (yielded ops a.tmps):=fun u=>wanted_put z a x.dst u l;have e:∀v u,(a.put x.dst v).put z.dst u=(a.put z.dst u).put x.dst v:=fun v u=>Act.put_comm a v u g;unfold ie at*;simp only[hi,d,f]at*;simp only[B,L,e,yJ (P:=P) p n,yJ (P:=P) q l]at*;rcases iY (o:=x) (y:=yielded ops a.tmps)with m|m<;>rcases iY (o:=z) (y:=yielded ops a.tmps)with c|c<;>
  simp only[m,c,if_true,if_false,al4]at*
 ·cases r:st j<;>simp only[r]at h ⊢
  ·obtain⟨v,A,k⟩:=h;exact k.mono Z
  grind
 ·exact h
 ·omega
 omega
def ir(ops:Array Oper)(kX:Array Nat)(st:Nat->Bool)(listed:Array Bool)(i:Nat):Bool:=
 st i && match ops[i]? with
 |none=>false
 |some x=>(List.range ops.size).all fun j=>j==i || listed.getD j false || (kX.getD j 0).testBit i ||
   match ops[j]? with
   |none=>false
   |some h=>x.apart ops h
def QF(ops:Array Oper)(kX:Array Nat)(st:Nat->Bool):Ot->Array Bool->List Nat->Bool
 | .done,listed,_=>(Region.ready .any ops listed).isEmpty
 | .step i t,listed,_=>(Region.ready .any ops listed).contains i && ir ops kX st listed i && QF ops kX st t (listed.setIfInBounds i true) []
 | .eR i t r,listed,x=>(Region.ready .any ops listed).contains i && QF ops kX st t (listed.setIfInBounds i true) [] && QF ops kX st r listed (i::x)
 | .stop,listed,x=> !(Region.ready .any ops listed).isEmpty && (Region.ready .any ops listed).all (x.contains ·)
def MV(P:Program)(ops:Array Oper)(Inv:Hp->Prop)(st:Nat->Bool)(K:Act->Hp->Prop):Ot->Act->Hp->Prop
 | .done,a,H=>K a H
 | .step i t,a,H=>ie P ops Inv st i (MV P ops Inv st K t) a H
 | .eR i t r,a,H=>ie P ops Inv st i (MV P ops Inv st K t) a H/\MV P ops Inv st K r a H
 | .stop,_,_=>True
theorem NL(h:listed.getD j false=true):(listed.setIfInBounds i true).getD j false=true:=getD_set_true h
theorem Ea(h:ir ops kX st listed i=true):ir ops kX st (listed.setIfInBounds j true) i=true:=by
 grind [ir,NL]
theorem iZ(h:i∈Region.ready .any ops listed):listed.getD i false=false:=by
 obtain⟨x,_⟩:=mem_ready.1 h;grind
theorem NM(A:xn ops kX=true){K:Act->Hp->Prop}{d:Oper}(hi:ops[i]? =some d)
  (D:∀ (j:Nat) (o:Oper) cs b,ops[j]? =some o->o.op≠ .select cs b):
  ∀ (l:Nat) (listed:Array Bool) (a:Act) (H:Hp),Inv H->sV ops listed->ir ops kX st listed i=true->
   i∈Region.ready .any ops listed->
   ie P ops Inv st i (anyI P ops Inv st K l (listed.setIfInBounds i true)) a H->anyI P ops Inv st K (l+1) listed a H:=by
 intro l;induction l with
 |zero=>
  intro listed a H g _ z m h;refine⟨Z,fun j n=>?_⟩;by_cases w:j=i
  ·grind
  ·exfalso;have t:st i=true:=by unfold ir at z;rw[alJ]at z;exact z.1
   have G:Region.ready .any ops (listed.setIfInBounds i true)=[]:=by
    unfold ie at h;simp only[hi,t]at h;split at h
    ·obtain⟨v,_,k⟩:=h;exact k.1
    ·exact h.1
   have:=ready_mono n w;grind
 |succ l I=>
  intro listed a H g r z m h;refine⟨fun q=>(by rw[q]at m;cases m),fun j n=>?_⟩;by_cases w:j=i
  ·subst w;exact h
  ·obtain⟨V,p,e,L⟩:=mem_ready.1 n;have N:=iZ n;have F:=iZ m;have t:st i=true:=by have x:=z;unfold ir at x;rw[alJ]at x;exact x.1
   have W:(kX.getD j 0).testBit i=false:=by
    cases T:(kX.getD j 0).testBit i with
    |false=>rfl
    |true=>have:=D9 A r j p e L T;rw[F]at this;cases this
   have C:d.apart ops p=true:=by
    have x:=z;unfold ir at x;rw[alJ]at x;have x:=x.2;rw[hi]at x;simp only at x;have Q:j<ops.size:=(amu.1 e).1;have:=(amm.1 x) j (List.mem_range.2 Q);have U:(j==i)=false:=by simpa using w
    simp only[e,W,N,U,Bool.false_or]at this;exact this
   have f:ie P ops Inv st i (fun c J=>ie P ops Inv st j (anyI P ops Inv st K l ((listed.setIfInBounds i true).setIfInBounds j true)) c J) a H:=
    pP g (fun c J _ y=>y.2 j (ready_mono n w)) h
   have u:=YM hi e C t Z Z f;refine pP g (fun c J B y=>?_) u;refine I (listed.setIfInBounds j true) c J B (r.set n) (Ea z) (ready_mono m (Ne.symm w)) ?_;rw[Array.setIfInBounds_comm _ _ w];exact y
theorem count_set:∀ (l:List Bool) (i:Nat),l[i]? =some false->(l.set i true).count false+1=l.count false:=by
 grind
theorem yK{x:Nat}(l:listed.size=ops.size)(n:listed.toList.count false=x)(h:i∈Region.ready .any ops listed):
  ∃f,x=f+1/\(listed.setIfInBounds i true).toList.count false=f/\(listed.setIfInBounds i true).size=ops.size:=by
 have z:=iZ h;obtain⟨_,o,m,_⟩:=mem_ready.1 h;have w:i<listed.size:=by rw[l];exact Z
 have a:listed.toList[i]? =some false:=by
  simp only[Array.getElem?_toList];simp[w]at z ⊢;exact z
 grind
theorem Ia(L:xn ops kX=true)(Q:Region.noSelect ops=true){K:Act->Hp->Prop}:
  ∀ (t:Ot) (listed:Array Bool) (w:List Nat) (z:Nat) (a:Act) (H:Hp),QF ops kX st t listed w=true->Inv H->sV ops listed->listed.size=ops.size->listed.toList.count false=z->
   (∀i∈w,i∈Region.ready .any ops listed->∃f,z=f+1/\ie P ops Inv st i (anyI P ops Inv st K f (listed.setIfInBounds i true)) a H)->MV P ops Inv st K t a H->anyI P ops Inv st K z listed a H:=by
 intro t;induction t with
 |done=>
  intro listed w z a H x _ _ _ _ _ h;simp only[QF,List.isEmpty_iff]at x;cases z with
  |zero=>exact⟨x,h⟩
  |succ z=>exact⟨fun _=>h,Z⟩
 |step i t U=>
  intro listed w z a H x n m v c _ h;simp only[QF,alJ,List.contains_iff_mem]at x;obtain⟨⟨l,A⟩,x⟩:=x;obtain⟨f,rfl,y,q⟩:=yK v c l;obtain⟨_,o,C,_⟩:=mem_ready.1 l;refine NM L C (Region.noSelect_spec Q) f listed a H n m A l ?_;refine pP n (fun e J g p=>?_) h;exact U _ [] f e J x g (m.set l) q y Z p
 |eR i t r I W=>
  intro listed w z a H x n m v c u h;simp only[QF,alJ,List.contains_iff_mem]at x;obtain⟨⟨l,T⟩,F⟩:=x;obtain⟨f,rfl,y,q⟩:=yK v c l;refine W listed (i::w) (f+1) a H F n m v c ?_ h.2;intro j d V;rcases alF.1 d with rfl|d
  ·refine⟨f,rfl,pP n (fun e J g p=>?_) h.1⟩;exact I _ [] f e J T g (m.set l) q y Z p
  grind
 |stop=>
  intro listed w z a H x n m v c u _;simp only[QF,alJ,amm,List.contains_iff_mem]at x;obtain⟨G,B⟩:=x;by_cases N:Region.ready .any ops listed=[]
  ·grind
  ·obtain⟨i,hi⟩:=List.exists_mem_of_ne_nil _ N;obtain⟨f,rfl,_⟩:=u i (B i hi) hi;refine⟨Z,fun j d=>?_⟩;grind
theorem CD{t:Ot}(hm:P.follows .mixedOrders=true)(n:xn ops kX=true)(m:QF ops kX st t (Array.replicate ops.size false) []=true)
  (c:Region.noSelect ops=true){K:Act->Hp->Prop}{Q:Exit->Act->World->Prop}{a:Act}{w:World}(z:Inv w.heap)
  (l:∀x w',bH w w'->K x w'.heap->Q .normal x w')(h:MV P ops Inv st K t a w.heap):(Code.region id ops true).wp P Q a w:=by
 refine wp_region_any hm ?_;refine FO (Inv:=Inv) (st:=st) (K:=K) (w₀:=w) l _ _ _ _ ⟨rfl,rfl⟩ z ?_;refine Ia n c t _ [] _ _ _ m z ?_ (by simp) (by simp) Z h;intro k ok _ e;exfalso;by_cases v:k<ops.size<;>simp_all
end
end
end Go.Vc
