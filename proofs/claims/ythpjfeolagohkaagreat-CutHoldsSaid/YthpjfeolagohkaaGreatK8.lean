/- Texts put behind each other. -/
import Derived.Test.YthpjfeolagohkaaGreatK98
import Derived.Test.YthpjfeolagohkaaGreatK7
set_option maxRecDepth 100000
set_option maxHeartbeats 8000000
set_option linter.unusedVariables false
namespace Go.Vc
def cC(P:Program)(t:TypeId):Option Shape:=
 match P.underlying t with
 |some (.int _)=>some .int
 |some .string=>some .str
 |some .bool=>some .bool
 |some (.struct _)=>
  match shapeOf P fu t with
  |some (.s l)=>if l.all (fun(off,agg,sh)=>agg.isNone && kF sh)then some (.s l)else none
  |_=>none
 |_=>none
def Wj:Shape→Bool| .s _=>false|_=>true
def F8:TypeDesc→Bool| .slice _=>true| .string=>true|_=>false
def Jn(P:Program)(o:Oper):Option dw:=
 match o.op with
 | .move x=>some (.ak x)
 | .assign x=>some (.ak x)
 | .pick c a b=>some (.pick c a b)
 | .box T x=>some (.box T x)
 | .alloc T=>(fO P T).map fun z=>.zero T (aH z)
 | .build t ps=>(fO P t).bind fun z=>(parts P t (aH z).length ps.toList).map (.build (aH z))
 | .buildSlice t n ps=>
  match P.underlying t with
  |some (.slice e)=>(fO P e).bind fun z=>
   if(P.info? e).isSome∧P.cellsOf e≠0∧(aH z).length=P.cellsOf e∧n*P.cellsOf e≤2^24 then
    (kw (fun i=>some (i*P.cellsOf e,P.cellsOf e)) (n*P.cellsOf e) ps.toList).map (.lit e n (aV (aH z) n))
   else none
  |_=>none
 | .load t x=>if(P.info? t).isSome∧(P.underlying t).isSome then(if fy P t then some (.cJ (P.cellsOf t) x)else some (.aj x))else none
 | .store t x v=>if(P.info? t).isSome∧P.cellsOf t≠0 then some (.store (P.cellsOf t) x v)else none
 | .nilCheck x=>some (.nilCheck x)
 | .binOp op t x y _=>
  match op with
  | .eql| .neq=>
   match P.underlying t,y with
   |some (.interface _),.const .nilIface=>some (.UP (match op with| .neq=>true|_=>false) x)
   |_,_=>(shapeOf P fu t).bind fun s=>if Wj s=true∨P.eqGuardType P.depth t=false then some (.fj op s x y)else none
  |_=>some (.fj op .int x y)
 | .unOp op _ x=>some (.un op x)
 | .convert src dst x=>
  match P.underlying src,P.underlying dst with
  |some (.int _),some (.int k)=>some (.conv k x)
  |some (.slice e),some .string=>(match P.underlying e with|some (.int .u8)=>some (.Pq x)|_=>none)
  |some .string,some (.slice e)=>(match P.underlying e with|some (.int .u8)=>some (.J4 e x)|_=>none)
  |_,_=>none
 | .makeInterface t x=>match P.underlying t with|some (.interface _)=>none|some _=>some (.iface t x)|none=>none
 | .makeFunc fn first captured=>some (.func fn first.toList captured.toList)
 | .makeMap t none=>some .nI
 | .makeSlice t n c=>
  match P.underlying t with
  |some (.slice e)=>(fO P e).bind fun z=>if(P.info? e).isSome∧P.cellsOf e≠0∧(aH z).length=P.cellsOf e then some (.makeSlice e (P.bytesOf e) (P.cellsOf e) (aH z) n c)else none
  |_=>none
 | .slice t x lo hi mx=>
  match P.underlying t with
  |some (.slice e)=>if(P.info? e).isSome∧(mx.isNone∨hi.isSome)then some (.slice (P.cellsOf e) x lo hi mx)else none
  |some .string=>if mx.isNone then some (.J5 x lo hi)else none
  |_=>none
 | .fieldAddr s x f=>
  match P.underlying s with
  |some (.struct fields)=>(fields[f]?).bind fun fd=>if(P.info? fd.type).isSome∧P.cellsOf fd.type≠0 then some (.fieldAddr fd.offset x)else none
  |_=>none
 | .field t x f=>
  match P.underlying t with
  |some (.struct fields)=>(fields[f]?).bind fun fd=>if(P.info? fd.type).isSome∧(P.underlying fd.type).isSome then some (.field fd.offset (if fy P fd.type then some (P.cellsOf fd.type)else none) x)else none
  |_=>none
 | .indexAddr t x i=>
  match P.underlying t with
  |some (.slice e)=>if(P.info? e).isSome then some (.indexAddr (P.cellsOf e) x i)else none
  |some (.array n e)=>if(P.info? e).isSome then some (.AR n (P.cellsOf e) x i)else none
  |_=>none
 | .index t x i=>match P.underlying t with|some .string=>some (.J6 x i)|_=>none
 | .lookup t x i ok=>
  match P.underlying t with
  |some (.map k e)=>(cC P k).bind fun s=>(fO P e).map fun z=>.lookup s z ok x i
  |_=>none
 | .mapUpdate t m k v=>match P.underlying t with|some (.map kt _)=>(cC P kt).map fun s=>.update s m k v|_=>none
 | .extract x i=>some (.extract i x)
 | .typeAssert x _ T false=>(match P.underlying T with|some (.interface _)=>none|some _=>some (.J7 T x)|none=>none)
 | .call c=>
  match c.callee with
  | .value (.func f)=>if dN P f then some (.call f c.args.toList)else some (.ext f c.args.toList)
  | .value x=>some (.dyn x c.args.toList)
  | .invoke r name=>some (.invoke r name c.args.toList)
  | .builtin .len=>
   match c.args.toList,(c.argTypes[0]?).bind P.underlying with
   | [x],some (.slice _)=>some (.lL x)
   | [x],some .string=>some (.UJ x)
   | [x],some (.map _ _)=>some (.UK x)
   |_,_=>none
  | .builtin .append=>
   match c.args.toList,(c.argTypes[0]?).bind P.underlying,(c.argTypes[1]?).bind P.underlying with
   | [x,y],some (.slice e),some d=>(fO P e).bind fun z=>
    if(P.info? e).isSome∧P.cellsOf e≠0∧(aH z).length=P.cellsOf e∧P.bytesOf e≠0∧F8 d=true then
     some (.append e (P.cellsOf e) (P.bytesOf e) (aH z) x y)else none
   |_,_,_=>none
  | .builtin .delete=>
   match c.args.toList,(c.argTypes[0]?).bind P.underlying with
   | [m,k],some (.map kt _)=>(cC P kt).map fun s=>.delete s m k
   |_,_=>none
  | .builtin .clear=>
   match c.args.toList,(c.argTypes[0]?).bind P.underlying with
   | [x],some (.slice e)=>(fO P e).bind fun z=>if(aH z).length≠0 then some (.Nz (aH z) x)else none
   |_,_=>none
  | .builtin .min=>some (.UN c.args.toList)
  | .builtin .max=>some (.UO c.args.toList)
  |_=>none
 |_=>none
def LF:Value→List Value→Option Value
 |v,[]=>some v
 |v,u::r=>match v,u with
  | .int k a,.int _ b=>LF (.int k (if b<a then b else a)) r
  |_,_=>none
def aez(l:List Value):Option Value:=match l with| []=>none|v::r=>LF v r
def LG:Value→List Value→Option Value
 |v,[]=>some v
 |v,u::r=>match v,u with
  | .int k a,.int _ b=>LG (.int k (if b>a then b else a)) r
  |_,_=>none
def aeA(l:List Value):Option Value:=match l with| []=>none|v::r=>LG v r
@[go_sem] theorem aa9(v:Value)(r:List Value):aez (v::r)=LF v r:=(rfl)
@[go_sem] theorem aeB(v:Value):LF v []=some v:=(rfl)
@[go_sem] theorem aba(k k':IntKind)(a b:Int)(r:List Value):LF (.int k a) (.int k' b::r)=LF (.int k (if b<a then b else a)) r:=(rfl)
@[go_sem] theorem abb(v:Value)(r:List Value):aeA (v::r)=LG v r:=(rfl)
@[go_sem] theorem aeC(v:Value):LG v []=some v:=(rfl)
@[go_sem] theorem abc(k k':IntKind)(a b:Int)(r:List Value):LG (.int k a) (.int k' b::r)=LG (.int k (if b>a then b else a)) r:=(rfl)
def pB(ev:Ev)(x:Option Operand)(d:Nat)(F:Int→Prop):Prop:=
 match x with
 |none=>F d
 |some x=>aE (ev x) fun v=>CO v F
@[go_sem ↓] theorem W6(ev:Ev)(d:Nat)(F:Int→Prop):pB ev none d F=F d:=(rfl)
@[go_sem ↓] theorem W7(ev:Ev)(x:Operand)(d:Nat)(F:Int→Prop):pB ev (some x) d F=aE (ev x) fun v=>CO v F:=(rfl)
def LQ(H:Hp)(r:Option Nat)(F:Nat→Prop):Prop:=
 match r with
 |none=>F 0
 |some b=>aE (H.mp b) fun m=>F m.1.length
@[go_sem ↓] theorem Z1(H:Hp)(b:Nat)(F:Nat→Prop):LQ H (some b) F=aE (H.mp b) fun m=>F m.1.length:=(rfl)
def hX(ok:Bool)(z:Value)(x:Option Value):Value:=
 bif ok then(match x with|some v=>.tuple [v,.bool true].toArray|none=>.tuple [z,.bool false].toArray)else x.getD z
@[go_sem] theorem RR(z v:Value):hX true z (some v)= .tuple [v,.bool true].toArray:=(rfl)
@[go_sem] theorem RS(z:Value):hX true z none= .tuple [z,.bool false].toArray:=(rfl)
@[go_sem] theorem Wk(z v:Value):hX false z (some v)=v:=(rfl)
@[go_sem] theorem Wl(z:Value):hX false z none=z:=(rfl)
def HL:Value→Bool
 | .pointer (some _)=>true
 | .iface .. =>true
 | .func (.func _) _ _=>true
 |_=>false
@[go_sem] theorem abd(a:Addr):HL (.pointer (some a))=true:=(rfl)
@[go_sem] theorem W8(t:TypeId)(v:Value):HL (.iface t v)=true:=(rfl)
@[go_sem] theorem Z2(f:FuncId)(a b:Array Value):HL (.func (.func f) a b)=true:=(rfl)
def QA(P:Program)(v:Value):Prop:=
 HL v=true∨∃name t u cap,v= .func (.method name) #[.iface t u] cap∧∀w,(nilAhead (P.types.size+Made.depth) t u name).run P w= .ok (some false) w
@[go_sem] theorem aeD(P:Program)(a:Addr):QA P (.pointer (some a))=True:=eq_true (.inl rfl)
@[go_sem] theorem Z3(P:Program)(t:TypeId)(v:Value):QA P (.iface t v)=True:=eq_true (.inl rfl)
@[go_sem] theorem abe(P:Program)(f:FuncId)(a b:Array Value):QA P (.func (.func f) a b)=True:=eq_true (.inl rfl)
def dw.vc(P:Program)(ev:Ev)(H:Hp)(K:Value→Hp→Prop):dw→Prop
 | .ak x=>aE (ev x) fun v=>K v H
 | .pick c a b=>aE (ev c) fun cv=>AS cv fun t=>aE (bif t then ev a else ev b) fun v=>K v H
 | .box T x=>aE (ev x) fun v=>now (H.new T (aH v)) fun H'=>K (.pointer (some ⟨H.size,0,none⟩)) H'
 | .zero T l=>now (H.new T l) fun H'=>K (.pointer (some ⟨H.size,0,none⟩)) H'
 | .build z ps=>AT ev z ps fun l=>now l fun l=>K (.agg l.toArray) H
 | .lit T n z ps=>AT ev z ps fun l=>now (H.new T l) fun H'=>K (.slice (some ⟨H.size,0,none⟩) n n) H'
 | .aj x=>aE (ev x) fun p=>wQ p fun b o=>aE (H.rd b) fun l=>aE l[o]? fun v=>K v H
 | .cJ n x=>aE (ev x) fun p=>wQ p fun b o=>aE (H.rd b) fun l=>dO (o+n≤l.length) (K (.agg ((l.drop o).take n).toArray) H)
 | .store n x v=>aE (ev x) fun p=>wQ p fun b o=>aE (ev v) fun v=>aE (Kb (H.own b) (H.CG b)) fun l=>
   dO ((aH v).length=n) (dO (sZ (aH v)=true) (dO (o+n≤l.length) (now (H.wr b (bh l o (aH v))) fun H'=>K undef H')))
 | .nilCheck x=>aE (ev x) fun v=>dO (QA P v) (K v H)
 | .fj op s x y=>aE (ev x) fun a=>aE (ev y) fun b=>aE (cB op s a b) fun v=>K v H
 | .un op x=>aE (ev x) fun a=>aE (unF op a) fun v=>K v H
 | .conv k x=>aE (ev x) fun a=>CO a fun n=>K (.int k (k.wrap n)) H
 | .iface T x=>aE (ev x) fun v=>K (.iface T v) H
 | .func fn first captured=>NN ev first fun l=>NN ev captured fun c=>K (.func fn l.toArray c.toArray) H
 | .nI=>K (.map (some H.size)) H.iR
 | .makeSlice T bytes size z n c=>aE (ev n) fun nv=>aE (ev c) fun cv=>CO nv fun n=>CO cv fun c=>
   dO (0≤n∧n≤c∧c≤2^48∧bytes*c≤2^48) (now (H.new T (aV z c.toNat)) fun H'=>K (.slice (some ⟨H.size,0,none⟩) n.toNat c.toNat) H')
 | .slice size x lo hi mx=>aE (ev x) fun v=>pA v fun a n c=>pB ev mx c fun m=>pB ev hi n fun h=>pB ev lo 0 fun l=>
   dO (0≤l∧l≤h∧h≤m∧m≤c) (K (.slice (if m=l then a else a.map (·.add (l.toNat*size))) (h.toNat - l.toNat) (m.toNat - l.toNat)) H)
 | .J5 x lo hi=>aE (ev x) fun v=>iU v fun s=>pB ev hi s.size fun h=>pB ev lo 0 fun l=>
   dO (0≤l∧l≤h∧h≤s.size) (K (.string (s.extract l.toNat h.toNat)) H)
 | .fieldAddr off x=>aE (ev x) fun p=>wQ p fun b o=>K (.pointer (some ⟨b,o+off,none⟩)) H
 | .field off agg x=>aE (ev x) fun v=>Qu v fun l=>aE (tE l off agg) fun v=>K v H
 | .indexAddr size x i=>aE (ev x) fun v=>aE (ev i) fun iv=>pA v fun a n _=>CO iv fun i=>dO (0≤i∧i<n) (uQ a fun b o=>K (.pointer (some ⟨b,o+i.toNat*size,none⟩)) H)
 | .AR aS size x i=>aE (ev x) fun p=>aE (ev i) fun iv=>wQ p fun b o=>CO iv fun i=>dO (0≤i∧i<aS) (K (.pointer (some ⟨b,o+i.toNat*size,none⟩)) H)
 | .J6 x i=>aE (ev x) fun v=>aE (ev i) fun iv=>iU v fun s=>CO iv fun i=>dO (0≤i) (aE (s[i.toNat]?) fun b=>K (.int .u8 b.toNat) H)
 | .lookup s z ok m k=>aE (ev m) fun mv=>aE (ev k) fun kv=>CP mv fun r=>dO (Co s kv=true) (yo H s r kv fun x=>K (hX ok z x) H)
 | .update s m k v=>aE (ev m) fun mv=>aE (ev k) fun kv=>aE (ev v) fun vv=>CP mv fun r=>aE r fun b=>dO (Co s kv=true) (Sg H s b kv vv fun H'=>K undef H')
 | .extract i x=>aE (ev x) fun v=>Qs v fun l=>aE l[i]? fun v=>K v H
 | .call f args=>NN ev args fun vs=>af P f vs H K
 | .dyn f args=>aE (ev f) fun fv=>NN ev args fun vs=>XG P fv vs H K
 | .invoke r name args=>aE (ev r) fun rv=>NN ev args fun vs=>gQ P rv name vs H K
 | .lL x=>aE (ev x) fun v=>pA v fun _ n _=>K (.int .i64 n) H
 | .UJ x=>aE (ev x) fun v=>iU v fun s=>K (.int .i64 s.size) H
 | .UK x=>aE (ev x) fun v=>CP v fun r=>LQ H r fun n=>K (.int .i64 n) H
 | .append T size bytes z x y=>aE (ev x) fun xv=>aE (ev y) fun yv=>fA T size bytes z xv yv H K
 | .delete s m k=>aE (ev m) fun mv=>aE (ev k) fun kv=>CP mv fun r=>aE r fun b=>dO (Co s kv=true) (XW H s b kv fun H'=>K (.tuple [].toArray) H')
 | .Nz z x=>aE (ev x) fun v=>pA v fun a n _=>ZZ H z a n fun H'=>K (.tuple [].toArray) H'
 | .UN args=>NN ev args fun vs=>aE (aez vs) fun v=>K v H
 | .UO args=>NN ev args fun vs=>aE (aeA vs) fun v=>K v H
 | .J7 T x=>aE (ev x) fun v=>wz T v fun u=>K u H
 | .UP neg x=>aE (ev x) fun v=>NO v fun b=>K (.bool (Pf neg b)) H
 | .Pq x=>aE (ev x) fun v=>uP H v fun l=>K (.string ⟨l.toArray⟩) H
 | .J4 T x=>aE (ev x) fun v=>iU v fun s=>T5 T s H K
 | .ext f args=>NN ev args fun vs=>ajb P f vs H K
attribute [go_sem ↓] dw.vc
section
variable {P : Program} {o : Oper} {a : Act} {ev : Ev} {H : Hp} {K : Value → Hp → Prop}
def eD(P:Program)(o:Oper)(a:Act)(H:Hp)(K:Value→Hp→Prop):Prop:=∃v,(∀w,(execOp a.eval o).run P w= .ok (.value v) w)∧K v H
theorem eD.agv(h:eD P o a H K):eC P o a H K:=by
 obtain⟨v,h1,h2⟩:=h
 exact fun w hw=>.inl ⟨v,w,h1 w,cu.refl w,hw▸h2⟩
theorem au{t:TypeId}{d:TypeDesc}(h:P.underlying t=some d)(w:World):(underlying t).run P w= .ok d w:=run_underlying h w
theorem eM{t:TypeId}{i:TypeInfo}(h:P.info? t=some i)(w:World):(typeInfo t).run P w= .ok i w:=by simp[typeInfo,h]
theorem bL{t:TypeId}(h:(P.info? t).isSome=true)(w:World):(sizeOf t).run P w= .ok (P.cellsOf t) w:=by
 obtain⟨i,hi⟩:=Option.isSome_iff_exists.1 h
 simp[sizeOf,eM hi,Program.cellsOf,hi]
theorem cO{t:TypeId}{z:Value}(h:fO P t=some z)(w:World):(zeroValue t).run P w= .ok z w:=by
 unfold fO at h
 cases hi:P.info? t with
 |none=>rw[hi]at h;cases h
 |some i=>rw[hi]at h;simp only[Option.bind_some]at h;simp[zeroValue,eM hi,h]
theorem AF{t:TypeId}(h:(P.underlying t).isSome=true)(w:World):(isAgg t).run P w= .ok (fy P t) w:=by
 obtain⟨d,hd⟩:=Option.isSome_iff_exists.1 h
 unfold isAgg fy
 simp only[Sem.run_bind,au hd,Result.andThen_ok,hd]
 cases d<;>rfl
theorem EF(t:TypeId)(v:Value)(w:World):(newVar t v).run P w= .ok ⟨w.heap.size,0,none⟩ {w with heap:=Hp.new w.heap t (aH v)}:=by
 simp only[newVar,newRow,Sem.run_bind,run_newObj,Result.andThen_ok,Sem.run_pure,Hp.new,←eU,arM]
theorem kM(t:TypeId)(c:Array Value)(w:World):(newRow t c).run P w= .ok ⟨w.heap.size,0,none⟩ {w with heap:=Hp.new w.heap t c.toList}:=by
 simp only[newRow,Sem.run_bind,run_newObj,Result.andThen_ok,Sem.run_pure,Hp.new,arM]
theorem iW{t:TypeId}{w:World}{b o:Nat}{l:List Value}(hi:(P.info? t).isSome=true)(hu:(P.underlying t).isSome=true)(h:Hp.rd w.heap b=some l):
  (fy P t=true→o+P.cellsOf t≤l.length→(loadVar t ⟨b,o,none⟩).run P w= .ok (.agg ((l.drop o).take (P.cellsOf t)).toArray) w)∧
  (fy P t=false→∀v,l[o]? =some v→(loadVar t ⟨b,o,none⟩).run P w= .ok v w):=by
 refine⟨fun ha hn=>?_,fun ha v hv=>?_⟩
 ·simp[loadVar,AF hu,ha,bL hi,qj (P:=P) (a:=⟨b,o,none⟩) rfl h hn]
 ·have hc:w.cell? ⟨b,o,none⟩=some v:=(nS rfl h).trans hv
  simp[loadVar,AF hu,ha,hc]
theorem Jg{t:TypeId}{w:World}{b o:Nat}{l:List Value}{v:Value}(hi:(P.info? t).isSome=true)(h0:P.cellsOf t≠0)(h:Kb (Hp.own w.heap b) (Hp.CG w.heap b)=some l)
  (hl:(aH v).length=P.cellsOf t)(h1:gJ (aH v))(hn:o+P.cellsOf t≤l.length):
  ∃w',(storeVar t ⟨b,o,none⟩ v).run P w= .ok () w'∧cu w w'∧w'.heap=Hp.wr w.heap b (bh l o (aH v)):=by
 obtain⟨w',hr,hs,hk,_⟩:=is (P:=P) (b:=b) (o:=o) (aH v) 0 w l h (by omega) h1
 refine⟨w',?_,hs,hk (fun e=>by rw[e]at hl;exact h0 hl.symm)⟩
 have e:v.cells.size=P.cellsOf t:=by rw[←hl,←eU];simp
 simp only[storeVar,Sem.run_bind,bL hi,Result.andThen_ok,e,ne_eq,not_true_eq_false,if_false,eU]
 exact hr
end
end Go.Vc

set_option linter.unusedSimpArgs false
namespace Go.Vc
section
variable {P : Program} {o : Oper} {a : Act} {ev : Ev} {H : Hp} {K : Value → Hp → Prop}
theorem dO.out{c F:Prop}(h:dO c F):c∧F:=h
theorem zf{v:Value}{F:Bool→Prop}(h:AS v F):∃b,v= .bool b∧F b:=by
 unfold AS at h;split at h
 ·exact⟨_,rfl,h⟩
 ·exact h.elim
theorem wL{l:List Value}{t:TypeId}{off:Nat}{v:Value}(hi:(P.info? t).isSome=true)(hu:(P.underlying t).isSome=true)
  (h:tE l off (if fy P t then some (P.cellsOf t)else none)=some v)(w:World):(part t l.toArray off).run P w= .ok v w:=by
 unfold part
 simp only[Sem.run_bind,AF hu,Result.andThen_ok]
 cases hb:fy P t
 ·rw[hb]at h
  simp only[ara,if_false,tE]at h ⊢
  simp[h]
 ·rw[hb]at h
  simp only[if_true,tE]at h ⊢
  split at h
  ·injection h with h
   subst h
   simp only[Sem.run_bind,bL hi,Result.andThen_ok,Sem.run_pure]
   congr 2
   apply Array.ext'
   simp[List.take_drop]
  ·cases h
theorem info_of_underlying{t:TypeId}(h:(P.underlying t).isSome=true):(P.info? t).isSome=true:=by
 unfold Program.underlying at h
 cases hi:P.info? t with
 |none=>rw[hi]at h;simp at h
 |some i=>rfl
theorem Ni(m:Nat){t:TypeId}{s:Shape}{x y:Value}{b:Bool}{d:Nat}(ht:shapeOf P d t=some s)(hs:∀fs,s≠ .s fs)(h:bE s x y=some b)(w:World):
  (Op.equalIn (m+1) t x y).run P w= .ok b w:=by
 cases d with
 |zero=>simp[shapeOf]at ht
 |succ d=>
  rw[gD]at ht
  split at ht
  case h_9=>
   split at ht
   ·cases ht
   ·rename_i fs hu hp
    cases hsf:fK P d fs.toList with
    |none=>rw[hsf]at ht;cases ht
    |some l=>rw[hsf]at ht;injection ht with ht;exact absurd ht.symm (hs l)
  case h_10=>cases ht
  all_goals(injection ht with ht;subst ht)
  all_goals(unfold bE at h;split at h<;>rename_i hu<;>first| (cases hu;done)| (cases h;done)|skip)
  all_goals(try(split at h<;>first| (cases h;done)|skip))
  all_goals(injection h with h;subst h)
  all_goals(simp only[Op.equalIn,Sem.run_bind,au ‹P.underlying t=_›,Result.andThen_ok])
  all_goals first|rfl| (rw[if_pos (by assumption)];rfl)| (simp[*,beq_toListBytes];done)| (simp_all;done)|skip
theorem CD:∀ (d:Nat),
  (∀ (t:TypeId) (s:Shape) (x y:Value) (b:Bool),shapeOf P d t=some s→rG s x y=some b→∀ (m:Nat) (w:World),(Op.equalIn (m+d) t x y).run P w= .ok b w)∧
  (∀ (fs:List Field) (l:List (Nat×Option Nat×Shape)) (xs ys:List Value) (b:Bool),fK P d fs=some l→Fj l xs ys=some b→
   ∀ (m:Nat) (w:World),(Op.eqFields (m+d) xs.toArray ys.toArray fs).run P w= .ok b w):=by
 intro d
 induction d with
 |zero=>
  refine⟨fun t s x y b ht=>(by simp[shapeOf]at ht),fun fs l xs ys b hl h m w=>?_⟩
  cases fs with
  |nil=>simp only[CC,aqk]at hl;subst hl;simp only[Fj,aqk]at h;subst h;rfl
  |cons f fs=>simp[qa,shapeOf]at hl
 |succ d ih=>
  have first:∀ (t:TypeId) (s:Shape) (x y:Value) (b:Bool),shapeOf P (d+1) t=some s→rG s x y=some b→∀ (m:Nat) (w:World),(Op.equalIn (m+(d+1)) t x y).run P w= .ok b w:=by
   intro t s x y b ht h m w
   by_cases hs:∃fs,s= .s fs
   ·obtain⟨l,rfl⟩:=hs
    cases x with
    |agg xs=>
     cases y with
     |agg ys=>
      simp only[rG]at h
      rw[gD]at ht
      split at ht
      case h_9=>
       split at ht
       ·cases ht
       ·rename_i fs hu hp
        cases hsf:fK P d fs.toList with
        |none=>rw[hsf]at ht;cases ht
        |some l'=>
         rw[hsf]at ht
         simp only[Option.map_some,aqk,Shape.s.injEq]at ht
         subst ht
         have hf:P.fieldsOf t=fs:=by simp[Program.fieldsOf,hu]
         rw[show m+(d+1)=(m+d)+1 by omega,run_equalIn_struct w (m+d) t xs ys (by rw[hf];exact hu) (by simpa using hp),hf]
         have:=(ih.2 fs.toList l' xs.toList ys.toList b hsf h m w)
         simpa using this
      all_goals cases ht
     |_=>simp[rG,bE]at h
    |_=>cases y<;>simp[rG,bE]at h
   ·have h':bE s x y=some b:=by
     cases s<;>first|exact h| (exact absurd ⟨_,rfl⟩ hs)
    exact Ni (m+d) ht (fun fs e=>hs ⟨fs,e⟩) h' w
  refine⟨first,fun fs=>?_⟩
  induction fs with
  |nil=>intro l xs ys b hl h m w;simp only[CC,aqk]at hl;subst hl;simp only[Fj,aqk]at h;subst h;rfl
  |cons f fs ihf=>
   intro l xs ys b hl h m w
   rw[qa]at hl
   split at hl
   ·cases hl
   ·rename_i T6
    split at hl
    ·cases hl
    ·rename_i sh HI
     cases hr:fK P (d+1) fs with
     |none=>rw[hr]at hl;cases hl
     |some l'=>
      rw[hr]at hl
      simp only[Option.map_some,aqk]at hl
      subst hl
      unfold Fj at h
      split at h
      ·cases h
      ·rename_i x hx
       split at h
       ·cases h
       ·rename_i y hy
        have hu:(P.underlying f.type).isSome=true:=by
         rw[gD]at HI
         split at HI<;>first| (cases HI;done)|simp_all
        have hi:=info_of_underlying hu
        simp only[Op.eqFields,T6,ne_eq,not_false_eq_true,if_true,Sem.run_bind,wL hi hu hx,wL hi hu hy,Result.andThen_ok]
        split at h
        ·rename_i he
         rw[first f.type sh x y true HI he m w]
         simpa using ihf l' xs ys b hr h m w
        ·rename_i he
         injection h with h
         subst h
         rw[first f.type sh x y false HI he m w]
         simp
        ·cases h
end
end Go.Vc

namespace Go.Vc
section
variable {P : Program} {o : Oper} {a : Act} {ev : Ev} {H : Hp} {K : Value → Hp → Prop}
abbrev bT(ev:Ev)(a:Act):Prop:=∀x v,ev x=some v→a.eval x=v
theorem aU{x:Operand}{F:Value→Prop}(bJ:bT ev a)(h:aE (ev x) F):F (a.eval x):=by
 obtain⟨v,hv,h⟩:=aD h
 rw[bJ x v hv];exact h
theorem LL{x:Operand}(bJ:bT ev a)(ho:o.op= .move x∨o.op= .assign x)(h:(dw.ak x).vc P ev H K):eD P o a H K:=by
 have h:=aU bJ h
 refine⟨_,fun w=>?_,h⟩
 rcases ho with ho|ho<;>simp[execOp,ho]
theorem Qn{c x y:Operand}(bJ:bT ev a)(ho:o.op= .pick c x y)(h:(dw.pick c x y).vc P ev H K):eD P o a H K:=by
 obtain⟨b,hb,h⟩:=zf (aU bJ h)
 have h2:aE (ev (bif b then x else y)) fun v=>K v H:=by cases b<;>exact h
 have h:=aU bJ h2
 refine⟨_,fun w=>?_,h⟩
 simp only[execOp,ho,hb,asBool]
 cases b<;>simp
theorem HZ{x:Operand}(bJ:bT ev a)(ho:o.op= .nilCheck x)(h:(dw.nilCheck x).vc P ev H K):eD P o a H K:=by
 obtain⟨hn,h⟩:=(aU bJ h).out
 refine⟨_,fun w=>?_,h⟩
 simp only[execOp,ho]
 rcases hn with hn| ⟨name,t,u,cap,hv,hn⟩
 ·revert hn
  generalize a.eval x=v
  cases v with
  |pointer q=>cases q<;>simp[HL]
  |func fn x y=>cases fn<;>simp[HL]
  |_=>simp[HL]
 ·rw[hv]
  have hz:(#[Value.iface t u]:Array Value)[0]? =some (.iface t u):=rfl
  simp[hz,hn w]
theorem UQ{op:UnOp}{t:TypeId}{x:Operand}(bJ:bT ev a)(ho:o.op= .unOp op t x)(h:(dw.un op x).vc P ev H K):eD P o a H K:=by
 obtain⟨v,hv,h⟩:=aD (aU bJ h)
 refine⟨v,fun w=>?_,h⟩
 simp only[execOp,ho]
 revert hv
 generalize a.eval x=u
 intro hv
 unfold unF at hv
 split at hv<;>first| (cases hv;done)|skip
 all_goals(injection hv with hv;subst hv;simp[Op.unary,Op.intArith,Op.intBits])
theorem Qp{s t:TypeId}{k k':IntKind}{x:Operand}(bJ:bT ev a)(ho:o.op= .convert s t x)(hs:P.underlying s=some (.int k'))(ht:P.underlying t=some (.int k))
  (h:(dw.conv k x).vc P ev H K):eD P o a H K:=by
 obtain⟨k1,n,hn,h⟩:=iA (aU bJ h)
 refine⟨_,fun w=>?_,h⟩
 simp only[execOp,ho,convert,hn,Sem.run_bind,au hs,au ht,Result.andThen_ok,Conv.intToInt]
 rfl
theorem T7{t:TypeId}{ms:Array (String×TypeId)}(hu:P.underlying t=some (.interface ms))(v:Value)(b:Bool)(hv:(v= .nilIface∧b=true)∨∃t' u,v= .iface t' u∧b=false)(w:World):(Op.equal t v .nilIface).run P w= .ok b w:=by
 have h:∀m:Nat,(Op.equalIn (m+1) t v .nilIface).run P w= .ok b w:=fun m=>by
  rcases hv with ⟨rfl,rfl⟩| ⟨t',u,rfl,rfl⟩<;>simp only[Op.equalIn,Sem.run_bind,au hu,Result.andThen_ok]<;>rfl
 exact h 9999
theorem Jo{op:BinOp}{neg:Bool}{t t':TypeId}{ms:Array (String×TypeId)}{x:Operand}(bJ:bT ev a)(ho:o.op= .binOp op t x (.const .nilIface) t')(hu:P.underlying t=some (.interface ms))
  (Ek:(op= .eql∧neg=false)∨(op= .neq∧neg=true))(h:(dw.UP neg x).vc P ev H K):eD P o a H K:=by
 obtain⟨b,hv,h⟩:∃b,((a.eval x= .nilIface∧b=true)∨∃t' u,a.eval x= .iface t' u∧b=false)∧K (.bool (Pf neg b)) H:=by
  rcases Jr (aU bJ h)with ⟨e,h⟩| ⟨t',u,e,h⟩
  ·exact⟨true,.inl ⟨e,rfl⟩,h⟩
  ·exact⟨false,.inr ⟨t',u,e,rfl⟩,h⟩
 refine⟨_,fun w=>?_,h⟩
 have hr:=T7 (P:=P) hu (a.eval x) b hv w
 have hc:a.eval (.const .nilIface)= .nilIface:=rfl
 simp only[execOp,ho,Sem.run_bind,hc]
 generalize a.eval x=u at hv hr ⊢
 have hg:(eqGuard op t x (.const .nilIface) u .nilIface).run P w= .ok () w:=by
  unfold eqGuard
  rcases Ek with ⟨rfl,_⟩| ⟨rfl,_⟩<;>rcases hv with ⟨rfl,_⟩| ⟨t',u',rfl,_⟩<;>simp
 rw[hg]
 simp only[Result.andThen_ok]
 rcases Ek with ⟨rfl,rfl⟩| ⟨rfl,rfl⟩<;>rcases hv with ⟨rfl,rfl⟩| ⟨t',u',rfl,rfl⟩<;>simp[binOp,hr,Pf]
theorem LP{s t:TypeId}{d:TypeDesc}{x:Operand}(bJ:bT ev a)(ho:o.op= .typeAssert x s t false)(hs:P.underlying t=some d)(hd:∀ms,d≠ .interface ms)
  (h:(dw.J7 t x).vc P ev H K):eD P o a H K:=by
 obtain⟨u,hx,h⟩:=AU (aU bJ h)
 refine⟨_,fun w=>?_,h⟩
 simp only[execOp,ho,hx,Instr.typeAssert,Sem.run_bind,au hs,Result.andThen_ok]
 cases d<;>first| (exact absurd rfl (hd _))|simp
theorem NK{t:TypeId}{d:TypeDesc}{x:Operand}(bJ:bT ev a)(ho:o.op= .makeInterface t x)(hs:P.underlying t=some d)(hd:∀ms,d≠ .interface ms)
  (h:(dw.iface t x).vc P ev H K):eD P o a H K:=by
 have h:=aU bJ h
 refine⟨_,fun w=>?_,h⟩
 simp only[execOp,ho,Instr.makeInterface,Sem.run_bind,au hs,Result.andThen_ok]
 cases d<;>first| (exact absurd rfl (hd _))|simp
theorem Qq{fn:Fn}{first captured:Array Operand}(bJ:bT ev a)(ho:o.op= .makeFunc fn first captured)(h:(dw.func fn first.toList captured.toList).vc P ev H K):eD P o a H K:=by
 have h:=kL bJ (kL bJ h)
 refine⟨_,fun w=>?_,h⟩
 simp only[execOp,ho,Instr.makeFunc,Sem.run_bind,Sem.run_pure,Result.andThen_ok]
 congr 3
 ·apply Array.ext';simp
 ·apply Array.ext';simp
theorem s8{c:Bool}{m:Sem Unit}{w:World}(h:m.run P w= .ok () w):(if(!c)=true then(pure ():Sem Unit)else m).run P w= .ok () w:=by
 cases c
 ·rfl
 ·simpa using h
theorem wg{op:BinOp}{t:TypeId}{s:Shape}{x y:Operand}{u v:Value}{b:Bool}(h:rG s u v=some b)(hg:Wj s=true∨P.eqGuardType P.depth t=false)(w:World):
  (eqGuard op t x y u v).run P w= .ok () w:=by
 unfold eqGuard
 refine s8 ?_
 cases u with
 |nilIface=>
  cases v with
  |nilIface=>cases s<;>simp[rG,bE]at h
  |_=>rfl
 |agg xs=>
  cases v with
  |agg ys=>
   rcases hg with hg|hg
   ·cases s<;>simp_all[rG,bE,Wj]
   ·simp[hg]
  |_=>rfl
 |_=>cases v<;>rfl
theorem HM{t:TypeId}{s:Shape}{u v:Value}{b:Bool}(hs:shapeOf P fu t=some s)(h:rG s u v=some b)(hu:∀k n,u≠ .int k n∨∀k' m,v≠ .int k' m)
  (uO:∀x,u≠ .string x∨∀y,v≠ .string y)(w:World):
  (binOp .eql t u v).run P w= .ok (.bool b) w∧(binOp .neq t u v).run P w= .ok (.bool (!b)) w:=by
 have he:(Op.equal t u v).run P w= .ok b w:=by
  unfold Op.equal Op.maxDepth
  have:=(CD (P:=P) fu).1 t s u v b hs h (10000 - fu) w
  simpa[fu]using this
 have aR:∀ {op},op=BinOp.eql∨op=BinOp.neq→binOp op t u v=(if op=BinOp.eql then(do pure (.bool (←Op.equal t u v)))else(do pure (.bool (!(←Op.equal t u v))))):=by
  intro op Ek
  cases u<;>cases v<;>rcases Ek with rfl|rfl<;>first
   |rfl
   | (rcases hu _ _ with h1|h1<;>first|exact absurd rfl h1|exact absurd rfl (h1 _ _))
   | (rcases uO _ with h1|h1<;>first|exact absurd rfl h1|exact absurd rfl (h1 _))
   | (cases s<;>simp[rG,bE]at h)
 rw[aR (.inl rfl),aR (.inr rfl)]
 simp[he]
def T9(op:BinOp)(s:Shape)(u z:Value):Option Value:=match op with| .eql=>(rG s u z).map .bool| .neq=>(rG s u z).map fun b=>.bool (!b)|_=>none
theorem Rv{op:BinOp}{s:Shape}{u z:Value}(h1:∀k n,u≠ .int k n∨∀k' m,z≠ .int k' m)(h2:∀p,u≠ .string p∨∀q,z≠ .string q):cB op s u z=T9 op s u z:=by
 unfold cB T9
 split
 ·rcases h1 _ _ with h|h<;>first|exact absurd rfl h|exact absurd rfl (h _ _)
 ·rcases h2 _ with h|h<;>first|exact absurd rfl h|exact absurd rfl (h _)
 ·rfl
theorem Ga{op:BinOp}{t t':TypeId}{s:Shape}{x y:Operand}(bJ:bT ev a)(ho:o.op= .binOp op t x y t')
  (hs:(op= .eql∨op= .neq)→shapeOf P fu t=some s∧(Wj s=true∨P.eqGuardType P.depth t=false))
  (h:(dw.fj op s x y).vc P ev H K):eD P o a H K:=by
 obtain⟨v,hv,h⟩:=aD (aU bJ (aU bJ h))
 refine⟨v,fun w=>?_,h⟩
 simp only[execOp,ho,Sem.run_bind]
 generalize hx:a.eval x=u at hv ⊢
 generalize hy:a.eval y=z at hv ⊢
 have hint:∀k n k' m,u= .int k n→z= .int k' m→(eqGuard op t x y u z).run P w= .ok () w∧(binOp op t u z).run P w= .ok v w:=by
  intro k n k' m e1 e2
  subst e1;subst e2
  refine⟨s8 rfl,?_⟩
  ·unfold cB at hv
   by_cases hk:k=k'
   ·subst hk
    cases op<;>simp only[binOp,Op.shift,Op.intArith,Op.intDiv,Op.intBits,Op.intCmp]at hv ⊢ <;>simp at hv ⊢ <;>first
     | (subst hv;rfl)
     | (split at hv<;>first| (cases hv;done)| (injection hv with hv;subst hv;rename_i hc;simp[hc];done)|skip)
     | (obtain⟨h1,rfl⟩:=hv;simp[show¬m<0 by omega])
     | (obtain⟨h1,rfl⟩:=hv;simp[h1])
     |skip
   ·cases op<;>simp[hk]at hv<;>simp only[binOp,Op.shift]<;>first
     | (obtain⟨h1,rfl⟩:=hv;simp[show¬m<0 by omega])
     |skip
 have ajc:∀p q,u= .string p→z= .string q→(eqGuard op t x y u z).run P w= .ok () w∧(binOp op t u z).run P w= .ok v w:=by
  intro p q e1 e2
  subst e1;subst e2
  refine⟨s8 rfl,?_⟩
  ·unfold cB at hv
   cases op<;>simp only[binOp,Op.stringOp]at hv ⊢ <;>simp at hv ⊢ <;>first
    | (subst hv;rfl)
    | (obtain⟨h1,rfl⟩:=hv;simp[show¬ (9223372036854775807:Int)< (p.size:Int)+q.size by omega])
    | (obtain⟨h1,rfl⟩:=hv;rw[if_neg (by omega)])
    | (cases hv;done)
    |skip
 have aeE:(∀k n,u≠ .int k n∨∀k' m,z≠ .int k' m)→(∀p,u≠ .string p∨∀q,z≠ .string q)→(eqGuard op t x y u z).run P w= .ok () w∧(binOp op t u z).run P w= .ok v w:=by
  intro h1 h2
  have hb:=Rv (op:=op) (s:=s) h1 h2
  rw[hb]at hv
  cases op<;>simp only[T9]at hv<;>first| (cases hv;done)|skip
  ·obtain⟨fh,Jv⟩:=hs (.inl rfl)
   cases he:rG s u z with
   |none=>rw[he]at hv;cases hv
   |some b=>rw[he]at hv;injection hv with hv;subst hv;exact⟨wg he Jv w,(HM fh he h1 h2 w).1⟩
  ·obtain⟨fh,Jv⟩:=hs (.inr rfl)
   cases he:rG s u z with
   |none=>rw[he]at hv;cases hv
   |some b=>rw[he]at hv;injection hv with hv;subst hv;exact⟨wg he Jv w,(HM fh he h1 h2 w).2⟩
 have key:(eqGuard op t x y u z).run P w= .ok () w∧(binOp op t u z).run P w= .ok v w:=by
  by_cases h1:∃k n k' m,u= .int k n∧z= .int k' m
  ·obtain⟨k,n,k',m,e1,e2⟩:=h1;exact hint k n k' m e1 e2
  ·by_cases h2:∃p q,u= .string p∧z= .string q
   ·obtain⟨p,q,e1,e2⟩:=h2;exact ajc p q e1 e2
   ·refine aeE (fun k n=>?_) (fun p=>?_)
    ·by_cases e:u= .int k n
     ·exact .inr fun k' m e'=>h1 ⟨k,n,k',m,e,e'⟩
     ·exact .inl e
    ·by_cases e:u= .string p
     ·exact .inr fun q e'=>h2 ⟨p,q,e,e'⟩
     ·exact .inl e
 simp[key.1,key.2]
end
end Go.Vc

namespace Go.Vc
section
variable {P : Program} {o : Oper} {a : Act} {ev : Ev} {H : Hp} {K : Value → Hp → Prop}
theorem J8{i:Nat}{x:Operand}(bJ:bT ev a)(ho:o.op= .extract x i)(h:(dw.extract i x).vc P ev H K):eD P o a H K:=by
 obtain⟨vs,hv,h⟩:=Jp (aU bJ h)
 obtain⟨v,hi,h⟩:=aD h
 refine⟨v,fun w=>?_,h⟩
 have hi':vs[i]? =some v:=by simpa using hi
 simp[execOp,ho,hv,Instr.extract,hi']
theorem Gc{t:TypeId}{f:Nat}{x:Operand}{fields:Array Field}{fd:Field}(bJ:bT ev a)(ho:o.op= .fieldAddr t x f)(ht:P.underlying t=some (.struct fields))
  (hf:fields[f]? =some fd)(hi:(P.info? fd.type).isSome=true)(h0:P.cellsOf fd.type≠0)(h:(dw.fieldAddr fd.offset x).vc P ev H K):eD P o a H K:=by
 obtain⟨b,off,hv,h⟩:=fL (aU bJ h)
 refine⟨_,fun w=>?_,h⟩
 simp[execOp,ho,hv,Instr.fieldAt,au ht,hf,Instr.sureAddr,fieldPlace,bL hi,h0,zc]
theorem NM{t:TypeId}{f:Nat}{x:Operand}{fields:Array Field}{fd:Field}(bJ:bT ev a)(ho:o.op= .field t x f)(ht:P.underlying t=some (.struct fields))
  (hf:fields[f]? =some fd)(hi:(P.info? fd.type).isSome=true)(hu:(P.underlying fd.type).isSome=true)
  (h:(dw.field fd.offset (if fy P fd.type then some (P.cellsOf fd.type)else none) x).vc P ev H K):eD P o a H K:=by
 obtain⟨vs,hv,h⟩:=Jq (aU bJ h)
 obtain⟨v,hp,h⟩:=aD h
 refine⟨v,fun w=>?_,h⟩
 have:=wL hi hu hp w
 simp only[arM]at this
 simp[execOp,ho,hv,Instr.field,au ht,hf,asAgg,this]
theorem Gd{t e:TypeId}{x i:Operand}(bJ:bT ev a)(ho:o.op= .indexAddr t x i)(ht:P.underlying t=some (.slice e))(hi:(P.info? e).isSome=true)
  (h:(dw.indexAddr (P.cellsOf e) x i).vc P ev H K):eD P o a H K:=by
 obtain⟨ad,n,c,hx,h⟩:=iz (aU bJ (aU bJ h))
 obtain⟨k,j,hj,h⟩:=iA h
 obtain⟨hb,h⟩:=h.out
 obtain⟨b,off,rfl,h⟩:=nu h
 refine⟨_,fun w=>?_,h⟩
 simp[execOp,ho,hx,hj,Instr.indexAt,au ht,asIntOf,hb.1,hb.2,bL hi,zc]
theorem Ia{t e:TypeId}{n:Nat}{x i:Operand}(bJ:bT ev a)(ho:o.op= .indexAddr t x i)(ht:P.underlying t=some (.array n e))(hi:(P.info? e).isSome=true)
  (h:(dw.AR n (P.cellsOf e) x i).vc P ev H K):eD P o a H K:=by
 obtain⟨b,off,hx,h⟩:=fL (aU bJ (aU bJ h))
 obtain⟨k,j,hj,h⟩:=iA h
 obtain⟨hb,h⟩:=h.out
 refine⟨_,fun w=>?_,h⟩
 simp[execOp,ho,hx,hj,Instr.indexAt,au ht,asIntOf,hb.1,hb.2,bL hi,zc,Instr.sureAddr]
theorem LO{t:TypeId}{x i:Operand}(bJ:bT ev a)(ho:o.op= .index t x i)(ht:P.underlying t=some .string)
  (h:(dw.J6 x i).vc P ev H K):eD P o a H K:=by
 obtain⟨s,hx,h⟩:=mN (aU bJ (aU bJ h))
 obtain⟨k,j,hj,h⟩:=iA h
 obtain⟨h0,h⟩:=h.out
 obtain⟨b,hb,h⟩:=aD h
 refine⟨_,fun w=>?_,h⟩
 simp[execOp,ho,hx,hj,Instr.index,au ht,asIntOf,h0,hb]
theorem lH{x:Option Operand}{d:Nat}{F:Int→Prop}(bJ:bT ev a)(h:pB ev x d F):
  ∃n,F n∧((x=none∧n=d)∨∃y k,x=some y∧a.eval y= .int k n):=by
 cases x with
 |none=>exact⟨d,h,.inl ⟨rfl,rfl⟩⟩
 |some y=>
  obtain⟨k,n,hy,h⟩:=iA (aU bJ h)
  exact⟨n,h,.inr ⟨y,k,rfl,hy⟩⟩
theorem gE{k:IntKind}{i:Int}{y:Nat}{code:BoundsCode}(h0:0≤i)(h1:i≤y)(w:World):(Instr.sliceBound (.int k i) y code).run P w= .ok i.toNat w:=by
 simp[Instr.sliceBound,asIntOf,h0,h1]
theorem HN{isS:Bool}{n c:Nat}{lo hi mx:Option Operand}{l h m:Int}(hl:(lo=none∧l=0)∨∃y k,lo=some y∧a.eval y= .int k l)
  (hh:(hi=none∧h=n)∨∃y k,hi=some y∧a.eval y= .int k h)(hm:(mx=none∧m=c)∨∃y k,mx=some y∧a.eval y= .int k m)
  (h3:mx.isSome=true→hi.isSome=true)(hb:0≤l∧l≤h∧h≤m∧m≤c)(w:World):
  (Instr.sliceBounds isS n c (lo.map a.eval) (hi.map a.eval) (mx.map a.eval)).run P w= .ok (l.toNat,h.toNat,m.toNat) w:=by
 obtain⟨h1,h2,h4,h5⟩:=hb
 unfold Instr.sliceBounds
 rcases hm with ⟨rfl,rfl⟩| ⟨ym,km,rfl,em⟩
 ·rcases hh with ⟨rfl,rfl⟩| ⟨yh,kh,rfl,eh⟩<;>rcases hl with ⟨rfl,rfl⟩| ⟨yl,kl,rfl,el⟩<;>
   simp only[Option.map_none,Option.map_some,Option.isSome_none,Sem.run_bind,Sem.run_pure,Result.andThen_ok, *]
  ·rfl
  ·rw[gE h1 (by omega)];rfl
  ·rw[gE (by omega) (by omega)];rfl
  ·rw[gE (by omega) (by omega)];simp only[Result.andThen_ok];rw[gE h1 (by omega)];rfl
 ·rcases hh with ⟨rfl,rfl⟩| ⟨yh,kh,rfl,eh⟩
  ·exact absurd (h3 rfl) (by simp)
  ·rcases hl with ⟨rfl,rfl⟩| ⟨yl,kl,rfl,el⟩<;>simp only[Option.map_none,Option.map_some,Option.isSome_some,Sem.run_bind,Sem.run_pure,Result.andThen_ok, *]
   ·rw[gE (by omega) (by omega)];simp only[Result.andThen_ok];rw[gE (by omega) (by omega)];rfl
   ·rw[gE (by omega) (by omega)];simp only[Result.andThen_ok];rw[gE (by omega) (by omega)];simp only[Result.andThen_ok];rw[gE h1 (by omega)];rfl
theorem NL{t e:TypeId}{x:Operand}{lo hi mx:Option Operand}(bJ:bT ev a)(ho:o.op= .slice t x lo hi mx)(ht:P.underlying t=some (.slice e))(hie:(P.info? e).isSome=true)
  (h3:mx.isSome=true→hi.isSome=true)(h:(dw.slice (P.cellsOf e) x lo hi mx).vc P ev H K):eD P o a H K:=by
 obtain⟨ad,n,c,hx,h⟩:=iz (aU bJ h)
 obtain⟨m,h,hm⟩:=lH bJ h
 obtain⟨hh,h,hhi⟩:=lH bJ h
 obtain⟨l,h,QR⟩:=lH bJ h
 obtain⟨hb,h⟩:=h.out
 refine⟨_,fun w=>?_,h⟩
 have hr:=HN (P:=P) (isS:=true) (n:=n) (c:=c) QR hhi hm h3 hb w
 simp only[execOp,ho,Instr.sliceAt,Sem.run_bind,au ht,Result.andThen_ok,Instr.slice,hx,hr,bL hie,Sem.run_pure]
 by_cases hml:m=l
 ·subst hml;simp
 ·rw[if_neg hml,if_neg (by omega)]
theorem LN{t:TypeId}{x:Operand}{lo hi:Option Operand}(bJ:bT ev a)(ho:o.op= .slice t x lo hi none)(ht:P.underlying t=some .string)
  (h:(dw.J5 x lo hi).vc P ev H K):eD P o a H K:=by
 obtain⟨s,hx,h⟩:=mN (aU bJ h)
 obtain⟨hh,h,hhi⟩:=lH bJ h
 obtain⟨l,h,QR⟩:=lH bJ h
 obtain⟨hb,h⟩:=h.out
 refine⟨_,fun w=>?_,h⟩
 have hr:=HN (P:=P) (isS:=false) (n:=s.size) (c:=s.size) (m:=s.size) (mx:=none) QR hhi (.inl ⟨rfl,rfl⟩) (by simp) ⟨hb.1,hb.2.1,hb.2.2,arS _⟩ w
 simp only[Option.map_none]at hr
 simp only[execOp,ho,Instr.sliceAt,Sem.run_bind,au ht,Result.andThen_ok,Instr.slice,hx,hr,Sem.run_pure,Option.map_none,Option.isSome_none,ara,if_false]
theorem Le(vs:List Value):∀ (n off:Nat) (z:Array Value),((vs.zipIdx n).foldl (fun cs (c,j)=>cs.setIfInBounds (off+j) c) z).toList=bh z.toList (off+n) vs:=by
 induction vs with
 |nil=>intro n off z;rfl
 |cons v vs ih=>
  intro n off z
  rw[List.zipIdx_cons,List.foldl_cons,pt]
  have:=ih (n+1) off (z.setIfInBounds (off+n) v)
  rw[this]
  simp[asj]
theorem fill_eq{place:Nat→Option (Nat×Nat)}:∀ (ps:List (Nat×Operand)) (qs:List (Nat×Nat×Operand)) (z:Array Value) (F:List Value→Prop),
  List.length ps=List.length qs→(∀ (j i:Nat) (x:Operand),ps[j]? =some (i,x)→∃off size:Nat,qs[j]? =some (off,size,x)∧place i=some (off,size)∧off+size≤z.size)→bT ev a→AT ev z.toList qs F→
   ∃z':Array Value,Instr.fill place z (ps.map fun(i,x)=>(i,a.eval x))=some z'∧F z'.toList:=by
 intro ps
 induction ps with
 |nil=>
  intro qs z F hl hp bJ h
  cases qs with
  |nil=>exact⟨z,rfl,h⟩
  |cons q qs=>simp at hl
 |cons p ps ih=>
  intro qs z F hl hp bJ h
  obtain⟨i,x⟩:=p
  cases qs with
  |nil=>simp at hl
  |cons q qs=>
   obtain⟨off,size,hq,RO,oP⟩:=hp 0 i x rfl
   simp only[aqE,aqk]at hq
   subst hq
   obtain⟨hn,h⟩:=(aU bJ h).out
   have QJ:(a.eval x).cells.size=size:=by rw[←hn,←eU];simp
   rw[aqY,Instr.fill]
   simp only[RO,QJ,ne_eq,not_true_eq_false,decide_false,asl,aqI]
   rw[if_neg (by omega)]
   have W9:((a.eval x).cells.zipIdx.foldl (fun cs (c,j)=>cs.setIfInBounds (off+j) c) z).toList=bh z.toList off (aH (a.eval x)):=by
    have:=Le (a.eval x).cells.toList 0 off z
    rw[eU]at this
    rw[←Array.foldl_toList,Array.toList_zipIdx,eU]
    simpa using this
   refine ih qs _ F (by simpa using hl) (fun j i' x' hj=>?_) bJ (by rw[W9];exact h)
   obtain⟨aje,aeF,hq',ajf,acE⟩:=hp (j+1) i' x' (by simpa using hj)
   refine⟨aje,aeF,by simpa using hq',ajf,?_⟩
   have:((a.eval x).cells.zipIdx.foldl (fun cs (c,j)=>cs.setIfInBounds (off+j) c) z).size=z.size:=by
    rw[←Array.length_toList,W9,kA,Array.length_toList]
   rw[this];exact acE
end
end Go.Vc
