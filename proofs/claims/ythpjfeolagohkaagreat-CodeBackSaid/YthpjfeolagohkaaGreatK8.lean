/- Texts put behind each other. -/
import Derived.Test.YthpjfeolagohkaaGreatK98
import Derived.Test.YthpjfeolagohkaaGreatK7
set_option maxRecDepth 100000
set_option maxHeartbeats 8000000
set_option linter.unusedVariables false
namespace Go.Vc
def ck(P:Program)(t:TypeId):Option Shape:=
 match P.underlying t with
 |some (.int _)=>some .int
 |some .string=>some .str
 |some .bool=>some .bool
 |some (.struct _)=>
  match shapeOf P eJ t with
  |some (.s l)=>if l.all (fun(off,agg,sh)=>agg.isNone && jM sh)then some (.s l)else none
  |_=>none
 |_=>none
def VN:Shape→Bool| .s _=>false|_=>true
def Fh:TypeDesc→Bool| .slice _=>true| .string=>true|_=>false
def ID(P:Program)(o:Oper):Option de:=
 match o.op with
 | .move x=>some (.ay x)
 | .assign x=>some (.ay x)
 | .pick c a b=>some (.pick c a b)
 | .box T x=>some (.box T x)
 | .alloc T=>(fj P T).map fun z=>.zero T (aF z)
 | .build t ps=>(fj P t).bind fun z=>(parts P t (aF z).length ps.toList).map (.build (aF z))
 | .buildSlice t n ps=>
  match P.underlying t with
  |some (.slice e)=>(fj P e).bind fun z=>
   if(P.info? e).isSome∧P.cellsOf e≠0∧(aF z).length=P.cellsOf e∧n*P.cellsOf e≤2^24 then
    (jK (fun i=>some (i*P.cellsOf e,P.cellsOf e)) (n*P.cellsOf e) ps.toList).map (.lit e n (ce (aF z) n))
   else none
  |_=>none
 | .load t x=>if(P.info? t).isSome∧(P.underlying t).isSome then(if eK P t then some (.rT (P.cellsOf t) x)else some (.aw x))else none
 | .store t x v=>if(P.info? t).isSome∧P.cellsOf t≠0 then some (.store (P.cellsOf t) x v)else none
 | .nilCheck x=>some (.nilCheck x)
 | .binOp op t x y _=>
  match op with
  | .eql| .neq=>
   match P.underlying t,y with
   |some (.interface _),.const .nilIface=>some (.Ul (match op with| .neq=>true|_=>false) x)
   |_,_=>(shapeOf P eJ t).bind fun s=>if VN s=true∨P.eqGuardType P.depth t=false then some (.sG op s x y)else none
  |_=>some (.sG op .int x y)
 | .unOp op _ x=>some (.un op x)
 | .convert src dst x=>
  match P.underlying src,P.underlying dst with
  |some (.int _),some (.int k)=>some (.conv k x)
  |some (.slice e),some .string=>(match P.underlying e with|some (.int .u8)=>some (.OF x)|_=>none)
  |some .string,some (.slice e)=>(match P.underlying e with|some (.int .u8)=>some (.Jf e x)|_=>none)
  |_,_=>none
 | .makeInterface t x=>match P.underlying t with|some (.interface _)=>none|some _=>some (.iface t x)|none=>none
 | .makeFunc fn first captured=>some (.func fn first.toList captured.toList)
 | .makeMap t none=>some .Ox
 | .makeSlice t n c=>
  match P.underlying t with
  |some (.slice e)=>(fj P e).bind fun z=>if(P.info? e).isSome∧P.cellsOf e≠0∧(aF z).length=P.cellsOf e then some (.makeSlice e (P.bytesOf e) (P.cellsOf e) (aF z) n c)else none
  |_=>none
 | .slice t x lo hi mx=>
  match P.underlying t with
  |some (.slice e)=>if(P.info? e).isSome∧(mx.isNone∨hi.isSome)then some (.slice (P.cellsOf e) x lo hi mx)else none
  |some .string=>if mx.isNone then some (.Jg x lo hi)else none
  |_=>none
 | .fieldAddr s x f=>
  match P.underlying s with
  |some (.struct fields)=>(fields[f]?).bind fun fd=>if(P.info? fd.type).isSome∧P.cellsOf fd.type≠0 then some (.fieldAddr fd.offset x)else none
  |_=>none
 | .field t x f=>
  match P.underlying t with
  |some (.struct fields)=>(fields[f]?).bind fun fd=>if(P.info? fd.type).isSome∧(P.underlying fd.type).isSome then some (.field fd.offset (if eK P fd.type then some (P.cellsOf fd.type)else none) x)else none
  |_=>none
 | .indexAddr t x i=>
  match P.underlying t with
  |some (.slice e)=>if(P.info? e).isSome then some (.indexAddr (P.cellsOf e) x i)else none
  |some (.array n e)=>if(P.info? e).isSome then some (.zN n (P.cellsOf e) x i)else none
  |_=>none
 | .index t x i=>match P.underlying t with|some .string=>some (.Jh x i)|_=>none
 | .lookup t x i ok=>
  match P.underlying t with
  |some (.map k e)=>(ck P k).bind fun s=>(fj P e).map fun z=>.lookup s z ok x i
  |_=>none
 | .mapUpdate t m k v=>match P.underlying t with|some (.map kt _)=>(ck P kt).map fun s=>.update s m k v|_=>none
 | .extract x i=>some (.extract i x)
 | .typeAssert x _ T false=>(match P.underlying T with|some (.interface _)=>none|some _=>some (.Ji T x)|none=>none)
 | .call c=>
  match c.callee with
  | .value (.func f)=>if dv P f then some (.call f c.args.toList)else some (.ext f c.args.toList)
  | .value x=>some (.dyn x c.args.toList)
  | .invoke r name=>some (.invoke r name c.args.toList)
  | .builtin .len=>
   match c.args.toList,(c.argTypes[0]?).bind P.underlying with
   | [x],some (.slice _)=>some (.DU x)
   | [x],some .string=>some (.Uf x)
   | [x],some (.map _ _)=>some (.Ug x)
   |_,_=>none
  | .builtin .append=>
   match c.args.toList,(c.argTypes[0]?).bind P.underlying,(c.argTypes[1]?).bind P.underlying with
   | [x,y],some (.slice e),some d=>(fj P e).bind fun z=>
    if(P.info? e).isSome∧P.cellsOf e≠0∧(aF z).length=P.cellsOf e∧P.bytesOf e≠0∧Fh d=true then
     some (.append e (P.cellsOf e) (P.bytesOf e) (aF z) x y)else none
   |_,_,_=>none
  | .builtin .delete=>
   match c.args.toList,(c.argTypes[0]?).bind P.underlying with
   | [m,k],some (.map kt _)=>(ck P kt).map fun s=>.delete s m k
   |_,_=>none
  | .builtin .clear=>
   match c.args.toList,(c.argTypes[0]?).bind P.underlying with
   | [x],some (.slice e)=>(fj P e).bind fun z=>if(aF z).length≠0 then some (.MW (aF z) x)else none
   |_,_=>none
  | .builtin .min=>some (.Uj c.args.toList)
  | .builtin .max=>some (.Uk c.args.toList)
  |_=>none
 |_=>none
def KU:Value→List Value→Option Value
 |v,[]=>some v
 |v,u::r=>match v,u with
  | .int k a,.int _ b=>KU (.int k (if b<a then b else a)) r
  |_,_=>none
def adB(l:List Value):Option Value:=match l with| []=>none|v::r=>KU v r
def KV:Value→List Value→Option Value
 |v,[]=>some v
 |v,u::r=>match v,u with
  | .int k a,.int _ b=>KV (.int k (if b>a then b else a)) r
  |_,_=>none
def adC(l:List Value):Option Value:=match l with| []=>none|v::r=>KV v r
@[go_sem] theorem aar(v:Value)(r:List Value):adB (v::r)=KU v r:=(rfl)
@[go_sem] theorem adD(v:Value):KU v []=some v:=(rfl)
@[go_sem] theorem aas(k k':IntKind)(a b:Int)(r:List Value):KU (.int k a) (.int k' b::r)=KU (.int k (if b<a then b else a)) r:=(rfl)
@[go_sem] theorem aat(v:Value)(r:List Value):adC (v::r)=KV v r:=(rfl)
@[go_sem] theorem adE(v:Value):KV v []=some v:=(rfl)
@[go_sem] theorem aau(k k':IntKind)(a b:Int)(r:List Value):KV (.int k a) (.int k' b::r)=KV (.int k (if b>a then b else a)) r:=(rfl)
def oA(ev:Ev)(x:Option Operand)(d:Nat)(F:Int→Prop):Prop:=
 match x with
 |none=>F d
 |some x=>aA (ev x) fun v=>BZ v F
@[go_sem ↓] theorem WJ(ev:Ev)(d:Nat)(F:Int→Prop):oA ev none d F=F d:=(rfl)
@[go_sem ↓] theorem WK(ev:Ev)(x:Operand)(d:Nat)(F:Int→Prop):oA ev (some x) d F=aA (ev x) fun v=>BZ v F:=(rfl)
def K7(H:Hp)(r:Option Nat)(F:Nat→Prop):Prop:=
 match r with
 |none=>F 0
 |some b=>aA (H.mp b) fun m=>F m.1.length
@[go_sem ↓] theorem Zl(H:Hp)(b:Nat)(F:Nat→Prop):K7 H (some b) F=aA (H.mp b) fun m=>F m.1.length:=(rfl)
def gH(ok:Bool)(z:Value)(x:Option Value):Value:=
 bif ok then(match x with|some v=>.tuple [v,.bool true].toArray|none=>.tuple [z,.bool false].toArray)else x.getD z
@[go_sem] theorem Rq(z v:Value):gH true z (some v)= .tuple [v,.bool true].toArray:=(rfl)
@[go_sem] theorem Rr(z:Value):gH true z none= .tuple [z,.bool false].toArray:=(rfl)
@[go_sem] theorem VO(z v:Value):gH false z (some v)=v:=(rfl)
@[go_sem] theorem VP(z:Value):gH false z none=z:=(rfl)
def GO:Value→Bool
 | .pointer (some _)=>true
 | .iface .. =>true
 | .func (.func _) _ _=>true
 |_=>false
@[go_sem] theorem aav(a:Addr):GO (.pointer (some a))=true:=(rfl)
@[go_sem] theorem WL(t:TypeId)(v:Value):GO (.iface t v)=true:=(rfl)
@[go_sem] theorem Zm(f:FuncId)(a b:Array Value):GO (.func (.func f) a b)=true:=(rfl)
def PR(P:Program)(v:Value):Prop:=
 GO v=true∨∃name t u cap,v= .func (.method name) #[.iface t u] cap∧∀w,(nilAhead (P.types.size+Made.depth) t u name).run P w= .ok (some false) w
@[go_sem] theorem adF(P:Program)(a:Addr):PR P (.pointer (some a))=True:=eq_true (.inl rfl)
@[go_sem] theorem Zn(P:Program)(t:TypeId)(v:Value):PR P (.iface t v)=True:=eq_true (.inl rfl)
@[go_sem] theorem aaw(P:Program)(f:FuncId)(a b:Array Value):PR P (.func (.func f) a b)=True:=eq_true (.inl rfl)
def de.vc(P:Program)(ev:Ev)(H:Hp)(K:Value→Hp→Prop):de→Prop
 | .ay x=>aA (ev x) fun v=>K v H
 | .pick c a b=>aA (ev c) fun cv=>zO cv fun t=>aA (bif t then ev a else ev b) fun v=>K v H
 | .box T x=>aA (ev x) fun v=>now (H.new T (aF v)) fun H'=>K (.pointer (some ⟨H.size,0,none⟩)) H'
 | .zero T l=>now (H.new T l) fun H'=>K (.pointer (some ⟨H.size,0,none⟩)) H'
 | .build z ps=>zP ev z ps fun l=>now l fun l=>K (.agg l.toArray) H
 | .lit T n z ps=>zP ev z ps fun l=>now (H.new T l) fun H'=>K (.slice (some ⟨H.size,0,none⟩) n n) H'
 | .aw x=>aA (ev x) fun p=>vH p fun b o=>aA (H.rd b) fun l=>aA l[o]? fun v=>K v H
 | .rT n x=>aA (ev x) fun p=>vH p fun b o=>aA (H.rd b) fun l=>dW (o+n≤l.length) (K (.agg ((l.drop o).take n).toArray) H)
 | .store n x v=>aA (ev x) fun p=>vH p fun b o=>aA (ev v) fun v=>aA (DW (H.own b) (H.nX b)) fun l=>
   dW ((aF v).length=n) (dW (rM (aF v)=true) (dW (o+n≤l.length) (now (H.wr b (aY l o (aF v))) fun H'=>K undef H')))
 | .nilCheck x=>aA (ev x) fun v=>dW (PR P v) (K v H)
 | .sG op s x y=>aA (ev x) fun a=>aA (ev y) fun b=>aA (cj op s a b) fun v=>K v H
 | .un op x=>aA (ev x) fun a=>aA (unF op a) fun v=>K v H
 | .conv k x=>aA (ev x) fun a=>BZ a fun n=>K (.int k (k.wrap n)) H
 | .iface T x=>aA (ev x) fun v=>K (.iface T v) H
 | .func fn first captured=>M9 ev first fun l=>M9 ev captured fun c=>K (.func fn l.toArray c.toArray) H
 | .Ox=>K (.map (some H.size)) H.fh
 | .makeSlice T bytes size z n c=>aA (ev n) fun nv=>aA (ev c) fun cv=>BZ nv fun n=>BZ cv fun c=>
   dW (0≤n∧n≤c∧c≤2^48∧bytes*c≤2^48) (now (H.new T (ce z c.toNat)) fun H'=>K (.slice (some ⟨H.size,0,none⟩) n.toNat c.toNat) H')
 | .slice size x lo hi mx=>aA (ev x) fun v=>oz v fun a n c=>oA ev mx c fun m=>oA ev hi n fun h=>oA ev lo 0 fun l=>
   dW (0≤l∧l≤h∧h≤m∧m≤c) (K (.slice (if m=l then a else a.map (·.add (l.toNat*size))) (h.toNat - l.toNat) (m.toNat - l.toNat)) H)
 | .Jg x lo hi=>aA (ev x) fun v=>ix v fun s=>oA ev hi s.size fun h=>oA ev lo 0 fun l=>
   dW (0≤l∧l≤h∧h≤s.size) (K (.string (s.extract l.toNat h.toNat)) H)
 | .fieldAddr off x=>aA (ev x) fun p=>vH p fun b o=>K (.pointer (some ⟨b,o+off,none⟩)) H
 | .field off agg x=>aA (ev x) fun v=>PL v fun l=>aA (uM l off agg) fun v=>K v H
 | .indexAddr size x i=>aA (ev x) fun v=>aA (ev i) fun iv=>oz v fun a n _=>BZ iv fun i=>dW (0≤i∧i<n) (rU a fun b o=>K (.pointer (some ⟨b,o+i.toNat*size,none⟩)) H)
 | .zN aO size x i=>aA (ev x) fun p=>aA (ev i) fun iv=>vH p fun b o=>BZ iv fun i=>dW (0≤i∧i<aO) (K (.pointer (some ⟨b,o+i.toNat*size,none⟩)) H)
 | .Jh x i=>aA (ev x) fun v=>aA (ev i) fun iv=>ix v fun s=>BZ iv fun i=>dW (0≤i) (aA (s[i.toNat]?) fun b=>K (.int .u8 b.toNat) H)
 | .lookup s z ok m k=>aA (ev m) fun mv=>aA (ev k) fun kv=>B0 mv fun r=>dW (Br s kv=true) (xm H s r kv fun x=>K (gH ok z x) H)
 | .update s m k v=>aA (ev m) fun mv=>aA (ev k) fun kv=>aA (ev v) fun vv=>B0 mv fun r=>aA r fun b=>dW (Br s kv=true) (R3 H s b kv vv fun H'=>K undef H')
 | .extract i x=>aA (ev x) fun v=>PJ v fun l=>aA l[i]? fun v=>K v H
 | .call f args=>M9 ev args fun vs=>af P f vs H K
 | .dyn f args=>aA (ev f) fun fv=>M9 ev args fun vs=>Xj P fv vs H K
 | .invoke r name args=>aA (ev r) fun rv=>M9 ev args fun vs=>gw P rv name vs H K
 | .DU x=>aA (ev x) fun v=>oz v fun _ n _=>K (.int .i64 n) H
 | .Uf x=>aA (ev x) fun v=>ix v fun s=>K (.int .i64 s.size) H
 | .Ug x=>aA (ev x) fun v=>B0 v fun r=>K7 H r fun n=>K (.int .i64 n) H
 | .append T size bytes z x y=>aA (ev x) fun xv=>aA (ev y) fun yv=>eM T size bytes z xv yv H K
 | .delete s m k=>aA (ev m) fun mv=>aA (ev k) fun kv=>B0 mv fun r=>aA r fun b=>dW (Br s kv=true) (Xy H s b kv fun H'=>K (.tuple [].toArray) H')
 | .MW z x=>aA (ev x) fun v=>oz v fun a n _=>Zj H z a n fun H'=>K (.tuple [].toArray) H'
 | .Uj args=>M9 ev args fun vs=>aA (adB vs) fun v=>K v H
 | .Uk args=>M9 ev args fun vs=>aA (adC vs) fun v=>K v H
 | .Ji T x=>aA (ev x) fun v=>vp T v fun u=>K u H
 | .Ul neg x=>aA (ev x) fun v=>Na v fun b=>K (.bool (Ow neg b)) H
 | .OF x=>aA (ev x) fun v=>tK H v fun l=>K (.string ⟨l.toArray⟩) H
 | .Jf T x=>aA (ev x) fun v=>ix v fun s=>TN T s H K
 | .ext f args=>M9 ev args fun vs=>ahM P f vs H K
attribute [go_sem ↓] de.vc
section
variable {P : Program} {o : Oper} {a : Act} {ev : Ev} {H : Hp} {K : Value → Hp → Prop}
def dS(P:Program)(o:Oper)(a:Act)(H:Hp)(K:Value→Hp→Prop):Prop:=∃v,(∀w,(execOp a.eval o).run P w= .ok (.value v) w)∧K v H
theorem dS.aff(h:dS P o a H K):dR P o a H K:=by
 obtain⟨v,h1,h2⟩:=h
 exact fun w hw=>.inl ⟨v,w,h1 w,bW.refl w,hw▸h2⟩
theorem ak{t:TypeId}{d:TypeDesc}(h:P.underlying t=some d)(w:World):(underlying t).run P w= .ok d w:=run_underlying h w
theorem dX{t:TypeId}{i:TypeInfo}(h:P.info? t=some i)(w:World):(typeInfo t).run P w= .ok i w:=by simp[typeInfo,h]
theorem bD{t:TypeId}(h:(P.info? t).isSome=true)(w:World):(sizeOf t).run P w= .ok (P.cellsOf t) w:=by
 obtain⟨i,hi⟩:=Option.isSome_iff_exists.1 h
 simp[sizeOf,dX hi,Program.cellsOf,hi]
theorem cF{t:TypeId}{z:Value}(h:fj P t=some z)(w:World):(zeroValue t).run P w= .ok z w:=by
 unfold fj at h
 cases hi:P.info? t with
 |none=>rw[hi]at h;cases h
 |some i=>rw[hi]at h;simp only[Option.bind_some]at h;simp[zeroValue,dX hi,h]
theorem zw{t:TypeId}(h:(P.underlying t).isSome=true)(w:World):(isAgg t).run P w= .ok (eK P t) w:=by
 obtain⟨d,hd⟩:=Option.isSome_iff_exists.1 h
 unfold isAgg eK
 simp only[Sem.run_bind,ak hd,Result.andThen_ok,hd]
 cases d<;>rfl
theorem DQ(t:TypeId)(v:Value)(w:World):(newVar t v).run P w= .ok ⟨w.heap.size,0,none⟩ {w with heap:=Hp.new w.heap t (aF v)}:=by
 simp only[newVar,newRow,Sem.run_bind,run_newObj,Result.andThen_ok,Sem.run_pure,Hp.new,←eo,ap5]
theorem jS(t:TypeId)(c:Array Value)(w:World):(newRow t c).run P w= .ok ⟨w.heap.size,0,none⟩ {w with heap:=Hp.new w.heap t c.toList}:=by
 simp only[newRow,Sem.run_bind,run_newObj,Result.andThen_ok,Sem.run_pure,Hp.new,ap5]
theorem iz{t:TypeId}{w:World}{b o:Nat}{l:List Value}(hi:(P.info? t).isSome=true)(hu:(P.underlying t).isSome=true)(h:Hp.rd w.heap b=some l):
  (eK P t=true→o+P.cellsOf t≤l.length→(loadVar t ⟨b,o,none⟩).run P w= .ok (.agg ((l.drop o).take (P.cellsOf t)).toArray) w)∧
  (eK P t=false→∀v,l[o]? =some v→(loadVar t ⟨b,o,none⟩).run P w= .ok v w):=by
 refine⟨fun ha hn=>?_,fun ha v hv=>?_⟩
 ·simp[loadVar,zw hu,ha,bD hi,pk (P:=P) (a:=⟨b,o,none⟩) rfl h hn]
 ·have hc:w.cell? ⟨b,o,none⟩=some v:=(fK rfl h).trans hv
  simp[loadVar,zw hu,ha,hc]
theorem Iu{t:TypeId}{w:World}{b o:Nat}{l:List Value}{v:Value}(hi:(P.info? t).isSome=true)(h0:P.cellsOf t≠0)(h:DW (Hp.own w.heap b) (Hp.nX w.heap b)=some l)
  (hl:(aF v).length=P.cellsOf t)(h1:fE (aF v))(hn:o+P.cellsOf t≤l.length):
  ∃w',(storeVar t ⟨b,o,none⟩ v).run P w= .ok () w'∧bW w w'∧w'.heap=Hp.wr w.heap b (aY l o (aF v)):=by
 obtain⟨w',hr,hs,hk,_⟩:=gN (P:=P) (b:=b) (o:=o) (aF v) 0 w l h (by omega) h1
 refine⟨w',?_,hs,hk (fun e=>by rw[e]at hl;exact h0 hl.symm)⟩
 have e:v.cells.size=P.cellsOf t:=by rw[←hl,←eo];simp
 simp only[storeVar,Sem.run_bind,bD hi,Result.andThen_ok,e,ne_eq,not_true_eq_false,if_false,eo]
 exact hr
end
end Go.Vc

set_option linter.unusedSimpArgs false
namespace Go.Vc
section
variable {P : Program} {o : Oper} {a : Act} {ev : Ev} {H : Hp} {K : Value → Hp → Prop}
theorem dW.out{c F:Prop}(h:dW c F):c∧F:=h
theorem xQ{v:Value}{F:Bool→Prop}(h:zO v F):∃b,v= .bool b∧F b:=by
 unfold zO at h;split at h
 ·exact⟨_,rfl,h⟩
 ·exact h.elim
theorem vC{l:List Value}{t:TypeId}{off:Nat}{v:Value}(hi:(P.info? t).isSome=true)(hu:(P.underlying t).isSome=true)
  (h:uM l off (if eK P t then some (P.cellsOf t)else none)=some v)(w:World):(part t l.toArray off).run P w= .ok v w:=by
 unfold part
 simp only[Sem.run_bind,zw hu,Result.andThen_ok]
 cases hb:eK P t
 ·rw[hb]at h
  simp only[apJ,if_false,uM]at h ⊢
  simp[h]
 ·rw[hb]at h
  simp only[if_true,uM]at h ⊢
  split at h
  ·injection h with h
   subst h
   simp only[Sem.run_bind,bD hi,Result.andThen_ok,Sem.run_pure]
   congr 2
   apply Array.ext'
   simp[List.take_drop]
  ·cases h
theorem info_of_underlying{t:TypeId}(h:(P.underlying t).isSome=true):(P.info? t).isSome=true:=by
 unfold Program.underlying at h
 cases hi:P.info? t with
 |none=>rw[hi]at h;simp at h
 |some i=>rfl
theorem MA(m:Nat){t:TypeId}{s:Shape}{x y:Value}{b:Bool}{d:Nat}(ht:shapeOf P d t=some s)(hs:∀fs,s≠ .s fs)(h:bq s x y=some b)(w:World):
  (Op.equalIn (m+1) t x y).run P w= .ok b w:=by
 cases d with
 |zero=>simp[shapeOf]at ht
 |succ d=>
  rw[fX]at ht
  split at ht
  case h_9=>
   split at ht
   ·cases ht
   ·rename_i fs hu hp
    cases Ua:eY P d fs.toList with
    |none=>rw[Ua]at ht;cases ht
    |some l=>rw[Ua]at ht;injection ht with ht;exact absurd ht.symm (hs l)
  case h_10=>cases ht
  all_goals(injection ht with ht;subst ht)
  all_goals(unfold bq at h;split at h<;>rename_i hu<;>first| (cases hu;done)| (cases h;done)|skip)
  all_goals(try(split at h<;>first| (cases h;done)|skip))
  all_goals(injection h with h;subst h)
  all_goals(simp only[Op.equalIn,Sem.run_bind,ak ‹P.underlying t=_›,Result.andThen_ok])
  all_goals first|rfl| (rw[if_pos (by assumption)];rfl)| (simp[*,beq_toListBytes];done)| (simp_all;done)|skip
theorem BM:∀ (d:Nat),
  (∀ (t:TypeId) (s:Shape) (x y:Value) (b:Bool),shapeOf P d t=some s→qu s x y=some b→∀ (m:Nat) (w:World),(Op.equalIn (m+d) t x y).run P w= .ok b w)∧
  (∀ (fs:List Field) (l:List (Nat×Option Nat×Shape)) (xs ys:List Value) (b:Bool),eY P d fs=some l→Ey l xs ys=some b→
   ∀ (m:Nat) (w:World),(Op.eqFields (m+d) xs.toArray ys.toArray fs).run P w= .ok b w):=by
 intro d
 induction d with
 |zero=>
  refine⟨fun t s x y b ht=>(by simp[shapeOf]at ht),fun fs l xs ys b hl h m w=>?_⟩
  cases fs with
  |nil=>simp only[BL,aoz]at hl;subst hl;simp only[Ey,aoz]at h;subst h;rfl
  |cons f fs=>simp[oY,shapeOf]at hl
 |succ d ih=>
  have first:∀ (t:TypeId) (s:Shape) (x y:Value) (b:Bool),shapeOf P (d+1) t=some s→qu s x y=some b→∀ (m:Nat) (w:World),(Op.equalIn (m+(d+1)) t x y).run P w= .ok b w:=by
   intro t s x y b ht h m w
   by_cases hs:∃fs,s= .s fs
   ·obtain⟨l,rfl⟩:=hs
    cases x with
    |agg xs=>
     cases y with
     |agg ys=>
      simp only[qu]at h
      rw[fX]at ht
      split at ht
      case h_9=>
       split at ht
       ·cases ht
       ·rename_i fs hu hp
        cases Ua:eY P d fs.toList with
        |none=>rw[Ua]at ht;cases ht
        |some l'=>
         rw[Ua]at ht
         simp only[Option.map_some,aoz,Shape.s.injEq]at ht
         subst ht
         have hf:P.fieldsOf t=fs:=by simp[Program.fieldsOf,hu]
         rw[show m+(d+1)=(m+d)+1 by omega,run_equalIn_struct w (m+d) t xs ys (by rw[hf];exact hu) (by simpa using hp),hf]
         have:=(ih.2 fs.toList l' xs.toList ys.toList b Ua h m w)
         simpa using this
      all_goals cases ht
     |_=>simp[qu,bq]at h
    |_=>cases y<;>simp[qu,bq]at h
   ·have h':bq s x y=some b:=by
     cases s<;>first|exact h| (exact absurd ⟨_,rfl⟩ hs)
    exact MA (m+d) ht (fun fs e=>hs ⟨fs,e⟩) h' w
  refine⟨first,fun fs=>?_⟩
  induction fs with
  |nil=>intro l xs ys b hl h m w;simp only[BL,aoz]at hl;subst hl;simp only[Ey,aoz]at h;subst h;rfl
  |cons f fs ihf=>
   intro l xs ys b hl h m w
   rw[oY]at hl
   split at hl
   ·cases hl
   ·rename_i TO
    split at hl
    ·cases hl
    ·rename_i sh zb
     cases hr:eY P (d+1) fs with
     |none=>rw[hr]at hl;cases hl
     |some l'=>
      rw[hr]at hl
      simp only[Option.map_some,aoz]at hl
      subst hl
      unfold Ey at h
      split at h
      ·cases h
      ·rename_i x hx
       split at h
       ·cases h
       ·rename_i y hy
        have hu:(P.underlying f.type).isSome=true:=by
         rw[fX]at zb
         split at zb<;>first| (cases zb;done)|simp_all
        have hi:=info_of_underlying hu
        simp only[Op.eqFields,TO,ne_eq,not_false_eq_true,if_true,Sem.run_bind,vC hi hu hx,vC hi hu hy,Result.andThen_ok]
        split at h
        ·rename_i he
         rw[first f.type sh x y true zb he m w]
         simpa using ihf l' xs ys b hr h m w
        ·rename_i he
         injection h with h
         subst h
         rw[first f.type sh x y false zb he m w]
         simp
        ·cases h
end
end Go.Vc

namespace Go.Vc
section
variable {P : Program} {o : Oper} {a : Act} {ev : Ev} {H : Hp} {K : Value → Hp → Prop}
abbrev bK(ev:Ev)(a:Act):Prop:=∀x v,ev x=some v→a.eval x=v
theorem aT{x:Operand}{F:Value→Prop}(bz:bK ev a)(h:aA (ev x) F):F (a.eval x):=by
 obtain⟨v,hv,h⟩:=az h
 rw[bz x v hv];exact h
theorem KY{x:Operand}(bz:bK ev a)(ho:o.op= .move x∨o.op= .assign x)(h:(de.ay x).vc P ev H K):dS P o a H K:=by
 have h:=aT bz h
 refine⟨_,fun w=>?_,h⟩
 rcases ho with ho|ho<;>simp[execOp,ho]
theorem PE{c x y:Operand}(bz:bK ev a)(ho:o.op= .pick c x y)(h:(de.pick c x y).vc P ev H K):dS P o a H K:=by
 obtain⟨b,hb,h⟩:=xQ (aT bz h)
 have h2:aA (ev (bif b then x else y)) fun v=>K v H:=by cases b<;>exact h
 have h:=aT bz h2
 refine⟨_,fun w=>?_,h⟩
 simp only[execOp,ho,hb,asBool]
 cases b<;>simp
theorem Ha{x:Operand}(bz:bK ev a)(ho:o.op= .nilCheck x)(h:(de.nilCheck x).vc P ev H K):dS P o a H K:=by
 obtain⟨hn,h⟩:=(aT bz h).out
 refine⟨_,fun w=>?_,h⟩
 simp only[execOp,ho]
 rcases hn with hn| ⟨name,t,u,cap,hv,hn⟩
 ·revert hn
  generalize a.eval x=v
  cases v with
  |pointer q=>cases q<;>simp[GO]
  |func fn x y=>cases fn<;>simp[GO]
  |_=>simp[GO]
 ·rw[hv]
  have hz:(#[Value.iface t u]:Array Value)[0]? =some (.iface t u):=rfl
  simp[hz,hn w]
theorem Um{op:UnOp}{t:TypeId}{x:Operand}(bz:bK ev a)(ho:o.op= .unOp op t x)(h:(de.un op x).vc P ev H K):dS P o a H K:=by
 obtain⟨v,hv,h⟩:=az (aT bz h)
 refine⟨v,fun w=>?_,h⟩
 simp only[execOp,ho]
 revert hv
 generalize a.eval x=u
 intro hv
 unfold unF at hv
 split at hv<;>first| (cases hv;done)|skip
 all_goals(injection hv with hv;subst hv;simp[Op.unary,Op.intArith,Op.intBits])
theorem PG{s t:TypeId}{k k':IntKind}{x:Operand}(bz:bK ev a)(ho:o.op= .convert s t x)(hs:P.underlying s=some (.int k'))(ht:P.underlying t=some (.int k))
  (h:(de.conv k x).vc P ev H K):dS P o a H K:=by
 obtain⟨k1,n,hn,h⟩:=gX (aT bz h)
 refine⟨_,fun w=>?_,h⟩
 simp only[execOp,ho,convert,hn,Sem.run_bind,ak hs,ak ht,Result.andThen_ok,Conv.intToInt]
 rfl
theorem TP{t:TypeId}{ms:Array (String×TypeId)}(hu:P.underlying t=some (.interface ms))(v:Value)(b:Bool)(hv:(v= .nilIface∧b=true)∨∃t' u,v= .iface t' u∧b=false)(w:World):(Op.equal t v .nilIface).run P w= .ok b w:=by
 have h:∀m:Nat,(Op.equalIn (m+1) t v .nilIface).run P w= .ok b w:=fun m=>by
  rcases hv with ⟨rfl,rfl⟩| ⟨t',u,rfl,rfl⟩<;>simp only[Op.equalIn,Sem.run_bind,ak hu,Result.andThen_ok]<;>rfl
 exact h 9999
theorem IE{op:BinOp}{neg:Bool}{t t':TypeId}{ms:Array (String×TypeId)}{x:Operand}(bz:bK ev a)(ho:o.op= .binOp op t x (.const .nilIface) t')(hu:P.underlying t=some (.interface ms))
  (BQ:(op= .eql∧neg=false)∨(op= .neq∧neg=true))(h:(de.Ul neg x).vc P ev H K):dS P o a H K:=by
 obtain⟨b,hv,h⟩:∃b,((a.eval x= .nilIface∧b=true)∨∃t' u,a.eval x= .iface t' u∧b=false)∧K (.bool (Ow neg b)) H:=by
  rcases IH (aT bz h)with ⟨e,h⟩| ⟨t',u,e,h⟩
  ·exact⟨true,.inl ⟨e,rfl⟩,h⟩
  ·exact⟨false,.inr ⟨t',u,e,rfl⟩,h⟩
 refine⟨_,fun w=>?_,h⟩
 have hr:=TP (P:=P) hu (a.eval x) b hv w
 have hc:a.eval (.const .nilIface)= .nilIface:=rfl
 simp only[execOp,ho,Sem.run_bind,hc]
 generalize a.eval x=u at hv hr ⊢
 have hg:(eqGuard op t x (.const .nilIface) u .nilIface).run P w= .ok () w:=by
  unfold eqGuard
  rcases BQ with ⟨rfl,_⟩| ⟨rfl,_⟩<;>rcases hv with ⟨rfl,_⟩| ⟨t',u',rfl,_⟩<;>simp
 rw[hg]
 simp only[Result.andThen_ok]
 rcases BQ with ⟨rfl,rfl⟩| ⟨rfl,rfl⟩<;>rcases hv with ⟨rfl,rfl⟩| ⟨t',u',rfl,rfl⟩<;>simp[binOp,hr,Ow]
theorem K6{s t:TypeId}{d:TypeDesc}{x:Operand}(bz:bK ev a)(ho:o.op= .typeAssert x s t false)(hs:P.underlying t=some d)(hd:∀ms,d≠ .interface ms)
  (h:(de.Ji t x).vc P ev H K):dS P o a H K:=by
 obtain⟨u,hx,h⟩:=zQ (aT bz h)
 refine⟨_,fun w=>?_,h⟩
 simp only[execOp,ho,hx,Instr.typeAssert,Sem.run_bind,ak hs,Result.andThen_ok]
 cases d<;>first| (exact absurd rfl (hd _))|simp
theorem M6{t:TypeId}{d:TypeDesc}{x:Operand}(bz:bK ev a)(ho:o.op= .makeInterface t x)(hs:P.underlying t=some d)(hd:∀ms,d≠ .interface ms)
  (h:(de.iface t x).vc P ev H K):dS P o a H K:=by
 have h:=aT bz h
 refine⟨_,fun w=>?_,h⟩
 simp only[execOp,ho,Instr.makeInterface,Sem.run_bind,ak hs,Result.andThen_ok]
 cases d<;>first| (exact absurd rfl (hd _))|simp
theorem PH{fn:Fn}{first captured:Array Operand}(bz:bK ev a)(ho:o.op= .makeFunc fn first captured)(h:(de.func fn first.toList captured.toList).vc P ev H K):dS P o a H K:=by
 have h:=jQ bz (jQ bz h)
 refine⟨_,fun w=>?_,h⟩
 simp only[execOp,ho,Instr.makeFunc,Sem.run_bind,Sem.run_pure,Result.andThen_ok]
 congr 3
 ·apply Array.ext';simp
 ·apply Array.ext';simp
theorem rN{c:Bool}{m:Sem Unit}{w:World}(h:m.run P w= .ok () w):(if(!c)=true then(pure ():Sem Unit)else m).run P w= .ok () w:=by
 cases c
 ·rfl
 ·simpa using h
theorem vj{op:BinOp}{t:TypeId}{s:Shape}{x y:Operand}{u v:Value}{b:Bool}(h:qu s u v=some b)(hg:VN s=true∨P.eqGuardType P.depth t=false)(w:World):
  (eqGuard op t x y u v).run P w= .ok () w:=by
 unfold eqGuard
 refine rN ?_
 cases u with
 |nilIface=>
  cases v with
  |nilIface=>cases s<;>simp[qu,bq]at h
  |_=>rfl
 |agg xs=>
  cases v with
  |agg ys=>
   rcases hg with hg|hg
   ·cases s<;>simp_all[qu,bq,VN]
   ·simp[hg]
  |_=>rfl
 |_=>cases v<;>rfl
theorem GP{t:TypeId}{s:Shape}{u v:Value}{b:Bool}(hs:shapeOf P eJ t=some s)(h:qu s u v=some b)(hu:∀k n,u≠ .int k n∨∀k' m,v≠ .int k' m)
  (ma:∀x,u≠ .string x∨∀y,v≠ .string y)(w:World):
  (binOp .eql t u v).run P w= .ok (.bool b) w∧(binOp .neq t u v).run P w= .ok (.bool (!b)) w:=by
 have he:(Op.equal t u v).run P w= .ok b w:=by
  unfold Op.equal Op.maxDepth
  have:=(BM (P:=P) eJ).1 t s u v b hs h (10000 - eJ) w
  simpa[eJ]using this
 have aQ:∀ {op},op=BinOp.eql∨op=BinOp.neq→binOp op t u v=(if op=BinOp.eql then(do pure (.bool (←Op.equal t u v)))else(do pure (.bool (!(←Op.equal t u v))))):=by
  intro op BQ
  cases u<;>cases v<;>rcases BQ with rfl|rfl<;>first
   |rfl
   | (rcases hu _ _ with h1|h1<;>first|exact absurd rfl h1|exact absurd rfl (h1 _ _))
   | (rcases ma _ with h1|h1<;>first|exact absurd rfl h1|exact absurd rfl (h1 _))
   | (cases s<;>simp[qu,bq]at h)
 rw[aQ (.inl rfl),aQ (.inr rfl)]
 simp[he]
def TQ(op:BinOp)(s:Shape)(u z:Value):Option Value:=match op with| .eql=>(qu s u z).map .bool| .neq=>(qu s u z).map fun b=>.bool (!b)|_=>none
theorem Q2{op:BinOp}{s:Shape}{u z:Value}(h1:∀k n,u≠ .int k n∨∀k' m,z≠ .int k' m)(h2:∀p,u≠ .string p∨∀q,z≠ .string q):cj op s u z=TQ op s u z:=by
 unfold cj TQ
 split
 ·rcases h1 _ _ with h|h<;>first|exact absurd rfl h|exact absurd rfl (h _ _)
 ·rcases h2 _ with h|h<;>first|exact absurd rfl h|exact absurd rfl (h _)
 ·rfl
theorem Fj{op:BinOp}{t t':TypeId}{s:Shape}{x y:Operand}(bz:bK ev a)(ho:o.op= .binOp op t x y t')
  (hs:(op= .eql∨op= .neq)→shapeOf P eJ t=some s∧(VN s=true∨P.eqGuardType P.depth t=false))
  (h:(de.sG op s x y).vc P ev H K):dS P o a H K:=by
 obtain⟨v,hv,h⟩:=az (aT bz (aT bz h))
 refine⟨v,fun w=>?_,h⟩
 simp only[execOp,ho,Sem.run_bind]
 generalize hx:a.eval x=u at hv ⊢
 generalize hy:a.eval y=z at hv ⊢
 have hint:∀k n k' m,u= .int k n→z= .int k' m→(eqGuard op t x y u z).run P w= .ok () w∧(binOp op t u z).run P w= .ok v w:=by
  intro k n k' m e1 e2
  subst e1;subst e2
  refine⟨rN rfl,?_⟩
  ·unfold cj at hv
   by_cases hk:k=k'
   ·subst hk
    cases op<;>simp only[binOp,Op.shift,Op.intArith,Op.intDiv,Op.intBits,Op.intCmp]at hv ⊢ <;>simp at hv ⊢ <;>first
     | (subst hv;rfl)
     | (split at hv<;>first| (cases hv;done)| (injection hv with hv;subst hv;rename_i hc;simp[hc];done)|skip)
     | (obtain⟨h1,rfl⟩:=hv;simp[show¬m<0 by omega])
     | (obtain⟨h1,rfl⟩:=hv;simp[h1])
     |skip
   ·cases op<;>simp[hk]at hv<;>simp only[binOp,Op.shift]<;>first
     | (obtain⟨h1,rfl⟩:=hv;simp[show¬m<0 by omega])
     |skip
 have ahN:∀p q,u= .string p→z= .string q→(eqGuard op t x y u z).run P w= .ok () w∧(binOp op t u z).run P w= .ok v w:=by
  intro p q e1 e2
  subst e1;subst e2
  refine⟨rN rfl,?_⟩
  ·unfold cj at hv
   cases op<;>simp only[binOp,Op.stringOp]at hv ⊢ <;>simp at hv ⊢ <;>first
    | (subst hv;rfl)
    | (obtain⟨h1,rfl⟩:=hv;simp[show¬ (9223372036854775807:Int)< (p.size:Int)+q.size by omega])
    | (obtain⟨h1,rfl⟩:=hv;rw[if_neg (by omega)])
    | (cases hv;done)
    |skip
 have adG:(∀k n,u≠ .int k n∨∀k' m,z≠ .int k' m)→(∀p,u≠ .string p∨∀q,z≠ .string q)→(eqGuard op t x y u z).run P w= .ok () w∧(binOp op t u z).run P w= .ok v w:=by
  intro h1 h2
  have hb:=Q2 (op:=op) (s:=s) h1 h2
  rw[hb]at hv
  cases op<;>simp only[TQ]at hv<;>first| (cases hv;done)|skip
  ·obtain⟨et,ME⟩:=hs (.inl rfl)
   cases he:qu s u z with
   |none=>rw[he]at hv;cases hv
   |some b=>rw[he]at hv;injection hv with hv;subst hv;exact⟨vj he ME w,(GP et he h1 h2 w).1⟩
  ·obtain⟨et,ME⟩:=hs (.inr rfl)
   cases he:qu s u z with
   |none=>rw[he]at hv;cases hv
   |some b=>rw[he]at hv;injection hv with hv;subst hv;exact⟨vj he ME w,(GP et he h1 h2 w).2⟩
 have key:(eqGuard op t x y u z).run P w= .ok () w∧(binOp op t u z).run P w= .ok v w:=by
  by_cases h1:∃k n k' m,u= .int k n∧z= .int k' m
  ·obtain⟨k,n,k',m,e1,e2⟩:=h1;exact hint k n k' m e1 e2
  ·by_cases h2:∃p q,u= .string p∧z= .string q
   ·obtain⟨p,q,e1,e2⟩:=h2;exact ahN p q e1 e2
   ·refine adG (fun k n=>?_) (fun p=>?_)
    ·by_cases e:u= .int k n
     ·exact .inr fun k' m e'=>h1 ⟨k,n,k',m,e,e'⟩
     ·exact .inl e
    ·by_cases e:u= .string p
     ·exact .inr fun q e'=>h2 ⟨p,q,e,e'⟩
     ·exact .inl e
 simp[key.1,key.2]
end
end Go.Vc

namespace Go.Vc
section
variable {P : Program} {o : Oper} {a : Act} {ev : Ev} {H : Hp} {K : Value → Hp → Prop}
theorem Jj{i:Nat}{x:Operand}(bz:bK ev a)(ho:o.op= .extract x i)(h:(de.extract i x).vc P ev H K):dS P o a H K:=by
 obtain⟨vs,hv,h⟩:=IF (aT bz h)
 obtain⟨v,hi,h⟩:=az h
 refine⟨v,fun w=>?_,h⟩
 have hi':vs[i]? =some v:=by simpa using hi
 simp[execOp,ho,hv,Instr.extract,hi']
theorem Fl{t:TypeId}{f:Nat}{x:Operand}{fields:Array Field}{fd:Field}(bz:bK ev a)(ho:o.op= .fieldAddr t x f)(ht:P.underlying t=some (.struct fields))
  (hf:fields[f]? =some fd)(hi:(P.info? fd.type).isSome=true)(h0:P.cellsOf fd.type≠0)(h:(de.fieldAddr fd.offset x).vc P ev H K):dS P o a H K:=by
 obtain⟨b,off,hv,h⟩:=eZ (aT bz h)
 refine⟨_,fun w=>?_,h⟩
 simp[execOp,ho,hv,Instr.fieldAt,ak ht,hf,Instr.sureAddr,fieldPlace,bD hi,h0,xN]
theorem M8{t:TypeId}{f:Nat}{x:Operand}{fields:Array Field}{fd:Field}(bz:bK ev a)(ho:o.op= .field t x f)(ht:P.underlying t=some (.struct fields))
  (hf:fields[f]? =some fd)(hi:(P.info? fd.type).isSome=true)(hu:(P.underlying fd.type).isSome=true)
  (h:(de.field fd.offset (if eK P fd.type then some (P.cellsOf fd.type)else none) x).vc P ev H K):dS P o a H K:=by
 obtain⟨vs,hv,h⟩:=IG (aT bz h)
 obtain⟨v,hp,h⟩:=az h
 refine⟨v,fun w=>?_,h⟩
 have:=vC hi hu hp w
 simp only[ap5]at this
 simp[execOp,ho,hv,Instr.field,ak ht,hf,asAgg,this]
theorem Fm{t e:TypeId}{x i:Operand}(bz:bK ev a)(ho:o.op= .indexAddr t x i)(ht:P.underlying t=some (.slice e))(hi:(P.info? e).isSome=true)
  (h:(de.indexAddr (P.cellsOf e) x i).vc P ev H K):dS P o a H K:=by
 obtain⟨ad,n,c,hx,h⟩:=gW (aT bz (aT bz h))
 obtain⟨k,j,hj,h⟩:=gX h
 obtain⟨hb,h⟩:=h.out
 obtain⟨b,off,rfl,h⟩:=mF h
 refine⟨_,fun w=>?_,h⟩
 simp[execOp,ho,hx,hj,Instr.indexAt,ak ht,asIntOf,hb.1,hb.2,bD hi,xN]
theorem Hb{t e:TypeId}{n:Nat}{x i:Operand}(bz:bK ev a)(ho:o.op= .indexAddr t x i)(ht:P.underlying t=some (.array n e))(hi:(P.info? e).isSome=true)
  (h:(de.zN n (P.cellsOf e) x i).vc P ev H K):dS P o a H K:=by
 obtain⟨b,off,hx,h⟩:=eZ (aT bz (aT bz h))
 obtain⟨k,j,hj,h⟩:=gX h
 obtain⟨hb,h⟩:=h.out
 refine⟨_,fun w=>?_,h⟩
 simp[execOp,ho,hx,hj,Instr.indexAt,ak ht,asIntOf,hb.1,hb.2,bD hi,xN,Instr.sureAddr]
theorem K5{t:TypeId}{x i:Operand}(bz:bK ev a)(ho:o.op= .index t x i)(ht:P.underlying t=some .string)
  (h:(de.Jh x i).vc P ev H K):dS P o a H K:=by
 obtain⟨s,hx,h⟩:=me (aT bz (aT bz h))
 obtain⟨k,j,hj,h⟩:=gX h
 obtain⟨h0,h⟩:=h.out
 obtain⟨b,hb,h⟩:=az h
 refine⟨_,fun w=>?_,h⟩
 simp[execOp,ho,hx,hj,Instr.index,ak ht,asIntOf,h0,hb]
theorem kT{x:Option Operand}{d:Nat}{F:Int→Prop}(bz:bK ev a)(h:oA ev x d F):
  ∃n,F n∧((x=none∧n=d)∨∃y k,x=some y∧a.eval y= .int k n):=by
 cases x with
 |none=>exact⟨d,h,.inl ⟨rfl,rfl⟩⟩
 |some y=>
  obtain⟨k,n,hy,h⟩:=gX (aT bz h)
  exact⟨n,h,.inr ⟨y,k,rfl,hy⟩⟩
theorem fY{k:IntKind}{i:Int}{y:Nat}{code:BoundsCode}(h0:0≤i)(h1:i≤y)(w:World):(Instr.sliceBound (.int k i) y code).run P w= .ok i.toNat w:=by
 simp[Instr.sliceBound,asIntOf,h0,h1]
theorem GQ{isS:Bool}{n c:Nat}{lo hi mx:Option Operand}{l h m:Int}(hl:(lo=none∧l=0)∨∃y k,lo=some y∧a.eval y= .int k l)
  (hh:(hi=none∧h=n)∨∃y k,hi=some y∧a.eval y= .int k h)(hm:(mx=none∧m=c)∨∃y k,mx=some y∧a.eval y= .int k m)
  (h3:mx.isSome=true→hi.isSome=true)(hb:0≤l∧l≤h∧h≤m∧m≤c)(w:World):
  (Instr.sliceBounds isS n c (lo.map a.eval) (hi.map a.eval) (mx.map a.eval)).run P w= .ok (l.toNat,h.toNat,m.toNat) w:=by
 obtain⟨h1,h2,h4,h5⟩:=hb
 unfold Instr.sliceBounds
 rcases hm with ⟨rfl,rfl⟩| ⟨ym,km,rfl,em⟩
 ·rcases hh with ⟨rfl,rfl⟩| ⟨yh,kh,rfl,eh⟩<;>rcases hl with ⟨rfl,rfl⟩| ⟨yl,kl,rfl,el⟩<;>
   simp only[Option.map_none,Option.map_some,Option.isSome_none,Sem.run_bind,Sem.run_pure,Result.andThen_ok, *]
  ·rfl
  ·rw[fY h1 (by omega)];rfl
  ·rw[fY (by omega) (by omega)];rfl
  ·rw[fY (by omega) (by omega)];simp only[Result.andThen_ok];rw[fY h1 (by omega)];rfl
 ·rcases hh with ⟨rfl,rfl⟩| ⟨yh,kh,rfl,eh⟩
  ·exact absurd (h3 rfl) (by simp)
  ·rcases hl with ⟨rfl,rfl⟩| ⟨yl,kl,rfl,el⟩<;>simp only[Option.map_none,Option.map_some,Option.isSome_some,Sem.run_bind,Sem.run_pure,Result.andThen_ok, *]
   ·rw[fY (by omega) (by omega)];simp only[Result.andThen_ok];rw[fY (by omega) (by omega)];rfl
   ·rw[fY (by omega) (by omega)];simp only[Result.andThen_ok];rw[fY (by omega) (by omega)];simp only[Result.andThen_ok];rw[fY h1 (by omega)];rfl
theorem M7{t e:TypeId}{x:Operand}{lo hi mx:Option Operand}(bz:bK ev a)(ho:o.op= .slice t x lo hi mx)(ht:P.underlying t=some (.slice e))(hie:(P.info? e).isSome=true)
  (h3:mx.isSome=true→hi.isSome=true)(h:(de.slice (P.cellsOf e) x lo hi mx).vc P ev H K):dS P o a H K:=by
 obtain⟨ad,n,c,hx,h⟩:=gW (aT bz h)
 obtain⟨m,h,hm⟩:=kT bz h
 obtain⟨hh,h,hhi⟩:=kT bz h
 obtain⟨l,h,hlo⟩:=kT bz h
 obtain⟨hb,h⟩:=h.out
 refine⟨_,fun w=>?_,h⟩
 have hr:=GQ (P:=P) (isS:=true) (n:=n) (c:=c) hlo hhi hm h3 hb w
 simp only[execOp,ho,Instr.sliceAt,Sem.run_bind,ak ht,Result.andThen_ok,Instr.slice,hx,hr,bD hie,Sem.run_pure]
 by_cases hml:m=l
 ·subst hml;simp
 ·rw[if_neg hml,if_neg (by omega)]
theorem K4{t:TypeId}{x:Operand}{lo hi:Option Operand}(bz:bK ev a)(ho:o.op= .slice t x lo hi none)(ht:P.underlying t=some .string)
  (h:(de.Jg x lo hi).vc P ev H K):dS P o a H K:=by
 obtain⟨s,hx,h⟩:=me (aT bz h)
 obtain⟨hh,h,hhi⟩:=kT bz h
 obtain⟨l,h,hlo⟩:=kT bz h
 obtain⟨hb,h⟩:=h.out
 refine⟨_,fun w=>?_,h⟩
 have hr:=GQ (P:=P) (isS:=false) (n:=s.size) (c:=s.size) (m:=s.size) (mx:=none) hlo hhi (.inl ⟨rfl,rfl⟩) (by simp) ⟨hb.1,hb.2.1,hb.2.2,aqr _⟩ w
 simp only[Option.map_none]at hr
 simp only[execOp,ho,Instr.sliceAt,Sem.run_bind,ak ht,Result.andThen_ok,Instr.slice,hx,hr,Sem.run_pure,Option.map_none,Option.isSome_none,apJ,if_false]
theorem Ks(vs:List Value):∀ (n off:Nat) (z:Array Value),((vs.zipIdx n).foldl (fun cs (c,j)=>cs.setIfInBounds (off+j) c) z).toList=aY z.toList (off+n) vs:=by
 induction vs with
 |nil=>intro n off z;rfl
 |cons v vs ih=>
  intro n off z
  rw[List.zipIdx_cons,List.foldl_cons,oq]
  have:=ih (n+1) off (z.setIfInBounds (off+n) v)
  rw[this]
  simp[aqE]
theorem fill_eq{place:Nat→Option (Nat×Nat)}:∀ (ps:List (Nat×Operand)) (qs:List (Nat×Nat×Operand)) (z:Array Value) (F:List Value→Prop),
  List.length ps=List.length qs→(∀ (j i:Nat) (x:Operand),ps[j]? =some (i,x)→∃off size:Nat,qs[j]? =some (off,size,x)∧place i=some (off,size)∧off+size≤z.size)→bK ev a→zP ev z.toList qs F→
   ∃z':Array Value,Instr.fill place z (ps.map fun(i,x)=>(i,a.eval x))=some z'∧F z'.toList:=by
 intro ps
 induction ps with
 |nil=>
  intro qs z F hl hp bz h
  cases qs with
  |nil=>exact⟨z,rfl,h⟩
  |cons q qs=>simp at hl
 |cons p ps ih=>
  intro qs z F hl hp bz h
  obtain⟨i,x⟩:=p
  cases qs with
  |nil=>simp at hl
  |cons q qs=>
   obtain⟨off,size,hq,MU,rS⟩:=hp 0 i x rfl
   simp only[ao2,aoz]at hq
   subst hq
   obtain⟨hn,h⟩:=(aT bz h).out
   have HG:(a.eval x).cells.size=size:=by rw[←hn,←eo];simp
   rw[apg,Instr.fill]
   simp only[MU,HG,ne_eq,not_true_eq_false,decide_false,aqF,ao0]
   rw[if_neg (by omega)]
   have WM:((a.eval x).cells.zipIdx.foldl (fun cs (c,j)=>cs.setIfInBounds (off+j) c) z).toList=aY z.toList off (aF (a.eval x)):=by
    have:=Ks (a.eval x).cells.toList 0 off z
    rw[eo]at this
    rw[←Array.foldl_toList,Array.toList_zipIdx,eo]
    simpa using this
   refine ih qs _ F (by simpa using hl) (fun j i' x' hj=>?_) bz (by rw[WM];exact h)
   obtain⟨ahP,adH,GV,ahQ,ahR⟩:=hp (j+1) i' x' (by simpa using hj)
   refine⟨ahP,adH,by simpa using GV,ahQ,?_⟩
   have:((a.eval x).cells.zipIdx.foldl (fun cs (c,j)=>cs.setIfInBounds (off+j) c) z).size=z.size:=by
    rw[←Array.length_toList,WM,fe,Array.length_toList]
   rw[this];exact ahR
end
end Go.Vc
