/-
  Texts put behind each other by a program: Dec, Snd, Pur, Pu2, Act.
-/
import Derived.Test.YtjlnnljohemifaaGreatK5
set_option linter.unusedVariables false
namespace Go.Vc
def cE(P:Program)(t:TypeId):Option Shape:=
 match P.underlying t with
 |some (.int _)=>some .int
 |some .string=>some .str
 |some .bool=>some .bool
 |some (.struct _)=>
  match shapeOf P fC t with
  |some (.s l)=>if l.all (fun(off,agg,sh)=>agg.isNone && nh sh)then some (.s l)else none
  |_=>none
 |_=>none
def UA:Shape→Bool| .s _=>false|_=>true
def Ha:TypeDesc→Bool| .slice _=>true| .string=>true|_=>false
def Jq(P:Program)(o:Oper):Option dc:=
 match o.op with
 | .move x=>some (.di x)
 | .assign x=>some (.di x)
 | .pick c a b=>some (.pick c a b)
 | .box T x=>some (.box T x)
 | .alloc T=>(gz P T).map fun z=>.zero T (aJ z)
 | .build t ps=>(gz P t).bind fun z=>(parts P t (aJ z).length ps.toList).map (.build (aJ z))
 | .buildSlice t n ps=>
  match P.underlying t with
  |some (.slice e)=>(gz P e).bind fun z=>
   if(P.info? e).isSome∧P.cellsOf e≠0∧(aJ z).length=P.cellsOf e∧n*P.cellsOf e≤2^24 then
    (ni (fun i=>some (i*P.cellsOf e,P.cellsOf e)) (n*P.cellsOf e) ps.toList).map (.lit e n (cQ (aJ z) n))
   else none
  |_=>none
 | .load t x=>if(P.info? t).isSome∧(P.underlying t).isSome then(if fB P t then some (.uR (P.cellsOf t) x)else some (.gC x))else none
 | .store t x v=>if(P.info? t).isSome∧P.cellsOf t≠0 then some (.store (P.cellsOf t) x v)else none
 | .nilCheck x=>some (.nilCheck x)
 | .binOp op t x y _=>
  match op with
  | .eql| .neq=>
   match P.underlying t,y with
   |some (.interface _),.const .nilIface=>some (.Uz (match op with| .neq=>true|_=>false) x)
   |_,_=>(shapeOf P fC t).bind fun s=>if UA s=true∨P.eqGuardType P.depth t=false then some (.aD op s x y)else none
  |_=>some (.aD op .int x y)
 | .unOp op _ x=>some (.un op x)
 | .convert src dst x=>
  match P.underlying src,P.underlying dst with
  |some (.int _),some (.int k)=>some (.conv k x)
  |some (.slice e),some .string=>(match P.underlying e with|some (.int .u8)=>some (.OY x)|_=>none)
  |some .string,some (.slice e)=>(match P.underlying e with|some (.int .u8)=>some (.Kt e x)|_=>none)
  |_,_=>none
 | .makeInterface t x=>match P.underlying t with|some (.interface _)=>none|some _=>some (.iface t x)|none=>none
 | .makeFunc fn first captured=>some (.func fn first.toList captured.toList)
 | .makeMap t none=>some .Ah
 | .makeSlice t n c=>
  match P.underlying t with
  |some (.slice e)=>(gz P e).bind fun z=>if(P.info? e).isSome∧P.cellsOf e≠0∧(aJ z).length=P.cellsOf e then some (.makeSlice e (P.bytesOf e) (P.cellsOf e) (aJ z) n c)else none
  |_=>none
 | .slice t x lo hi mx=>
  match P.underlying t with
  |some (.slice e)=>if(P.info? e).isSome∧(mx.isNone∨hi.isSome)then some (.slice (P.cellsOf e) x lo hi mx)else none
  |some .string=>if mx.isNone then some (.Kq x lo hi)else none
  |_=>none
 | .fieldAddr s x f=>
  match P.underlying s with
  |some (.struct fields)=>(fields[f]?).bind fun fd=>if(P.info? fd.type).isSome∧P.cellsOf fd.type≠0 then some (.fieldAddr fd.offset x)else none
  |_=>none
 | .field t x f=>
  match P.underlying t with
  |some (.struct fields)=>(fields[f]?).bind fun fd=>if(P.info? fd.type).isSome∧(P.underlying fd.type).isSome then some (.field fd.offset (if fB P fd.type then some (P.cellsOf fd.type)else none) x)else none
  |_=>none
 | .indexAddr t x i=>
  match P.underlying t with
  |some (.slice e)=>if(P.info? e).isSome then some (.indexAddr (P.cellsOf e) x i)else none
  |some (.array n e)=>if(P.info? e).isSome then some (.dB n (P.cellsOf e) x i)else none
  |_=>none
 | .index t x i=>match P.underlying t with|some .string=>some (.Ks x i)|_=>none
 | .lookup t x i ok=>
  match P.underlying t with
  |some (.map k e)=>(cE P k).bind fun s=>(gz P e).map fun z=>.lookup s z ok x i
  |_=>none
 | .mapUpdate t m k v=>match P.underlying t with|some (.map kt _)=>(cE P kt).map fun s=>.update s m k v|_=>none
 | .extract x i=>some (.extract i x)
 | .typeAssert x _ T false=>(match P.underlying T with|some (.interface _)=>none|some _=>some (.Ga T x)|none=>none)
 | .call c=>
  match c.callee with
  | .value (.func f)=>if eV P f then some (.call f c.args.toList)else some (.ext f c.args.toList)
  | .value x=>some (.dyn x c.args.toList)
  | .invoke r name=>some (.invoke r name c.args.toList)
  | .builtin .len=>
   match c.args.toList,(c.argTypes[0]?).bind P.underlying with
   | [x],some (.slice _)=>some (.bz x)
   | [x],some .string=>some (.Uw x)
   | [x],some (.map _ _)=>some (.Ux x)
   |_,_=>none
  | .builtin .append=>
   match c.args.toList,(c.argTypes[0]?).bind P.underlying,(c.argTypes[1]?).bind P.underlying with
   | [x,y],some (.slice e),some d=>(gz P e).bind fun z=>
    if(P.info? e).isSome∧P.cellsOf e≠0∧(aJ z).length=P.cellsOf e∧P.bytesOf e≠0∧Ha d=true then
     some (.append e (P.cellsOf e) (P.bytesOf e) (aJ z) x y)else none
   |_,_,_=>none
  | .builtin .delete=>
   match c.args.toList,(c.argTypes[0]?).bind P.underlying with
   | [m,k],some (.map kt _)=>(cE P kt).map fun s=>.delete s m k
   |_,_=>none
  | .builtin .clear=>
   match c.args.toList,(c.argTypes[0]?).bind P.underlying with
   | [x],some (.slice e)=>(gz P e).bind fun z=>if(aJ z).length≠0 then some (.JO (aJ z) x)else none
   |_,_=>none
  | .builtin .min=>some (.Uy c.args.toList)
  | .builtin .max=>some (.Pb c.args.toList)
  |_=>none
 |_=>none
def Ma:Value→List Value→Option Value
 |v,[]=>some v
 |v,u::r=>match v,u with
  | .int k a,.int _ b=>Ma (.int k (if b<a then b else a)) r
  |_,_=>none
def abf(l:List Value):Option Value:=match l with| []=>none|v::r=>Ma v r
def Mb:Value→List Value→Option Value
 |v,[]=>some v
 |v,u::r=>match v,u with
  | .int k a,.int _ b=>Mb (.int k (if b>a then b else a)) r
  |_,_=>none
def abg(l:List Value):Option Value:=match l with| []=>none|v::r=>Mb v r
@[go_sem] theorem YX(v:Value)(r:List Value):abf (v::r)=Ma v r:=(rfl)
@[go_sem] theorem abh(v:Value):Ma v []=some v:=(rfl)
@[go_sem] theorem YY(k k':IntKind)(a b:Int)(r:List Value):Ma (.int k a) (.int k' b::r)=Ma (.int k (if b<a then b else a)) r:=(rfl)
@[go_sem] theorem YZ(v:Value)(r:List Value):abg (v::r)=Mb v r:=(rfl)
@[go_sem] theorem abi(v:Value):Mb v []=some v:=(rfl)
@[go_sem] theorem Y0(k k':IntKind)(a b:Int)(r:List Value):Mb (.int k a) (.int k' b::r)=Mb (.int k (if b>a then b else a)) r:=(rfl)
def sr(ev:Ev)(x:Option Operand)(d:Nat)(F:Int→Prop):Prop:=
 match x with
 |none=>F d
 |some x=>aE (ev x) fun v=>Ep v F
@[go_sem ↓] theorem Vq(ev:Ev)(d:Nat)(F:Int→Prop):sr ev none d F=F d:=(rfl)
@[go_sem ↓] theorem Vr(ev:Ev)(x:Operand)(d:Nat)(F:Int→Prop):sr ev (some x) d F=aE (ev x) fun v=>Ep v F:=(rfl)
def Mc(H:Hp)(r:Option Nat)(F:Nat→Prop):Prop:=
 match r with
 |none=>F 0
 |some b=>aE (H.mp b) fun m=>F m.1.length
@[go_sem ↓] theorem Xs(H:Hp)(b:Nat)(F:Nat→Prop):Mc H (some b) F=aE (H.mp b) fun m=>F m.1.length:=(rfl)
def jp(ok:Bool)(z:Value)(x:Option Value):Value:=
 bif ok then(match x with|some v=>.tuple [v,.bool true].toArray|none=>.tuple [z,.bool false].toArray)else x.getD z
@[go_sem] theorem QU(z v:Value):jp true z (some v)= .tuple [v,.bool true].toArray:=(rfl)
@[go_sem] theorem QV(z:Value):jp true z none= .tuple [z,.bool false].toArray:=(rfl)
@[go_sem] theorem UB(z v:Value):jp false z (some v)=v:=(rfl)
@[go_sem] theorem UC(z:Value):jp false z none=z:=(rfl)
def Hb:Value→Bool
 | .pointer (some _)=>true
 | .iface .. =>true
 | .func (.func _) _ _=>true
 |_=>false
@[go_sem] theorem Y1(a:Addr):Hb (.pointer (some a))=true:=(rfl)
@[go_sem] theorem Vs(t:TypeId)(v:Value):Hb (.iface t v)=true:=(rfl)
@[go_sem] theorem Xt(f:FuncId)(a b:Array Value):Hb (.func (.func f) a b)=true:=(rfl)
def PA(P:Program)(v:Value):Prop:=
 Hb v=true∨∃name t u cap,v= .func (.method name) #[.iface t u] cap∧∀w,(nilAhead (P.types.size+Made.depth) t u name).run P w= .ok (some false) w
@[go_sem] theorem abj(P:Program)(a:Addr):PA P (.pointer (some a))=True:=eq_true (.inl rfl)
@[go_sem] theorem Xu(P:Program)(t:TypeId)(v:Value):PA P (.iface t v)=True:=eq_true (.inl rfl)
@[go_sem] theorem Y2(P:Program)(f:FuncId)(a b:Array Value):PA P (.func (.func f) a b)=True:=eq_true (.inl rfl)
def dc.vc(P:Program)(ev:Ev)(H:Hp)(K:Value→Hp→Prop):dc→Prop
 | .di x=>aE (ev x) fun v=>K v H
 | .pick c a b=>aE (ev c) fun cv=>CW cv fun t=>aE (bif t then ev a else ev b) fun v=>K v H
 | .box T x=>aE (ev x) fun v=>now (H.new T (aJ v)) fun H'=>K (.pointer (some ⟨H.size,0,none⟩)) H'
 | .zero T l=>now (H.new T l) fun H'=>K (.pointer (some ⟨H.size,0,none⟩)) H'
 | .build z ps=>CY ev z ps fun l=>now l fun l=>K (.agg l.toArray) H
 | .lit T n z ps=>CY ev z ps fun l=>now (H.new T l) fun H'=>K (.slice (some ⟨H.size,0,none⟩) n n) H'
 | .gC x=>aE (ev x) fun p=>zv p fun b o=>aE (H.rd b) fun l=>aE l[o]? fun v=>K v H
 | .uR n x=>aE (ev x) fun p=>zv p fun b o=>aE (H.rd b) fun l=>eC (o+n≤l.length) (K (.agg ((l.drop o).take n).toArray) H)
 | .store n x v=>aE (ev x) fun p=>zv p fun b o=>aE (ev v) fun v=>aE (Kg (H.own b) (H.C8 b)) fun l=>
   eC ((aJ v).length=n) (eC (uF (aJ v)=true) (eC (o+n≤l.length) (now (H.wr b (bq l o (aJ v))) fun H'=>K undef H')))
 | .nilCheck x=>aE (ev x) fun v=>eC (PA P v) (K v H)
 | .aD op s x y=>aE (ev x) fun a=>aE (ev y) fun b=>aE (cA op s a b) fun v=>K v H
 | .un op x=>aE (ev x) fun a=>aE (unF op a) fun v=>K v H
 | .conv k x=>aE (ev x) fun a=>Ep a fun n=>K (.int k (k.wrap n)) H
 | .iface T x=>aE (ev x) fun v=>K (.iface T v) H
 | .func fn first captured=>NQ ev first fun l=>NQ ev captured fun c=>K (.func fn l.toArray c.toArray) H
 | .Ah=>K (.map (some H.size)) H.fX
 | .makeSlice T bytes size z n c=>aE (ev n) fun nv=>aE (ev c) fun cv=>Ep nv fun n=>Ep cv fun c=>
   eC (0≤n∧n≤c∧c≤2^48∧bytes*c≤2^48) (now (H.new T (cQ z c.toNat)) fun H'=>K (.slice (some ⟨H.size,0,none⟩) n.toNat c.toNat) H')
 | .slice size x lo hi mx=>aE (ev x) fun v=>sm v fun a n c=>sr ev mx c fun m=>sr ev hi n fun h=>sr ev lo 0 fun l=>
   eC (0≤l∧l≤h∧h≤m∧m≤c) (K (.slice (if m=l then a else a.map (·.add (l.toNat*size))) (h.toNat - l.toNat) (m.toNat - l.toNat)) H)
 | .Kq x lo hi=>aE (ev x) fun v=>lU v fun s=>sr ev hi s.size fun h=>sr ev lo 0 fun l=>
   eC (0≤l∧l≤h∧h≤s.size) (K (.string (s.extract l.toNat h.toNat)) H)
 | .fieldAddr off x=>aE (ev x) fun p=>zv p fun b o=>K (.pointer (some ⟨b,o+off,none⟩)) H
 | .field off agg x=>aE (ev x) fun v=>Qm v fun l=>aE (xl l off agg) fun v=>K v H
 | .indexAddr size x i=>aE (ev x) fun v=>aE (ev i) fun iv=>sm v fun a n _=>Ep iv fun i=>eC (0≤i∧i<n) (xC a fun b o=>K (.pointer (some ⟨b,o+i.toNat*size,none⟩)) H)
 | .dB aX size x i=>aE (ev x) fun p=>aE (ev i) fun iv=>zv p fun b o=>Ep iv fun i=>eC (0≤i∧i<aX) (K (.pointer (some ⟨b,o+i.toNat*size,none⟩)) H)
 | .Ks x i=>aE (ev x) fun v=>aE (ev i) fun iv=>lU v fun s=>Ep iv fun i=>eC (0≤i) (aE (s[i.toNat]?) fun b=>K (.int .u8 b.toNat) H)
 | .lookup s z ok m k=>aE (ev m) fun mv=>aE (ev k) fun kv=>Er mv fun r=>eC (CI s kv=true) (zF H s r kv fun x=>K (jp ok z x) H)
 | .update s m k v=>aE (ev m) fun mv=>aE (ev k) fun kv=>aE (ev v) fun vv=>Er mv fun r=>aE r fun b=>eC (CI s kv=true) (Sb H s b kv vv fun H'=>K undef H')
 | .extract i x=>aE (ev x) fun v=>Ql v fun l=>aE l[i]? fun v=>K v H
 | .call f args=>NQ ev args fun vs=>ah P f vs H K
 | .dyn f args=>aE (ev f) fun fv=>NQ ev args fun vs=>Xq P fv vs H K
 | .invoke r name args=>aE (ev r) fun rv=>NQ ev args fun vs=>jf P rv name vs H K
 | .bz x=>aE (ev x) fun v=>sm v fun _ n _=>K (.int .i64 n) H
 | .Uw x=>aE (ev x) fun v=>lU v fun s=>K (.int .i64 s.size) H
 | .Ux x=>aE (ev x) fun v=>Er v fun r=>Mc H r fun n=>K (.int .i64 n) H
 | .append T size bytes z x y=>aE (ev x) fun xv=>aE (ev y) fun yv=>lI T size bytes z xv yv H K
 | .delete s m k=>aE (ev m) fun mv=>aE (ev k) fun kv=>Er mv fun r=>aE r fun b=>eC (CI s kv=true) (Xo H s b kv fun H'=>K (.tuple [].toArray) H')
 | .JO z x=>aE (ev x) fun v=>sm v fun a n _=>Xp H z a n fun H'=>K (.tuple [].toArray) H'
 | .Uy args=>NQ ev args fun vs=>aE (abf vs) fun v=>K v H
 | .Pb args=>NQ ev args fun vs=>aE (abg vs) fun v=>K v H
 | .Ga T x=>aE (ev x) fun v=>xY T v fun u=>K u H
 | .Uz neg x=>aE (ev x) fun v=>NR v fun b=>K (.bool (NS neg b)) H
 | .OY x=>aE (ev x) fun v=>xG H v fun l=>K (.string ⟨l.toArray⟩) H
 | .Kt T x=>aE (ev x) fun v=>lU v fun s=>SO T s H K
 | .ext f args=>NQ ev args fun vs=>Ui P f vs H K
attribute [go_sem ↓] dc.vc
section
variable {P : Program} {o : Oper} {a : Act} {ev : Ev} {H : Hp} {K : Value → Hp → Prop}
def dY(P:Program)(o:Oper)(a:Act)(H:Hp)(K:Value→Hp→Prop):Prop:=∃v,(∀w,(execOp a.eval o).run P w= .ok (.value v) w)∧K v H
theorem dY.afF(h:dY P o a H K):dV P o a H K:=by
 obtain⟨v,h1,h2⟩:=h
 exact fun w hw=>.inl ⟨v,w,h1 w,bZ.refl w,hw▸h2⟩
theorem ap{t:TypeId}{d:TypeDesc}(h:P.underlying t=some d)(w:World):(underlying t).run P w= .ok d w:=run_underlying h w
theorem et{t:TypeId}{i:TypeInfo}(h:P.info? t=some i)(w:World):(typeInfo t).run P w= .ok i w:=by simp[typeInfo,h]
theorem bL{t:TypeId}(h:(P.info? t).isSome=true)(w:World):(sizeOf t).run P w= .ok (P.cellsOf t) w:=by
 obtain⟨i,hi⟩:=Option.isSome_iff_exists.1 h
 simp[sizeOf,et hi,Program.cellsOf,hi]
theorem cO{t:TypeId}{z:Value}(h:gz P t=some z)(w:World):(zeroValue t).run P w= .ok z w:=by
 unfold gz at h
 cases hi:P.info? t with
 |none=>rw[hi]at h;cases h
 |some i=>rw[hi]at h;simp only[Option.bind_some]at h;simp[zeroValue,et hi,h]
theorem Be{t:TypeId}(h:(P.underlying t).isSome=true)(w:World):(isAgg t).run P w= .ok (fB P t) w:=by
 obtain⟨d,hd⟩:=Option.isSome_iff_exists.1 h
 unfold isAgg fB
 simp only[Sem.run_bind,ap hd,Result.andThen_ok,hd]
 cases d<;>rfl
theorem EM(t:TypeId)(v:Value)(w:World):(newVar t v).run P w= .ok ⟨w.heap.size,0,none⟩ {w with heap:=Hp.new w.heap t (aJ v)}:=by
 simp only[newVar,newRow,Sem.run_bind,run_newObj,Result.andThen_ok,Sem.run_pure,Hp.new,←eW,Array.toArray_toList]
theorem nT(t:TypeId)(c:Array Value)(w:World):(newRow t c).run P w= .ok ⟨w.heap.size,0,none⟩ {w with heap:=Hp.new w.heap t c.toList}:=by
 simp only[newRow,Sem.run_bind,run_newObj,Result.andThen_ok,Sem.run_pure,Hp.new,Array.toArray_toList]
theorem lV{t:TypeId}{w:World}{b o:Nat}{l:List Value}(hi:(P.info? t).isSome=true)(hu:(P.underlying t).isSome=true)(h:Hp.rd w.heap b=some l):
  (fB P t=true→o+P.cellsOf t≤l.length→(loadVar t ⟨b,o,none⟩).run P w= .ok (.agg ((l.drop o).take (P.cellsOf t)).toArray) w)∧
  (fB P t=false→∀v,l[o]? =some v→(loadVar t ⟨b,o,none⟩).run P w= .ok v w):=by
 refine⟨fun ha hn=>?_,fun ha v hv=>?_⟩
 ·simp[loadVar,Be hu,ha,bL hi,tA (P:=P) (a:=⟨b,o,none⟩) rfl h hn]
 ·have hc:w.cell? ⟨b,o,none⟩=some v:=(qf rfl h).trans hv
  simp[loadVar,Be hu,ha,hc]
theorem IQ{t:TypeId}{w:World}{b o:Nat}{l:List Value}{v:Value}(hi:(P.info? t).isSome=true)(h0:P.cellsOf t≠0)(h:Kg (Hp.own w.heap b) (Hp.C8 w.heap b)=some l)
  (hl:(aJ v).length=P.cellsOf t)(h1:jX (aJ v))(hn:o+P.cellsOf t≤l.length):
  ∃w',(storeVar t ⟨b,o,none⟩ v).run P w= .ok () w'∧bZ w w'∧w'.heap=Hp.wr w.heap b (bq l o (aJ v)):=by
 obtain⟨w',hr,hs,hk,_⟩:=jZ (P:=P) (b:=b) (o:=o) (aJ v) 0 w l h (by omega) h1
 refine⟨w',?_,hs,hk (fun e=>by rw[e]at hl;exact h0 hl.symm)⟩
 have e:v.cells.size=P.cellsOf t:=by rw[←hl,←eW];simp
 simp only[storeVar,Sem.run_bind,bL hi,Result.andThen_ok,e,ne_eq,not_true_eq_false,if_false,eW]
 exact hr
end
end Go.Vc

set_option linter.unusedSimpArgs false
namespace Go.Vc
section
variable {P : Program} {o : Oper} {a : Act} {ev : Ev} {H : Hp} {K : Value → Hp → Prop}
theorem eC.out{c F:Prop}(h:eC c F):c∧F:=h
theorem Bf{v:Value}{F:Bool→Prop}(h:CW v F):∃b,v= .bool b∧F b:=by
 unfold CW at h;split at h
 ·exact⟨_,rfl,h⟩
 ·exact h.elim
theorem xZ{l:List Value}{t:TypeId}{off:Nat}{v:Value}(hi:(P.info? t).isSome=true)(hu:(P.underlying t).isSome=true)
  (h:xl l off (if fB P t then some (P.cellsOf t)else none)=some v)(w:World):(part t l.toArray off).run P w= .ok v w:=by
 unfold part
 simp only[Sem.run_bind,Be hu,Result.andThen_ok]
 cases hb:fB P t
 ·rw[hb]at h
  simp only[Bool.false_eq_true,if_false,xl]at h ⊢
  simp[h]
 ·rw[hb]at h
  simp only[if_true,xl]at h ⊢
  split at h
  ·injection h with h
   subst h
   simp only[Sem.run_bind,bL hi,Result.andThen_ok,Sem.run_pure]
   congr 2
   apply Array.ext'
   simp[List.take_drop]
  ·cases h
theorem info_of_underlying{t:TypeId}(h:(P.underlying t).isSome=true):(P.info? t).isSome=true:=by
 unfold Program.underlying at h
 cases hi:P.info? t with
 |none=>rw[hi]at h;simp at h
 |some i=>rfl
theorem Md(m:Nat){t:TypeId}{s:Shape}{x y:Value}{b:Bool}{d:Nat}(ht:shapeOf P d t=some s)(hs:∀fs,s≠ .s fs)(h:bA s x y=some b)(w:World):
  (Op.equalIn (m+1) t x y).run P w= .ok b w:=by
 cases d with
 |zero=>simp[shapeOf]at ht
 |succ d=>
  rw[ik]at ht
  split at ht
  case h_9=>
   split at ht
   ·cases ht
   ·rename_i fs hu hp
    cases Y3:fH P d fs.toList with
    |none=>rw[Y3]at ht;cases ht
    |some l=>rw[Y3]at ht;injection ht with ht;exact absurd ht.symm (hs l)
  case h_10=>cases ht
  all_goals(injection ht with ht;subst ht)
  all_goals(unfold bA at h;split at h<;>rename_i hu<;>first| (cases hu;done)| (cases h;done)|skip)
  all_goals(try(split at h<;>first| (cases h;done)|skip))
  all_goals(injection h with h;subst h)
  all_goals(simp only[Op.equalIn,Sem.run_bind,ap ‹P.underlying t=_›,Result.andThen_ok])
  all_goals first|rfl| (rw[if_pos (by assumption)];rfl)| (simp[*,beq_toListBytes];done)| (simp_all;done)|skip
theorem C0:∀ (d:Nat),
  (∀ (t:TypeId) (s:Shape) (x y:Value) (b:Bool),shapeOf P d t=some s→tf s x y=some b→∀ (m:Nat) (w:World),(Op.equalIn (m+d) t x y).run P w= .ok b w)∧
  (∀ (fs:List Field) (l:List (Nat×Option Nat×Shape)) (xs ys:List Value) (b:Bool),fH P d fs=some l→Ct l xs ys=some b→
   ∀ (m:Nat) (w:World),(Op.eqFields (m+d) xs.toArray ys.toArray fs).run P w= .ok b w):=by
 intro d
 induction d with
 |zero=>
  refine⟨fun t s x y b ht=>(by simp[shapeOf]at ht),fun fs l xs ys b hl h m w=>?_⟩
  cases fs with
  |nil=>simp only[CX,Option.some.injEq]at hl;subst hl;simp only[Ct,Option.some.injEq]at h;subst h;rfl
  |cons f fs=>simp[sk,shapeOf]at hl
 |succ d ih=>
  have first:∀ (t:TypeId) (s:Shape) (x y:Value) (b:Bool),shapeOf P (d+1) t=some s→tf s x y=some b→∀ (m:Nat) (w:World),(Op.equalIn (m+(d+1)) t x y).run P w= .ok b w:=by
   intro t s x y b ht h m w
   by_cases hs:∃fs,s= .s fs
   ·obtain⟨l,rfl⟩:=hs
    cases x with
    |agg xs=>
     cases y with
     |agg ys=>
      simp only[tf]at h
      rw[ik]at ht
      split at ht
      case h_9=>
       split at ht
       ·cases ht
       ·rename_i fs hu hp
        cases Y3:fH P d fs.toList with
        |none=>rw[Y3]at ht;cases ht
        |some l'=>
         rw[Y3]at ht
         simp only[Option.map_some,Option.some.injEq,Shape.s.injEq]at ht
         subst ht
         have hf:P.fieldsOf t=fs:=by simp[Program.fieldsOf,hu]
         rw[show m+(d+1)=(m+d)+1 by omega,run_equalIn_struct w (m+d) t xs ys (by rw[hf];exact hu) (by simpa using hp),hf]
         have:=(ih.2 fs.toList l' xs.toList ys.toList b Y3 h m w)
         simpa using this
      all_goals cases ht
     |_=>simp[tf,bA]at h
    |_=>cases y<;>simp[tf,bA]at h
   ·have h':bA s x y=some b:=by
     cases s<;>first|exact h| (exact absurd ⟨_,rfl⟩ hs)
    exact Md (m+d) ht (fun fs e=>hs ⟨fs,e⟩) h' w
  refine⟨first,fun fs=>?_⟩
  induction fs with
  |nil=>intro l xs ys b hl h m w;simp only[CX,Option.some.injEq]at hl;subst hl;simp only[Ct,Option.some.injEq]at h;subst h;rfl
  |cons f fs ihf=>
   intro l xs ys b hl h m w
   rw[sk]at hl
   split at hl
   ·cases hl
   ·rename_i SP
    split at hl
    ·cases hl
    ·rename_i sh HB
     cases hr:fH P (d+1) fs with
     |none=>rw[hr]at hl;cases hl
     |some l'=>
      rw[hr]at hl
      simp only[Option.map_some,Option.some.injEq]at hl
      subst hl
      unfold Ct at h
      split at h
      ·cases h
      ·rename_i x hx
       split at h
       ·cases h
       ·rename_i y hy
        have hu:(P.underlying f.type).isSome=true:=by
         rw[ik]at HB
         split at HB<;>first| (cases HB;done)|simp_all
        have hi:=info_of_underlying hu
        simp only[Op.eqFields,SP,ne_eq,not_false_eq_true,if_true,Sem.run_bind,xZ hi hu hx,xZ hi hu hy,Result.andThen_ok]
        split at h
        ·rename_i he
         rw[first f.type sh x y true HB he m w]
         simpa using ihf l' xs ys b hr h m w
        ·rename_i he
         injection h with h
         subst h
         rw[first f.type sh x y false HB he m w]
         simp
        ·cases h
end
end Go.Vc

namespace Go.Vc
section
variable {P : Program} {o : Oper} {a : Act} {ev : Ev} {H : Hp} {K : Value → Hp → Prop}
abbrev bR(ev:Ev)(a:Act):Prop:=∀x v,ev x=some v→a.eval x=v
theorem ba{x:Operand}{F:Value→Prop}(bH:bR ev a)(h:aE (ev x) F):F (a.eval x):=by
 obtain⟨v,hv,h⟩:=aC h
 rw[bH x v hv];exact h
theorem Me{x:Operand}(bH:bR ev a)(ho:o.op= .move x∨o.op= .assign x)(h:(dc.di x).vc P ev H K):dY P o a H K:=by
 have h:=ba bH h
 refine⟨_,fun w=>?_,h⟩
 rcases ho with ho|ho<;>simp[execOp,ho]
theorem Qn{c x y:Operand}(bH:bR ev a)(ho:o.op= .pick c x y)(h:(dc.pick c x y).vc P ev H K):dY P o a H K:=by
 obtain⟨b,hb,h⟩:=Bf (ba bH h)
 have h2:aE (ev (bif b then x else y)) fun v=>K v H:=by cases b<;>exact h
 have h:=ba bH h2
 refine⟨_,fun w=>?_,h⟩
 simp only[execOp,ho,hb,asBool]
 cases b<;>simp
theorem IR{x:Operand}(bH:bR ev a)(ho:o.op= .nilCheck x)(h:(dc.nilCheck x).vc P ev H K):dY P o a H K:=by
 obtain⟨hn,h⟩:=(ba bH h).out
 refine⟨_,fun w=>?_,h⟩
 simp only[execOp,ho]
 rcases hn with hn| ⟨name,t,u,cap,hv,hn⟩
 ·revert hn
  generalize a.eval x=v
  cases v with
  |pointer q=>cases q<;>simp[Hb]
  |func fn x y=>cases fn<;>simp[Hb]
  |_=>simp[Hb]
 ·rw[hv]
  have hz:(#[Value.iface t u]:Array Value)[0]? =some (.iface t u):=rfl
  simp[hz,hn w]
theorem UD{op:UnOp}{t:TypeId}{x:Operand}(bH:bR ev a)(ho:o.op= .unOp op t x)(h:(dc.un op x).vc P ev H K):dY P o a H K:=by
 obtain⟨v,hv,h⟩:=aC (ba bH h)
 refine⟨v,fun w=>?_,h⟩
 simp only[execOp,ho]
 revert hv
 generalize a.eval x=u
 intro hv
 unfold unF at hv
 split at hv<;>first| (cases hv;done)|skip
 all_goals(injection hv with hv;subst hv;simp[Op.unary,Op.intArith,Op.intBits])
theorem Qo{s t:TypeId}{k k':IntKind}{x:Operand}(bH:bR ev a)(ho:o.op= .convert s t x)(hs:P.underlying s=some (.int k'))(ht:P.underlying t=some (.int k))
  (h:(dc.conv k x).vc P ev H K):dY P o a H K:=by
 obtain⟨k1,n,hn,h⟩:=kF (ba bH h)
 refine⟨_,fun w=>?_,h⟩
 simp only[execOp,ho,convert,hn,Sem.run_bind,ap hs,ap ht,Result.andThen_ok,Conv.intToInt]
 rfl
theorem SQ{t:TypeId}{ms:Array (String×TypeId)}(hu:P.underlying t=some (.interface ms))(v:Value)(b:Bool)(hv:(v= .nilIface∧b=true)∨∃t' u,v= .iface t' u∧b=false)(w:World):(Op.equal t v .nilIface).run P w= .ok b w:=by
 have h:∀m:Nat,(Op.equalIn (m+1) t v .nilIface).run P w= .ok b w:=fun m=>by
  rcases hv with ⟨rfl,rfl⟩| ⟨t',u,rfl,rfl⟩<;>simp only[Op.equalIn,Sem.run_bind,ap hu,Result.andThen_ok]<;>rfl
 exact h 9999
theorem Jr{op:BinOp}{neg:Bool}{t t':TypeId}{ms:Array (String×TypeId)}{x:Operand}(bH:bR ev a)(ho:o.op= .binOp op t x (.const .nilIface) t')(hu:P.underlying t=some (.interface ms))
  (C7:(op= .eql∧neg=false)∨(op= .neq∧neg=true))(h:(dc.Uz neg x).vc P ev H K):dY P o a H K:=by
 obtain⟨b,hv,h⟩:∃b,((a.eval x= .nilIface∧b=true)∨∃t' u,a.eval x= .iface t' u∧b=false)∧K (.bool (NS neg b)) H:=by
  rcases Jp (ba bH h)with ⟨e,h⟩| ⟨t',u,e,h⟩
  ·exact⟨true,.inl ⟨e,rfl⟩,h⟩
  ·exact⟨false,.inr ⟨t',u,e,rfl⟩,h⟩
 refine⟨_,fun w=>?_,h⟩
 have hr:=SQ (P:=P) hu (a.eval x) b hv w
 have hc:a.eval (.const .nilIface)= .nilIface:=rfl
 simp only[execOp,ho,Sem.run_bind,hc]
 generalize a.eval x=u at hv hr ⊢
 have hg:(eqGuard op t x (.const .nilIface) u .nilIface).run P w= .ok () w:=by
  unfold eqGuard
  rcases C7 with ⟨rfl,_⟩| ⟨rfl,_⟩<;>rcases hv with ⟨rfl,_⟩| ⟨t',u',rfl,_⟩<;>simp
 rw[hg]
 simp only[Result.andThen_ok]
 rcases C7 with ⟨rfl,rfl⟩| ⟨rfl,rfl⟩<;>rcases hv with ⟨rfl,rfl⟩| ⟨t',u',rfl,rfl⟩<;>simp[binOp,hr,NS]
theorem Mf{s t:TypeId}{d:TypeDesc}{x:Operand}(bH:bR ev a)(ho:o.op= .typeAssert x s t false)(hs:P.underlying t=some d)(hd:∀ms,d≠ .interface ms)
  (h:(dc.Ga t x).vc P ev H K):dY P o a H K:=by
 obtain⟨u,hx,h⟩:=CZ (ba bH h)
 refine⟨_,fun w=>?_,h⟩
 simp only[execOp,ho,hx,Instr.typeAssert,Sem.run_bind,ap hs,Result.andThen_ok]
 cases d<;>first| (exact absurd rfl (hd _))|simp
theorem NT{t:TypeId}{d:TypeDesc}{x:Operand}(bH:bR ev a)(ho:o.op= .makeInterface t x)(hs:P.underlying t=some d)(hd:∀ms,d≠ .interface ms)
  (h:(dc.iface t x).vc P ev H K):dY P o a H K:=by
 have h:=ba bH h
 refine⟨_,fun w=>?_,h⟩
 simp only[execOp,ho,Instr.makeInterface,Sem.run_bind,ap hs,Result.andThen_ok]
 cases d<;>first| (exact absurd rfl (hd _))|simp
theorem Qp{fn:Fn}{first captured:Array Operand}(bH:bR ev a)(ho:o.op= .makeFunc fn first captured)(h:(dc.func fn first.toList captured.toList).vc P ev H K):dY P o a H K:=by
 have h:=nS bH (nS bH h)
 refine⟨_,fun w=>?_,h⟩
 simp only[execOp,ho,Instr.makeFunc,Sem.run_bind,Sem.run_pure,Result.andThen_ok]
 congr 3
 ·apply Array.ext';simp
 ·apply Array.ext';simp
theorem uG{c:Bool}{m:Sem Unit}{w:World}(h:m.run P w= .ok () w):(if(!c)=true then(pure ():Sem Unit)else m).run P w= .ok () w:=by
 cases c
 ·rfl
 ·simpa using h
theorem xH{op:BinOp}{t:TypeId}{s:Shape}{x y:Operand}{u v:Value}{b:Bool}(h:tf s u v=some b)(hg:UA s=true∨P.eqGuardType P.depth t=false)(w:World):
  (eqGuard op t x y u v).run P w= .ok () w:=by
 unfold eqGuard
 refine uG ?_
 cases u with
 |nilIface=>
  cases v with
  |nilIface=>cases s<;>simp[tf,bA]at h
  |_=>rfl
 |agg xs=>
  cases v with
  |agg ys=>
   rcases hg with hg|hg
   ·cases s<;>simp_all[tf,bA,UA]
   ·simp[hg]
  |_=>rfl
 |_=>cases v<;>rfl
theorem Hc{t:TypeId}{s:Shape}{u v:Value}{b:Bool}(hs:shapeOf P fC t=some s)(h:tf s u v=some b)(hu:∀k n,u≠ .int k n∨∀k' m,v≠ .int k' m)
  (w8:∀x,u≠ .string x∨∀y,v≠ .string y)(w:World):
  (binOp .eql t u v).run P w= .ok (.bool b) w∧(binOp .neq t u v).run P w= .ok (.bool (!b)) w:=by
 have he:(Op.equal t u v).run P w= .ok b w:=by
  unfold Op.equal Op.maxDepth
  have:=(C0 (P:=P) fC).1 t s u v b hs h (10000 - fC) w
  simpa[fC]using this
 have aS:∀ {op},op=BinOp.eql∨op=BinOp.neq→binOp op t u v=(if op=BinOp.eql then(do pure (.bool (←Op.equal t u v)))else(do pure (.bool (!(←Op.equal t u v))))):=by
  intro op C7
  cases u<;>cases v<;>rcases C7 with rfl|rfl<;>first
   |rfl
   | (rcases hu _ _ with h1|h1<;>first|exact absurd rfl h1|exact absurd rfl (h1 _ _))
   | (rcases w8 _ with h1|h1<;>first|exact absurd rfl h1|exact absurd rfl (h1 _))
   | (cases s<;>simp[tf,bA]at h)
 rw[aS (.inl rfl),aS (.inr rfl)]
 simp[he]
def SR(op:BinOp)(s:Shape)(u z:Value):Option Value:=match op with| .eql=>(tf s u z).map .bool| .neq=>(tf s u z).map fun b=>.bool (!b)|_=>none
theorem Qq{op:BinOp}{s:Shape}{u z:Value}(h1:∀k n,u≠ .int k n∨∀k' m,z≠ .int k' m)(h2:∀p,u≠ .string p∨∀q,z≠ .string q):cA op s u z=SR op s u z:=by
 unfold cA SR
 split
 ·rcases h1 _ _ with h|h<;>first|exact absurd rfl h|exact absurd rfl (h _ _)
 ·rcases h2 _ with h|h<;>first|exact absurd rfl h|exact absurd rfl (h _)
 ·rfl
theorem Hd{op:BinOp}{t t':TypeId}{s:Shape}{x y:Operand}(bH:bR ev a)(ho:o.op= .binOp op t x y t')
  (hs:(op= .eql∨op= .neq)→shapeOf P fC t=some s∧(UA s=true∨P.eqGuardType P.depth t=false))
  (h:(dc.aD op s x y).vc P ev H K):dY P o a H K:=by
 obtain⟨v,hv,h⟩:=aC (ba bH (ba bH h))
 refine⟨v,fun w=>?_,h⟩
 simp only[execOp,ho,Sem.run_bind]
 generalize hx:a.eval x=u at hv ⊢
 generalize hy:a.eval y=z at hv ⊢
 have hint:∀k n k' m,u= .int k n→z= .int k' m→(eqGuard op t x y u z).run P w= .ok () w∧(binOp op t u z).run P w= .ok v w:=by
  intro k n k' m e1 e2
  subst e1;subst e2
  refine⟨uG rfl,?_⟩
  ·unfold cA at hv
   by_cases hk:k=k'
   ·subst hk
    cases op<;>simp only[binOp,Op.shift,Op.intArith,Op.intDiv,Op.intBits,Op.intCmp]at hv ⊢ <;>simp at hv ⊢ <;>first
     | (subst hv;rfl)
     | (split at hv<;>first| (cases hv;done)| (injection hv with hv;subst hv;rename_i hc;simp[hc];done)|skip)
     | (obtain⟨h1,rfl⟩:=hv;simp[show¬m<0 by omega])
     | (obtain⟨h1,rfl⟩:=hv;simp[h1])
     |skip
   ·cases op<;>simp[hk]at hv<;>simp only[binOp,Op.shift]<;>first
     | (obtain⟨h1,rfl⟩:=hv;simp[show¬m<0 by omega])
     |skip
 have afG:∀p q,u= .string p→z= .string q→(eqGuard op t x y u z).run P w= .ok () w∧(binOp op t u z).run P w= .ok v w:=by
  intro p q e1 e2
  subst e1;subst e2
  refine⟨uG rfl,?_⟩
  ·unfold cA at hv
   cases op<;>simp only[binOp,Op.stringOp]at hv ⊢ <;>simp at hv ⊢ <;>first
    | (subst hv;rfl)
    | (obtain⟨h1,rfl⟩:=hv;simp[show¬ (9223372036854775807:Int)< (p.size:Int)+q.size by omega])
    | (obtain⟨h1,rfl⟩:=hv;rw[if_neg (by omega)])
    | (cases hv;done)
    |skip
 have abk:(∀k n,u≠ .int k n∨∀k' m,z≠ .int k' m)→(∀p,u≠ .string p∨∀q,z≠ .string q)→(eqGuard op t x y u z).run P w= .ok () w∧(binOp op t u z).run P w= .ok v w:=by
  intro h1 h2
  have hb:=Qq (op:=op) (s:=s) h1 h2
  rw[hb]at hv
  cases op<;>simp only[SR]at hv<;>first| (cases hv;done)|skip
  ·obtain⟨fK,Ox⟩:=hs (.inl rfl)
   cases he:tf s u z with
   |none=>rw[he]at hv;cases hv
   |some b=>rw[he]at hv;injection hv with hv;subst hv;exact⟨xH he Ox w,(Hc fK he h1 h2 w).1⟩
  ·obtain⟨fK,Ox⟩:=hs (.inr rfl)
   cases he:tf s u z with
   |none=>rw[he]at hv;cases hv
   |some b=>rw[he]at hv;injection hv with hv;subst hv;exact⟨xH he Ox w,(Hc fK he h1 h2 w).2⟩
 have key:(eqGuard op t x y u z).run P w= .ok () w∧(binOp op t u z).run P w= .ok v w:=by
  by_cases h1:∃k n k' m,u= .int k n∧z= .int k' m
  ·obtain⟨k,n,k',m,e1,e2⟩:=h1;exact hint k n k' m e1 e2
  ·by_cases h2:∃p q,u= .string p∧z= .string q
   ·obtain⟨p,q,e1,e2⟩:=h2;exact afG p q e1 e2
   ·refine abk (fun k n=>?_) (fun p=>?_)
    ·by_cases e:u= .int k n
     ·exact .inr fun k' m e'=>h1 ⟨k,n,k',m,e,e'⟩
     ·exact .inl e
    ·by_cases e:u= .string p
     ·exact .inr fun q e'=>h2 ⟨p,q,e,e'⟩
     ·exact .inl e
 simp[key.1,key.2]
end
end Go.Vc

namespace Go.Vc
section
variable {P : Program} {o : Oper} {a : Act} {ev : Ev} {H : Hp} {K : Value → Hp → Prop}
theorem Kv{i:Nat}{x:Operand}(bH:bR ev a)(ho:o.op= .extract x i)(h:(dc.extract i x).vc P ev H K):dY P o a H K:=by
 obtain⟨vs,hv,h⟩:=Jn (ba bH h)
 obtain⟨v,hi,h⟩:=aC h
 refine⟨v,fun w=>?_,h⟩
 have hi':vs[i]? =some v:=by simpa using hi
 simp[execOp,ho,hv,Instr.extract,hi']
theorem He{t:TypeId}{f:Nat}{x:Operand}{fields:Array Field}{fd:Field}(bH:bR ev a)(ho:o.op= .fieldAddr t x f)(ht:P.underlying t=some (.struct fields))
  (hf:fields[f]? =some fd)(hi:(P.info? fd.type).isSome=true)(h0:P.cellsOf fd.type≠0)(h:(dc.fieldAddr fd.offset x).vc P ev H K):dY P o a H K:=by
 obtain⟨b,off,hv,h⟩:=fM (ba bH h)
 refine⟨_,fun w=>?_,h⟩
 simp[execOp,ho,hv,Instr.fieldAt,ap ht,hf,Instr.sureAddr,fieldPlace,bL hi,h0,AQ]
theorem NU{t:TypeId}{f:Nat}{x:Operand}{fields:Array Field}{fd:Field}(bH:bR ev a)(ho:o.op= .field t x f)(ht:P.underlying t=some (.struct fields))
  (hf:fields[f]? =some fd)(hi:(P.info? fd.type).isSome=true)(hu:(P.underlying fd.type).isSome=true)
  (h:(dc.field fd.offset (if fB P fd.type then some (P.cellsOf fd.type)else none) x).vc P ev H K):dY P o a H K:=by
 obtain⟨vs,hv,h⟩:=Jo (ba bH h)
 obtain⟨v,hp,h⟩:=aC h
 refine⟨v,fun w=>?_,h⟩
 have:=xZ hi hu hp w
 simp only[Array.toArray_toList]at this
 simp[execOp,ho,hv,Instr.field,ap ht,hf,asAgg,this]
theorem Hf{t e:TypeId}{x i:Operand}(bH:bR ev a)(ho:o.op= .indexAddr t x i)(ht:P.underlying t=some (.slice e))(hi:(P.info? e).isSome=true)
  (h:(dc.indexAddr (P.cellsOf e) x i).vc P ev H K):dY P o a H K:=by
 obtain⟨ad,n,c,hx,h⟩:=kG (ba bH (ba bH h))
 obtain⟨k,j,hj,h⟩:=kF h
 obtain⟨hb,h⟩:=h.out
 obtain⟨b,off,rfl,h⟩:=qF h
 refine⟨_,fun w=>?_,h⟩
 simp[execOp,ho,hx,hj,Instr.indexAt,ap ht,asIntOf,hb.1,hb.2,bL hi,AQ]
theorem IS{t e:TypeId}{n:Nat}{x i:Operand}(bH:bR ev a)(ho:o.op= .indexAddr t x i)(ht:P.underlying t=some (.array n e))(hi:(P.info? e).isSome=true)
  (h:(dc.dB n (P.cellsOf e) x i).vc P ev H K):dY P o a H K:=by
 obtain⟨b,off,hx,h⟩:=fM (ba bH (ba bH h))
 obtain⟨k,j,hj,h⟩:=kF h
 obtain⟨hb,h⟩:=h.out
 refine⟨_,fun w=>?_,h⟩
 simp[execOp,ho,hx,hj,Instr.indexAt,ap ht,asIntOf,hb.1,hb.2,bL hi,AQ,Instr.sureAddr]
theorem Mh{t:TypeId}{x i:Operand}(bH:bR ev a)(ho:o.op= .index t x i)(ht:P.underlying t=some .string)
  (h:(dc.Ks x i).vc P ev H K):dY P o a H K:=by
 obtain⟨s,hx,h⟩:=pH (ba bH (ba bH h))
 obtain⟨k,j,hj,h⟩:=kF h
 obtain⟨h0,h⟩:=h.out
 obtain⟨b,hb,h⟩:=aC h
 refine⟨_,fun w=>?_,h⟩
 simp[execOp,ho,hx,hj,Instr.index,ap ht,asIntOf,h0,hb]
theorem nU{x:Option Operand}{d:Nat}{F:Int→Prop}(bH:bR ev a)(h:sr ev x d F):
  ∃n,F n∧((x=none∧n=d)∨∃y k,x=some y∧a.eval y= .int k n):=by
 cases x with
 |none=>exact⟨d,h,.inl ⟨rfl,rfl⟩⟩
 |some y=>
  obtain⟨k,n,hy,h⟩:=kF (ba bH h)
  exact⟨n,h,.inr ⟨y,k,rfl,hy⟩⟩
theorem im{k:IntKind}{i:Int}{y:Nat}{code:BoundsCode}(h0:0≤i)(h1:i≤y)(w:World):(Instr.sliceBound (.int k i) y code).run P w= .ok i.toNat w:=by
 simp[Instr.sliceBound,asIntOf,h0,h1]
theorem Hg{isS:Bool}{n c:Nat}{lo hi mx:Option Operand}{l h m:Int}(hl:(lo=none∧l=0)∨∃y k,lo=some y∧a.eval y= .int k l)
  (hh:(hi=none∧h=n)∨∃y k,hi=some y∧a.eval y= .int k h)(hm:(mx=none∧m=c)∨∃y k,mx=some y∧a.eval y= .int k m)
  (h3:mx.isSome=true→hi.isSome=true)(hb:0≤l∧l≤h∧h≤m∧m≤c)(w:World):
  (Instr.sliceBounds isS n c (lo.map a.eval) (hi.map a.eval) (mx.map a.eval)).run P w= .ok (l.toNat,h.toNat,m.toNat) w:=by
 obtain⟨h1,h2,h4,h5⟩:=hb
 unfold Instr.sliceBounds
 rcases hm with ⟨rfl,rfl⟩| ⟨ym,km,rfl,em⟩
 ·rcases hh with ⟨rfl,rfl⟩| ⟨yh,kh,rfl,eh⟩<;>rcases hl with ⟨rfl,rfl⟩| ⟨yl,kl,rfl,el⟩<;>
   simp only[Option.map_none,Option.map_some,Option.isSome_none,Sem.run_bind,Sem.run_pure,Result.andThen_ok, *]
  ·rfl
  ·rw[im h1 (by omega)];rfl
  ·rw[im (by omega) (by omega)];rfl
  ·rw[im (by omega) (by omega)];simp only[Result.andThen_ok];rw[im h1 (by omega)];rfl
 ·rcases hh with ⟨rfl,rfl⟩| ⟨yh,kh,rfl,eh⟩
  ·exact absurd (h3 rfl) (by simp)
  ·rcases hl with ⟨rfl,rfl⟩| ⟨yl,kl,rfl,el⟩<;>simp only[Option.map_none,Option.map_some,Option.isSome_some,Sem.run_bind,Sem.run_pure,Result.andThen_ok, *]
   ·rw[im (by omega) (by omega)];simp only[Result.andThen_ok];rw[im (by omega) (by omega)];rfl
   ·rw[im (by omega) (by omega)];simp only[Result.andThen_ok];rw[im (by omega) (by omega)];simp only[Result.andThen_ok];rw[im h1 (by omega)];rfl
theorem NV{t e:TypeId}{x:Operand}{lo hi mx:Option Operand}(bH:bR ev a)(ho:o.op= .slice t x lo hi mx)(ht:P.underlying t=some (.slice e))(hie:(P.info? e).isSome=true)
  (h3:mx.isSome=true→hi.isSome=true)(h:(dc.slice (P.cellsOf e) x lo hi mx).vc P ev H K):dY P o a H K:=by
 obtain⟨ad,n,c,hx,h⟩:=kG (ba bH h)
 obtain⟨m,h,hm⟩:=nU bH h
 obtain⟨hh,h,hhi⟩:=nU bH h
 obtain⟨l,h,VU⟩:=nU bH h
 obtain⟨hb,h⟩:=h.out
 refine⟨_,fun w=>?_,h⟩
 have hr:=Hg (P:=P) (isS:=true) (n:=n) (c:=c) VU hhi hm h3 hb w
 simp only[execOp,ho,Instr.sliceAt,Sem.run_bind,ap ht,Result.andThen_ok,Instr.slice,hx,hr,bL hie,Sem.run_pure]
 by_cases hml:m=l
 ·subst hml;simp
 ·rw[if_neg hml,if_neg (by omega)]
theorem Mi{t:TypeId}{x:Operand}{lo hi:Option Operand}(bH:bR ev a)(ho:o.op= .slice t x lo hi none)(ht:P.underlying t=some .string)
  (h:(dc.Kq x lo hi).vc P ev H K):dY P o a H K:=by
 obtain⟨s,hx,h⟩:=pH (ba bH h)
 obtain⟨hh,h,hhi⟩:=nU bH h
 obtain⟨l,h,VU⟩:=nU bH h
 obtain⟨hb,h⟩:=h.out
 refine⟨_,fun w=>?_,h⟩
 have hr:=Hg (P:=P) (isS:=false) (n:=s.size) (c:=s.size) (m:=s.size) (mx:=none) VU hhi (.inl ⟨rfl,rfl⟩) (by simp) ⟨hb.1,hb.2.1,hb.2.2,Int.le_refl _⟩ w
 simp only[Option.map_none]at hr
 simp only[execOp,ho,Instr.sliceAt,Sem.run_bind,ap ht,Result.andThen_ok,Instr.slice,hx,hr,Sem.run_pure,Option.map_none,Option.isSome_none,Bool.false_eq_true,if_false]
theorem Kw(vs:List Value):∀ (n off:Nat) (z:Array Value),((vs.zipIdx n).foldl (fun cs (c,j)=>cs.setIfInBounds (off+j) c) z).toList=bq z.toList (off+n) vs:=by
 induction vs with
 |nil=>intro n off z;rfl
 |cons v vs ih=>
  intro n off z
  rw[List.zipIdx_cons,List.foldl_cons,re]
  have:=ih (n+1) off (z.setIfInBounds (off+n) v)
  rw[this]
  simp[Nat.add_assoc]
theorem fill_eq{place:Nat→Option (Nat×Nat)}:∀ (ps:List (Nat×Operand)) (qs:List (Nat×Nat×Operand)) (z:Array Value) (F:List Value→Prop),
  List.length ps=List.length qs→(∀ (j i:Nat) (x:Operand),ps[j]? =some (i,x)→∃off size:Nat,qs[j]? =some (off,size,x)∧place i=some (off,size)∧off+size≤z.size)→bR ev a→CY ev z.toList qs F→
   ∃z':Array Value,Instr.fill place z (ps.map fun(i,x)=>(i,a.eval x))=some z'∧F z'.toList:=by
 intro ps
 induction ps with
 |nil=>
  intro qs z F hl hp bH h
  cases qs with
  |nil=>exact⟨z,rfl,h⟩
  |cons q qs=>simp at hl
 |cons p ps ih=>
  intro qs z F hl hp bH h
  obtain⟨i,x⟩:=p
  cases qs with
  |nil=>simp at hl
  |cons q qs=>
   obtain⟨off,size,hq,MJ,Bu⟩:=hp 0 i x rfl
   simp only[List.getElem?_cons_zero,Option.some.injEq]at hq
   subst hq
   obtain⟨hn,h⟩:=(ba bH h).out
   have Pm:(a.eval x).cells.size=size:=by rw[←hn,←eW];simp
   rw[List.map_cons,Instr.fill]
   simp only[MJ,Pm,ne_eq,not_true_eq_false,decide_false,Bool.false_or,decide_eq_true_eq]
   rw[if_neg (by omega)]
   have Vt:((a.eval x).cells.zipIdx.foldl (fun cs (c,j)=>cs.setIfInBounds (off+j) c) z).toList=bq z.toList off (aJ (a.eval x)):=by
    have:=Kw (a.eval x).cells.toList 0 off z
    rw[eW]at this
    rw[←Array.foldl_toList,Array.toList_zipIdx,eW]
    simpa using this
   refine ih qs _ F (by simpa using hl) (fun j i' x' hj=>?_) bH (by rw[Vt];exact h)
   obtain⟨afH,abl,hq',afI,afJ⟩:=hp (j+1) i' x' (by simpa using hj)
   refine⟨afH,abl,by simpa using hq',afI,?_⟩
   have:((a.eval x).cells.zipIdx.foldl (fun cs (c,j)=>cs.setIfInBounds (off+j) c) z).size=z.size:=by
    rw[←Array.length_toList,Vt,ng,Array.length_toList]
   rw[this];exact afJ
end
end Go.Vc

namespace Go.Vc
section
variable {P : Program} {o : Oper} {a : Act} {ev : Ev} {H : Hp} {K : Value → Hp → Prop}
theorem uH{place:Nat→Option (Nat×Nat)}{Ku:Nat}:∀ (ps:List (Nat×Operand)) (qs:List (Nat×Nat×Operand)),ni place Ku ps=some qs→
  ps.length=qs.length∧∀ (j i:Nat) (x:Operand),ps[j]? =some (i,x)→∃off size:Nat,qs[j]? =some (off,size,x)∧place i=some (off,size)∧off+size≤Ku:=by
 intro ps
 induction ps with
 |nil=>intro qs h;simp only[ni,Option.some.injEq]at h;subst h;simp
 |cons p ps ih=>
  intro qs h
  obtain⟨i,x⟩:=p
  unfold ni at h
  split at h
  ·cases h
  ·rename_i off size MJ
   split at h
   ·rename_i Bu
    cases hr:ni place Ku ps with
    |none=>rw[hr]at h;cases h
    |some qs'=>
     rw[hr]at h
     simp only[Option.map_some,Option.some.injEq]at h
     subst h
     obtain⟨h1,h2⟩:=ih qs' hr
     refine⟨by simp[h1],fun j i' x' hj=>?_⟩
     cases j with
     |zero=>
      simp only[List.getElem?_cons_zero,Option.some.injEq,Prod.mk.injEq]at hj
      obtain⟨rfl,rfl⟩:=hj
      exact⟨off,size,rfl,MJ,Bu⟩
     |succ j=>exact h2 j i' x' (by simpa using hj)
   ·cases h
theorem Mj(fs:List Field)(h:∀f∈fs,(P.info? f.type).isSome=true)(w:World):
  (fs.mapM fun f=>(do pure (f.offset,←sizeOf f.type):Sem (Nat×Nat))).run P w= .ok (fs.map fun f=>(f.offset,P.cellsOf f.type)) w:=by
 induction fs with
 |nil=>rfl
 |cons f fs ih=>
  rw[List.mapM_cons]
  simp only[Sem.run_bind,bL (h f List.mem_cons_self),Result.andThen_ok,Sem.run_pure,ih fun g hg=>h g (List.mem_cons_of_mem _ hg),List.map_cons]
theorem C1(ps:Array (Nat×Operand)):(ps.map fun(i,x)=>(i,a.eval x)).toList=ps.toList.map fun(i,x)=>(i,a.eval x):=by simp
theorem NW{t:TypeId}{z:Value}{ps:Array (Nat×Operand)}{qs:List (Nat×Nat×Operand)}(bH:bR ev a)(ho:o.op= .build t ps)(hz:gz P t=some z)
  (hq:parts P t (aJ z).length ps.toList=some qs)(h:(dc.build (aJ z) qs).vc P ev H K):dY P o a H K:=by
 have NX:z.cells.toList=aJ z:=eW z
 have Oy:z.cells.size=(aJ z).length:=by rw[←NX];simp
 unfold parts at hq
 split at hq
 ·rename_i fields hu
  split at hq
  ·rename_i hk
   obtain⟨h1,h2⟩:=uH _ _ hq
   obtain⟨z',hf,Pq⟩:=fill_eq (a:=a) (ev:=ev) (place:=((placeOf P fields)[·]?)) ps.toList qs z.cells (fun l=>K (.agg l.toArray) H) h1
    (fun j i x hj=>by obtain⟨off,size,e1,e2,e3⟩:=h2 j i x hj;exact⟨off,size,e1,e2,by omega⟩) bH (by rw[NX];exact h)
   refine⟨.agg z',fun w=>?_,by simpa using Pq⟩
   have MJ:(fields.mapM fun f=>(do pure (f.offset,←sizeOf f.type):Sem (Nat×Nat))).run P w= .ok (placeOf P fields) w:=by
    rw[Array.mapM_eq_mapM_toList,Sem.run_map,Mj fields.toList (fun f hf=>by
     have:=(Array.all_eq_true_iff_forall_mem.1 hk) f (by simpa using hf);exact this) w]
    simp only[Result.andThen_ok]
    congr 1
    apply Array.ext'
    simp[placeOf]
   simp only[execOp,ho,Instr.build,Sem.run_bind,cO hz,ap hu,Result.andThen_ok,MJ,C1,hf,Sem.run_pure]
  ·cases hq
 ·rename_i n e hu
  split at hq
  ·rename_i hi
   obtain⟨h1,h2⟩:=uH _ _ hq
   obtain⟨z',hf,Pq⟩:=fill_eq (a:=a) (ev:=ev) (place:=fun i=>some (i*P.cellsOf e,P.cellsOf e)) ps.toList qs z.cells (fun l=>K (.agg l.toArray) H) h1
    (fun j i x hj=>by obtain⟨off,size,e1,e2,e3⟩:=h2 j i x hj;exact⟨off,size,e1,e2,by omega⟩) bH (by rw[NX];exact h)
   refine⟨.agg z',fun w=>?_,by simpa using Pq⟩
   simp only[execOp,ho,Instr.build,Sem.run_bind,cO hz,ap hu,Result.andThen_ok,bL hi,C1,hf,Sem.run_pure]
  ·cases hq
 ·cases hq
theorem C2{z:Array Value}{n size:Nat}(hs:z.size=size)(h0:size≠0):((Array.range (n*size)).map (z[· %z.size]!)).toList=cQ z.toList n:=by
 subst hs
 induction n with
 |zero=>simp[cQ]
 |succ n ih=>
  apply List.ext_getElem?
  intro i
  have hp:cQ z.toList (n+1)=cQ z.toList n++z.toList:=by simp[cQ,List.replicate_succ']
  have bm:(cQ z.toList n).length=n*z.size:=by rw[←ih];simp
  rw[hp]
  by_cases hi:i<n*z.size
  ·rw[List.getElem?_append_left (by omega),←ih]
   have:i< (n+1)*z.size:=by rw[Nat.add_mul];omega
   simp[hi,this]
  ·rw[List.getElem?_append_right (by omega),bm]
   by_cases mX:i< (n+1)*z.size
   ·have uN:i - n*z.size<z.size:=by rw[Nat.add_mul]at mX;omega
    have TC:i%z.size=i - n*z.size:=by
     have e:i=(i - n*z.size)+z.size*n:=by rw[Nat.mul_comm z.size n];omega
     rw[e,Nat.add_mul_mod_self_left,Nat.mod_eq_of_lt uN]
     rw[Nat.mul_comm z.size n];omega
    simp[mX,TC,uN]
   ·have:z.size≤i - n*z.size:=by rw[Nat.add_mul]at mX;omega
    simp[mX,this]
theorem EI(z:List Value)(n:Nat):(cQ z n).length=n*z.length:=by simp[cQ]
theorem SS{t e:TypeId}{n:Nat}{z:Value}{ps:Array (Nat×Operand)}{qs:List (Nat×Nat×Operand)}(bH:bR ev a)(ho:o.op= .buildSlice t n ps)(ht:P.underlying t=some (.slice e))
  (hz:gz P e=some z)(hi:(P.info? e).isSome=true)(h0:P.cellsOf e≠0)(hl:(aJ z).length=P.cellsOf e)(hm:n*P.cellsOf e≤2^24)
  (hq:ni (fun i=>some (i*P.cellsOf e,P.cellsOf e)) (n*P.cellsOf e) ps.toList=some qs)(h:(dc.lit e n (cQ (aJ z) n) qs).vc P ev H K):dV P o a H K:=by
 have NX:z.cells.toList=aJ z:=eW z
 have Oy:z.cells.size=P.cellsOf e:=by rw[←hl,←NX];simp
 intro w hw
 subst hw
 obtain⟨h1,h2⟩:=uH _ _ hq
 have Qd:∀ (zz:Array Value),(n*P.cellsOf e=0∨zz=z.cells)→((Array.range (n*P.cellsOf e)).map (zz[· %zz.size]!)).toList=cQ (aJ z) n:=by
  intro zz hzz
  rcases hzz with hzz|rfl
  ·have:n=0:=by
    rcases Nat.mul_eq_zero.1 hzz with h|h
    ·exact h
    ·exact absurd h h0
   subst this
   simp[cQ]
  ·rw[C2 Oy h0,NX]
 have main:∀zz:Array Value,(n*P.cellsOf e=0∨zz=z.cells)→∃z':Array Value,Instr.fill (fun i=>some (i*P.cellsOf e,P.cellsOf e)) ((Array.range (n*P.cellsOf e)).map (zz[· %zz.size]!)) (ps.toList.map fun(i,x)=>(i,a.eval x))=some z'∧
   K (.slice (some ⟨w.heap.size,0,none⟩) n n) (Hp.new w.heap e z'.toList):=by
  intro zz hzz
  exact fill_eq (a:=a) (ev:=ev) ps.toList qs _ (fun l=>K (.slice (some ⟨w.heap.size,0,none⟩) n n) (Hp.new w.heap e l)) h1
   (fun j i x hj=>by obtain⟨off,size,e1,e2,e3⟩:=h2 j i x hj;exact⟨off,size,e1,e2,by simpa using e3⟩) bH (by rw[Qd zz hzz];exact h)
 by_cases hn:n*P.cellsOf e=0
 ·obtain⟨z',hf,hk⟩:=main #[] (.inl hn)
  refine .inl ⟨.slice (some ⟨w.heap.size,0,none⟩) n n,{w with heap:=Hp.new w.heap e z'.toList},?_,⟨rfl,rfl⟩,hk⟩
  simp only[execOp,ho,Instr.buildSlice,Sem.run_bind,ap ht,bL hi,Result.andThen_ok]
  rw[if_neg (by omega),if_pos hn]
  simp only[Sem.run_pure,Result.andThen_ok,Sem.run_bind,C1,hf,nT]
 ·obtain⟨z',hf,hk⟩:=main z.cells (.inr rfl)
  refine .inl ⟨.slice (some ⟨w.heap.size,0,none⟩) n n,{w with heap:=Hp.new w.heap e z'.toList},?_,⟨rfl,rfl⟩,hk⟩
  simp only[execOp,ho,Instr.buildSlice,Sem.run_bind,ap ht,bL hi,Result.andThen_ok]
  rw[if_neg (by omega),if_neg hn]
  simp only[Sem.run_pure,Result.andThen_ok,Sem.run_bind,cO hz,C1,hf,nT]
theorem ST{t:TypeId}{x:Operand}(bH:bR ev a)(ho:o.op= .box t x)(h:(dc.box t x).vc P ev H K):dV P o a H K:=by
 intro w hw
 subst hw
 have h:=ba bH h
 refine .inl ⟨_,{w with heap:=Hp.new w.heap t (aJ (a.eval x))},?_,⟨rfl,rfl⟩,h⟩
 simp[execOp,ho,Instr.box,EM]
theorem Qr{t:TypeId}{z:Value}(hz:gz P t=some z)(ho:o.op= .alloc t)(h:(dc.zero t (aJ z)).vc P ev H K):dV P o a H K:=by
 intro w hw
 subst hw
 refine .inl ⟨_,{w with heap:=Hp.new w.heap t (aJ z)},?_,⟨rfl,rfl⟩,h⟩
 simp[execOp,ho,Instr.alloc,EM,cO hz]
theorem NY{t:TypeId}{x:Operand}(bH:bR ev a)(ho:o.op= .load t x)(hi:(P.info? t).isSome=true)(hu:(P.underlying t).isSome=true)(hg:fB P t=false)
  (h:(dc.gC x).vc P ev H K):dV P o a H K:=by
 intro w hw
 subst hw
 obtain⟨b,off,hx,h⟩:=fM (ba bH h)
 obtain⟨l,hl,h⟩:=aC h
 obtain⟨v,hv,h⟩:=aC h
 refine .inl ⟨v,w,?_,bZ.refl w,h⟩
 simp[execOp,ho,Instr.loadAt,hx,Instr.sureAddr,(lV hi hu hl).2 hg v hv]
theorem NZ{t:TypeId}{x:Operand}(bH:bR ev a)(ho:o.op= .load t x)(hi:(P.info? t).isSome=true)(hu:(P.underlying t).isSome=true)(hg:fB P t=true)
  (h:(dc.uR (P.cellsOf t) x).vc P ev H K):dV P o a H K:=by
 intro w hw
 subst hw
 obtain⟨b,off,hx,h⟩:=fM (ba bH h)
 obtain⟨l,hl,h⟩:=aC h
 obtain⟨hn,h⟩:=h.out
 refine .inl ⟨_,w,?_,bZ.refl w,h⟩
 simp only[execOp,ho,Instr.loadAt,hx,Instr.sureAddr,Sem.run_bind,Sem.run_pure,Result.andThen_ok,(lV hi hu hl).1 hg hn]
theorem N0{t:TypeId}{x y:Operand}(bH:bR ev a)(ho:o.op= .store t x y)(hi:(P.info? t).isSome=true)(h0:P.cellsOf t≠0)
  (h:(dc.store (P.cellsOf t) x y).vc P ev H K):dV P o a H K:=by
 intro w hw
 subst hw
 obtain⟨b,off,hx,h⟩:=fM (ba bH h)
 obtain⟨l,hl,h⟩:=aC (ba bH h)
 obtain⟨h1,h⟩:=h.out
 obtain⟨h2,h⟩:=h.out
 obtain⟨h3,h⟩:=h.out
 obtain⟨w',hr,hs,hh⟩:=IQ (v:=a.eval y) hi h0 hl h1 (Qk h2) h3
 refine .inr (.inl ⟨w',?_,hs,hh▸h⟩)
 simp[execOp,ho,Instr.storeAt,hx,Instr.sureAddr,hr]
theorem Mk{t:TypeId}(ho:o.op= .makeMap t none)(h:dc.Ah.vc P ev H K):dV P o a H K:=by
 intro w hw
 subst hw
 refine .inl ⟨_,{w with heap:=Hp.fX w.heap},?_,⟨rfl,rfl⟩,h⟩
 simp only[execOp,ho,Option.map_none,Instr.makeMap,Sem.run_bind,Sem.run_pure,Result.andThen_ok,run_newObj,Hp.fX]
theorem wrap_i64{n:Int}(h0:0≤n)(h1:n≤2^62):IntKind.i64.wrap n=n:=by
 have e:(2^IntKind.i64.bits:Int)=18446744073709551616:=rfl
 have e':(2^ (IntKind.i64.bits - 1):Int)=9223372036854775808:=rfl
 unfold IntKind.wrap
 simp only[e,e',IntKind.signed,Bool.true_and,decide_eq_true_eq]
 split<;>omega
theorem Hi{t e:TypeId}{z:Value}{x y:Operand}(bH:bR ev a)(ho:o.op= .makeSlice t x y)(ht:P.underlying t=some (.slice e))(hz:gz P e=some z)
  (hi:(P.info? e).isSome=true)(h0:P.cellsOf e≠0)(hl:(aJ z).length=P.cellsOf e)(h:(dc.makeSlice e (P.bytesOf e) (P.cellsOf e) (aJ z) x y).vc P ev H K):dV P o a H K:=by
 intro w hw
 subst hw
 have h:=ba bH (ba bH h)
 obtain⟨k,n,hx,h⟩:=kF h
 obtain⟨k',c,hy,h⟩:=kF h
 obtain⟨⟨h1,h2,h3,h4⟩,h⟩:=h.out
 refine .inl ⟨_,{w with heap:=Hp.new w.heap e (cQ (aJ z) c.toNat)},?_,⟨rfl,rfl⟩,h⟩
 obtain⟨i,hi'⟩:=Option.isSome_iff_exists.1 hi
 have hb:i.bytes=P.bytesOf e:=by simp[Program.bytesOf,hi']
 have NX:z.cells.toList=aJ z:=eW z
 have Oy:z.cells.size=P.cellsOf e:=by rw[←hl,←NX];simp
 have w1:=wrap_i64 h1 (by omega:n≤2^62)
 have w2:=wrap_i64 (by omega:0≤c) (by omega:c≤2^62)
 simp only[execOp,ho,Instr.makeSlice,Sem.run_bind,ap ht,Result.andThen_ok,hx,hy,asInt,asIntOf,Sem.run_pure,et hi',hb,w1,w2,run_askRoom,bL hi]
 have t1:(decide (c<0) || decide ((P.bytesOf e:Int)*c>2^48))=false:=by simp;omega
 rw[if_neg (by simp only[t1,Bool.false_eq_true,false_or,Bool.or_eq_true,decide_eq_true_eq];omega)]
 simp only[Sem.run_bind,run_askRoom,Result.andThen_ok,bL hi]
 by_cases hn:c.toNat*P.cellsOf e=0
 ·have qP:c.toNat=0:=by rcases Nat.mul_eq_zero.1 hn with h|h;exact h;exact absurd h h0
  rw[if_pos hn]
  simp only[qP,Nat.zero_mul,Sem.run_bind,Sem.run_pure,Result.andThen_ok,nT]
  simp[cQ]
 ·rw[if_neg hn]
  simp only[Sem.run_bind,cO hz,Sem.run_pure,Result.andThen_ok,nT,C2 Oy h0,NX]
theorem FS{H:Hp}{b:Nat}{x:List MapEntry×Nat}(h:H.mp b=some x):∃es:Array MapEntry,H[b]? =some (.map es x.2)∧es.toList=x.1:=by
 unfold Hp.mp at h
 split at h
 ·rename_i es k hb;injection h with h;exact⟨es,by rw[hb,←h],by rw[←h]⟩
 ·cases h
theorem rj{w:World}{b:Nat}{es:Array MapEntry}{k:Nat}(h:w.heap[b]? =some (.map es k)):(getObj b).run P w= .ok (.map es k) w:=by simp[getObj,Sem.run,h]
theorem rl{w:World}{b:Nat}{es Vu:Array MapEntry}{k k':Nat}(h:w.heap[b]? =some (.map es k)):
  (setObj b (.map Vu k')).run P w= .ok () {w with heap:=Hp.Ey w.heap b Vu.toList k'}:=by
 simp[setObj,Sem.run,h,Hp.Ey]
theorem vh{t:TypeId}{s:Shape}(h:cE P t=some s)(hs:∀fs,s≠ .s fs):shapeOf P fC t=some s∧nh s=true:=by
 unfold cE at h
 split at h
 ·injection h with h;subst h;simp[shapeOf,fC, *,nh]
 ·injection h with h;subst h;simp[shapeOf,fC, *,nh]
 ·injection h with h;subst h;simp[shapeOf,fC, *,nh]
 ·split at h
  ·split at h
   ·injection h with h;exact absurd h.symm (hs _)
   ·cases h
  ·cases h
 ·cases h
theorem Hj{t:TypeId}{s:Shape}(h:cE P t=some s):shapeOf P fC t=some s:=by
 by_cases hs:∃fs,s= .s fs
 ·obtain⟨fs,rfl⟩:=hs
  unfold cE at h
  split at h
  ·cases h
  ·cases h
  ·cases h
  ·split at h
   ·split at h
    ·injection h with h;injection h with h;subst h;assumption
    ·cases h
   ·cases h
  ·cases h
 ·exact(vh h fun fs e=>hs ⟨fs,e⟩).1
theorem vi{d:Nat}{t:TypeId}{s:Shape}(h:shapeOf P d t=some s)(hk:nh s=true)(v:Value)(e:Bool)(n:Nat)(w:World):(Instr.checkKey e (n+1) t v).run P w= .ok () w:=by
 cases d with
 |zero=>simp[shapeOf]at h
 |succ d=>
  rw[ik]at h
  split at h
  ·injection h with h;subst h;simp[Instr.checkKey,ap ‹P.underlying t=_›]
  ·injection h with h;subst h;simp[Instr.checkKey,ap ‹P.underlying t=_›]
  ·injection h with h;subst h;simp[Instr.checkKey,ap ‹P.underlying t=_›]
  case h_9=>
   split at h
   ·cases h
   ·rename_i fs _ _
    cases hr:fH P d fs.toList with
    |none=>rw[hr]at h;cases h
    |some l=>rw[hr]at h;injection h with h;subst h;simp[nh]at hk
  all_goals first| (cases h;done)| (injection h with h;subst h;simp[nh]at hk)
theorem FF{d:Nat}(e:Bool)(n:Nat)(xs:List Value):∀ (fs:List Field) (l:List (Nat×Option Nat×Shape)),fH P d fs=some l→
  (l.all fun(off,agg,sh)=>agg.isNone && nh sh)=true→(∀q∈l,(xs[q.1]?).isSome=true)→∀w:World,
  (forIn fs PUnit.unit fun f (_:PUnit)=>(do
   if f.name≠ "_" then Instr.checkKey e (n+1) f.type (←part f.type xs.toArray f.offset)
   pure (ForInStep.yield PUnit.unit):Sem (ForInStep PUnit))).run P w= .ok PUnit.unit w:=by
 intro fs
 induction fs with
 |nil=>intro l _ _ _ w;simp
 |cons f fs ih=>
  intro l hl ha hx w
  rw[sk]at hl
  split at hl
  ·cases hl
  ·rename_i SP
   split at hl
   ·cases hl
   ·rename_i sh HB
    cases hr:fH P d fs with
    |none=>rw[hr]at hl;cases hl
    |some l'=>
     rw[hr]at hl
     simp only[Option.map_some,Option.some.injEq]at hl
     subst hl
     rw[List.all_cons]at ha
     simp only[Bool.and_eq_true]at ha
     obtain⟨⟨h1,h2⟩,h3⟩:=ha
     have afK:fB P f.type=false:=by
      cases hb:fB P f.type
      ·rfl
      ·simp[hb]at h1
     obtain⟨v,hv⟩:=Option.isSome_iff_exists.1 (hx _ List.mem_cons_self)
     have hu:(P.underlying f.type).isSome=true:=by
      cases d with
      |zero=>simp[shapeOf]at HB
      |succ d=>rw[ik]at HB;split at HB<;>first| (cases HB;done)|simp_all
     have hp:=xZ (P:=P) (l:=xs) (t:=f.type) (off:=f.offset) (v:=v) (info_of_underlying hu) hu (by rw[afK];simpa[xl]using hv) w
     simp only[List.forIn_cons,SP,ne_eq,not_false_eq_true,if_true,Sem.run_bind,hp,Result.andThen_ok,vi HB h2,Sem.run_pure]
     exact ih l' hr h3 (fun q hq=>hx q (List.mem_cons_of_mem _ hq)) w
theorem Hk{t:TypeId}{s:Shape}{k:Value}(h:cE P t=some s)(hk:CI s k=true)(e:Bool)(n:Nat)(w:World):(Instr.checkKey e (n+1+1) t k).run P w= .ok () w:=by
 by_cases hs:∃fs,s= .s fs
 ·obtain⟨l,rfl⟩:=hs
  have h':=h
  unfold cE at h
  split at h
  ·cases h
  ·cases h
  ·cases h
  ·rename_i fs hu
   split at h
   ·split at h
    ·rename_i l' HB fY
     injection h with h;injection h with h;subst h
     cases k with
     |agg xs=>
      simp only[show fC=7+1 from rfl,ik,hu]at HB
      split at HB
      ·cases HB
      ·cases hr:fH P 7 fs.toList with
       |none=>rw[hr]at HB;cases HB
       |some l=>
        rw[hr]at HB
        simp only[Option.map_some,Option.some.injEq,Shape.s.injEq]at HB
        subst HB
        rw[Instr.checkKey]
        simp only[Sem.run_bind,ap hu,Result.andThen_ok]
        rw[←Array.forIn_toList]
        have:=FF (P:=P) e n xs.toList fs.toList l hr fY (fun q hq=>by
         have h1:=(List.all_eq_true.1 hk) q hq
         obtain⟨off,agg,sh⟩:=q
         simp only[Bool.and_eq_true]at h1
         have h2:=h1.2
         cases hx:(xs.toList)[off]? with
         |none=>rw[show xs[off]? =none by simpa using hx]at h2;cases sh<;>simp at h2
         |some v=>rfl) w
        simp only[Array.toArray_toList]at this
        rw[this]
        rfl
     |_=>simp[CI]at hk
    ·cases h
   ·cases h
  ·cases h
 ·obtain⟨h1,h2⟩:=vh h fun fs e=>hs ⟨fs,e⟩
  exact vi h1 h2 k e (n+1) w
theorem jt{t:TypeId}{s:Shape}{k:Value}(h:cE P t=some s)(hk:CI s k=true)(e:Bool)(w:World):(Instr.checkKey e 10000 t k).run P w= .ok () w:=
 Hk h hk e 9998 w
theorem Hl{t:TypeId}{s:Shape}{k:Value}(h:shapeOf P fC t=some s):∀ (es:List MapEntry) (i:Nat) (r:Option (Nat×Value)),ic s k es i=some r→∀w:World,
  (Instr.findAsking t k es i).run P w= .ok r w:=by
 intro es
 induction es with
 |nil=>intro i r hr w;simp only[ic,Option.some.injEq]at hr;subst hr;rfl
 |cons e es ih=>
  intro i r hr w
  unfold ic at hr
  have he:∀b,tf s k e.key=some b→(Op.equal t k e.key).run P w= .ok b w:=by
   intro b hb
   unfold Op.equal Op.maxDepth
   have:=(C0 (P:=P) fC).1 t s k e.key b h hb (10000 - fC) w
   simpa[fC]using this
  split at hr
  ·rename_i hb
   injection hr with hr;subst hr
   simp[Instr.findAsking,he true hb]
  ·rename_i hb
   simp[Instr.findAsking,he false hb,ih (i+1) r hr w]
  ·cases hr
theorem Es{d:TypeDesc}{s:Shape}{k:Value}(hd:(∃q,d= .int q∧s= .int)∨(d= .string∧s= .str)∨(d= .bool∧s= .bool)):∀ (es:List MapEntry) (i:Nat) (r:Option (Nat×Value)),
  ic s k es i=some r→Instr.findNow d k es i=some r:=by
 intro es
 induction es with
 |nil=>intro i r hr;simpa[ic,Instr.findNow]using hr
 |cons e es ih=>
  intro i r hr
  unfold ic at hr
  unfold Instr.findNow
  have OL:∀b,tf s k e.key=some b→Instr.sameNow d k e.key=some b:=by
   intro b hb
   rcases hd with ⟨q,rfl,rfl⟩| ⟨rfl,rfl⟩| ⟨rfl,rfl⟩
   ·cases k<;>cases hk:e.key<;>simp only[hk,tf,bA]at hb<;>first| (cases hb;done)|skip
    exact hb
   ·cases k<;>cases hk:e.key<;>simp only[hk,tf,bA]at hb<;>first| (cases hb;done)|skip
    simpa[Instr.sameNow,beq_toListBytes]using hb
   ·cases k<;>cases hk:e.key<;>simp only[hk,tf,bA]at hb<;>first| (cases hb;done)|skip
    simpa[Instr.sameNow]using hb
  split at hr
  ·rename_i hb;rw[OL true hb];exact hr
  ·rename_i hb;rw[OL false hb];exact ih _ _ hr
  ·cases hr
theorem lW{t:TypeId}{s:Shape}{k:Value}{es:List MapEntry}{r:Option (Nat×Value)}(h:cE P t=some s)(hr:ic s k es 0=some r)(w:World):
  (Instr.findKey t k es).run P w= .ok r w:=by
 have HB:=Hj h
 unfold Instr.findKey
 have hu:∃d,P.underlying t=some d:=by
  unfold cE at h
  split at h<;>first|exact⟨_, ‹_›⟩|cases h
 obtain⟨d,hu⟩:=hu
 simp only[Sem.run_bind,ap hu,Result.andThen_ok]
 by_cases hs:∃fs,s= .s fs
 ·obtain⟨l,rfl⟩:=hs
  have hd:∃fs,d= .struct fs:=by
   unfold cE at h
   rw[hu]at h
   split at h
   ·cases h
   ·cases h
   ·cases h
   ·rename_i he;injection he with he;exact⟨_,he⟩
   ·cases h
  obtain⟨fs,rfl⟩:=hd
  cases es with
  |nil=>simp only[ic,Option.some.injEq]at hr;subst hr;rfl
  |cons e es=>
   have:Instr.findNow (.struct fs) k (e::es) 0=none:=by simp[Instr.findNow,Instr.sameNow]
   rw[this]
   exact Hl HB _ _ _ hr w
 ·have hd:(∃q,d= .int q∧s= .int)∨(d= .string∧s= .str)∨(d= .bool∧s= .bool):=by
   unfold cE at h
   rw[hu]at h
   split at h
   ·rename_i q he;injection he with he;injection h with h;exact .inl ⟨q,he,h.symm⟩
   ·rename_i he;injection he with he;injection h with h;exact .inr (.inl ⟨he,h.symm⟩)
   ·rename_i he;injection he with he;injection h with h;exact .inr (.inr ⟨he,h.symm⟩)
   ·split at h
    ·split at h
     ·injection h with h;exact absurd ⟨_,h.symm⟩ hs
     ·cases h
    ·cases h
   ·cases h
  rw[Es hd es 0 r hr]
  rfl
end
end Go.Vc
