/- Texts put behind each other. -/
import Derived.Test.YtjlnnljohemifaaGreatK98
import Derived.Test.YtjlnnljohemifaaGreatK5
set_option linter.unusedVariables false
namespace Go.Vc
def cE(P:Program)(t:TypeId):Option Shape:=
 match P.underlying t with
 |some (.int _)=>some .int
 |some .string=>some .str
 |some .bool=>some .bool
 |some (.struct _)=>
  match shapeOf P fD t with
  |some (.s l)=>if l.all (fun(off,agg,sh)=>agg.isNone && nm sh)then some (.s l)else none
  |_=>none
 |_=>none
def VH:Shape→Bool| .s _=>false|_=>true
def HT:TypeDesc→Bool| .slice _=>true| .string=>true|_=>false
def J4(P:Program)(o:Oper):Option df:=
 match o.op with
 | .move x=>some (.dk x)
 | .assign x=>some (.dk x)
 | .pick c a b=>some (.pick c a b)
 | .box T x=>some (.box T x)
 | .alloc T=>(gw P T).map fun z=>.zero T (aM z)
 | .build t ps=>(gw P t).bind fun z=>(parts P t (aM z).length ps.toList).map (.build (aM z))
 | .buildSlice t n ps=>
  match P.underlying t with
  |some (.slice e)=>(gw P e).bind fun z=>
   if(P.info? e).isSome∧P.cellsOf e≠0∧(aM z).length=P.cellsOf e∧n*P.cellsOf e≤2^24 then
    (nq (fun i=>some (i*P.cellsOf e,P.cellsOf e)) (n*P.cellsOf e) ps.toList).map (.lit e n (cN (aM z) n))
   else none
  |_=>none
 | .load t x=>if(P.info? t).isSome∧(P.underlying t).isSome then(if fC P t then some (.zQ (P.cellsOf t) x)else some (.eK x))else none
 | .store t x v=>if(P.info? t).isSome∧P.cellsOf t≠0 then some (.store (P.cellsOf t) x v)else none
 | .nilCheck x=>some (.nilCheck x)
 | .binOp op t x y _=>
  match op with
  | .eql| .neq=>
   match P.underlying t,y with
   |some (.interface _),.const .nilIface=>some (.VG (match op with| .neq=>true|_=>false) x)
   |_,_=>(shapeOf P fD t).bind fun s=>if VH s=true∨P.eqGuardType P.depth t=false then some (.aD op s x y)else none
  |_=>some (.aD op .int x y)
 | .unOp op _ x=>some (.un op x)
 | .convert src dst x=>
  match P.underlying src,P.underlying dst with
  |some (.int _),some (.int k)=>some (.conv k x)
  |some (.slice e),some .string=>(match P.underlying e with|some (.int .u8)=>some (.PT x)|_=>none)
  |some .string,some (.slice e)=>(match P.underlying e with|some (.int .u8)=>some (.Le e x)|_=>none)
  |_,_=>none
 | .makeInterface t x=>match P.underlying t with|some (.interface _)=>none|some _=>some (.iface t x)|none=>none
 | .makeFunc fn first captured=>some (.func fn first.toList captured.toList)
 | .makeMap t none=>some .AC
 | .makeSlice t n c=>
  match P.underlying t with
  |some (.slice e)=>(gw P e).bind fun z=>if(P.info? e).isSome∧P.cellsOf e≠0∧(aM z).length=P.cellsOf e then some (.makeSlice e (P.bytesOf e) (P.cellsOf e) (aM z) n c)else none
  |_=>none
 | .slice t x lo hi mx=>
  match P.underlying t with
  |some (.slice e)=>if(P.info? e).isSome∧(mx.isNone∨hi.isSome)then some (.slice (P.cellsOf e) x lo hi mx)else none
  |some .string=>if mx.isNone then some (.Lc x lo hi)else none
  |_=>none
 | .fieldAddr s x f=>
  match P.underlying s with
  |some (.struct fields)=>(fields[f]?).bind fun fd=>if(P.info? fd.type).isSome∧P.cellsOf fd.type≠0 then some (.fieldAddr fd.offset x)else none
  |_=>none
 | .field t x f=>
  match P.underlying t with
  |some (.struct fields)=>(fields[f]?).bind fun fd=>if(P.info? fd.type).isSome∧(P.underlying fd.type).isSome then some (.field fd.offset (if fC P fd.type then some (P.cellsOf fd.type)else none) x)else none
  |_=>none
 | .indexAddr t x i=>
  match P.underlying t with
  |some (.slice e)=>if(P.info? e).isSome then some (.indexAddr (P.cellsOf e) x i)else none
  |some (.array n e)=>if(P.info? e).isSome then some (.gO n (P.cellsOf e) x i)else none
  |_=>none
 | .index t x i=>match P.underlying t with|some .string=>some (.Ld x i)|_=>none
 | .lookup t x i ok=>
  match P.underlying t with
  |some (.map k e)=>(cE P k).bind fun s=>(gw P e).map fun z=>.lookup s z ok x i
  |_=>none
 | .mapUpdate t m k v=>match P.underlying t with|some (.map kt _)=>(cE P kt).map fun s=>.update s m k v|_=>none
 | .extract x i=>some (.extract i x)
 | .typeAssert x _ T false=>(match P.underlying T with|some (.interface _)=>none|some _=>some (.GJ T x)|none=>none)
 | .call c=>
  match c.callee with
  | .value (.func f)=>if eW P f then some (.call f c.args.toList)else some (.ext f c.args.toList)
  | .value x=>some (.dyn x c.args.toList)
  | .invoke r name=>some (.invoke r name c.args.toList)
  | .builtin .len=>
   match c.args.toList,(c.argTypes[0]?).bind P.underlying with
   | [x],some (.slice _)=>some (.bu x)
   | [x],some .string=>some (.VD x)
   | [x],some (.map _ _)=>some (.VE x)
   |_,_=>none
  | .builtin .append=>
   match c.args.toList,(c.argTypes[0]?).bind P.underlying,(c.argTypes[1]?).bind P.underlying with
   | [x,y],some (.slice e),some d=>(gw P e).bind fun z=>
    if(P.info? e).isSome∧P.cellsOf e≠0∧(aM z).length=P.cellsOf e∧P.bytesOf e≠0∧HT d=true then
     some (.append e (P.cellsOf e) (P.bytesOf e) (aM z) x y)else none
   |_,_,_=>none
  | .builtin .delete=>
   match c.args.toList,(c.argTypes[0]?).bind P.underlying with
   | [m,k],some (.map kt _)=>(cE P kt).map fun s=>.delete s m k
   |_,_=>none
  | .builtin .clear=>
   match c.args.toList,(c.argTypes[0]?).bind P.underlying with
   | [x],some (.slice e)=>(gw P e).bind fun z=>if(aM z).length≠0 then some (.Ks (aM z) x)else none
   |_,_=>none
  | .builtin .min=>some (.VF c.args.toList)
  | .builtin .max=>some (.Qc c.args.toList)
  |_=>none
 |_=>none
def MR:Value→List Value→Option Value
 |v,[]=>some v
 |v,u::r=>match v,u with
  | .int k a,.int _ b=>MR (.int k (if b<a then b else a)) r
  |_,_=>none
def acs(l:List Value):Option Value:=match l with| []=>none|v::r=>MR v r
def MS:Value→List Value→Option Value
 |v,[]=>some v
 |v,u::r=>match v,u with
  | .int k a,.int _ b=>MS (.int k (if b>a then b else a)) r
  |_,_=>none
def acu(l:List Value):Option Value:=match l with| []=>none|v::r=>MS v r
@[go_sem] theorem ZY(v:Value)(r:List Value):acs (v::r)=MR v r:=(rfl)
@[go_sem] theorem acv(v:Value):MR v []=some v:=(rfl)
@[go_sem] theorem ZZ(k k':IntKind)(a b:Int)(r:List Value):MR (.int k a) (.int k' b::r)=MR (.int k (if b<a then b else a)) r:=(rfl)
@[go_sem] theorem Z0(v:Value)(r:List Value):acu (v::r)=MS v r:=(rfl)
@[go_sem] theorem acw(v:Value):MS v []=some v:=(rfl)
@[go_sem] theorem Z5(k k':IntKind)(a b:Int)(r:List Value):MS (.int k a) (.int k' b::r)=MS (.int k (if b>a then b else a)) r:=(rfl)
def sL(ev:Ev)(x:Option Operand)(d:Nat)(F:Int→Prop):Prop:=
 match x with
 |none=>F d
 |some x=>aF (ev x) fun v=>EN v F
@[go_sem ↓] theorem Ww(ev:Ev)(d:Nat)(F:Int→Prop):sL ev none d F=F d:=(rfl)
@[go_sem ↓] theorem Wx(ev:Ev)(x:Operand)(d:Nat)(F:Int→Prop):sL ev (some x) d F=aF (ev x) fun v=>EN v F:=(rfl)
def MT(H:Hp)(r:Option Nat)(F:Nat→Prop):Prop:=
 match r with
 |none=>F 0
 |some b=>aF (H.mp b) fun m=>F m.1.length
@[go_sem ↓] theorem Yu(H:Hp)(b:Nat)(F:Nat→Prop):MT H (some b) F=aF (H.mp b) fun m=>F m.1.length:=(rfl)
def jw(ok:Bool)(z:Value)(x:Option Value):Value:=
 bif ok then(match x with|some v=>.tuple [v,.bool true].toArray|none=>.tuple [z,.bool false].toArray)else x.getD z
@[go_sem] theorem RO(z v:Value):jw true z (some v)= .tuple [v,.bool true].toArray:=(rfl)
@[go_sem] theorem RP(z:Value):jw true z none= .tuple [z,.bool false].toArray:=(rfl)
@[go_sem] theorem VI(z v:Value):jw false z (some v)=v:=(rfl)
@[go_sem] theorem VJ(z:Value):jw false z none=z:=(rfl)
def HU:Value→Bool
 | .pointer (some _)=>true
 | .iface .. =>true
 | .func (.func _) _ _=>true
 |_=>false
@[go_sem] theorem Z6(a:Addr):HU (.pointer (some a))=true:=(rfl)
@[go_sem] theorem Wy(t:TypeId)(v:Value):HU (.iface t v)=true:=(rfl)
@[go_sem] theorem Yv(f:FuncId)(a b:Array Value):HU (.func (.func f) a b)=true:=(rfl)
def QA(P:Program)(v:Value):Prop:=
 HU v=true∨∃name t u cap,v= .func (.method name) #[.iface t u] cap∧∀w,(nilAhead (P.types.size+Made.depth) t u name).run P w= .ok (some false) w
@[go_sem] theorem acx(P:Program)(a:Addr):QA P (.pointer (some a))=True:=eq_true (.inl rfl)
@[go_sem] theorem Yw(P:Program)(t:TypeId)(v:Value):QA P (.iface t v)=True:=eq_true (.inl rfl)
@[go_sem] theorem Z7(P:Program)(f:FuncId)(a b:Array Value):QA P (.func (.func f) a b)=True:=eq_true (.inl rfl)
def df.vc(P:Program)(ev:Ev)(H:Hp)(K:Value→Hp→Prop):df→Prop
 | .dk x=>aF (ev x) fun v=>K v H
 | .pick c a b=>aF (ev c) fun cv=>Dg cv fun t=>aF (bif t then ev a else ev b) fun v=>K v H
 | .box T x=>aF (ev x) fun v=>now (H.new T (aM v)) fun H'=>K (.pointer (some ⟨H.size,0,none⟩)) H'
 | .zero T l=>now (H.new T l) fun H'=>K (.pointer (some ⟨H.size,0,none⟩)) H'
 | .build z ps=>Di ev z ps fun l=>now l fun l=>K (.agg l.toArray) H
 | .lit T n z ps=>Di ev z ps fun l=>now (H.new T l) fun H'=>K (.slice (some ⟨H.size,0,none⟩) n n) H'
 | .eK x=>aF (ev x) fun p=>zO p fun b o=>aF (H.rd b) fun l=>aF l[o]? fun v=>K v H
 | .zQ n x=>aF (ev x) fun p=>zO p fun b o=>aF (H.rd b) fun l=>eB (o+n≤l.length) (K (.agg ((l.drop o).take n).toArray) H)
 | .store n x v=>aF (ev x) fun p=>zO p fun b o=>aF (ev v) fun v=>aF (KZ (H.own b) (H.Du b)) fun l=>
   eB ((aM v).length=n) (eB (uV (aM v)=true) (eB (o+n≤l.length) (now (H.wr b (bk l o (aM v))) fun H'=>K undef H')))
 | .nilCheck x=>aF (ev x) fun v=>eB (QA P v) (K v H)
 | .aD op s x y=>aF (ev x) fun a=>aF (ev y) fun b=>aF (cA op s a b) fun v=>K v H
 | .un op x=>aF (ev x) fun a=>aF (unF op a) fun v=>K v H
 | .conv k x=>aF (ev x) fun a=>EN a fun n=>K (.int k (k.wrap n)) H
 | .iface T x=>aF (ev x) fun v=>K (.iface T v) H
 | .func fn first captured=>OS ev first fun l=>OS ev captured fun c=>K (.func fn l.toArray c.toArray) H
 | .AC=>K (.map (some H.size)) H.fX
 | .makeSlice T bytes size z n c=>aF (ev n) fun nv=>aF (ev c) fun cv=>EN nv fun n=>EN cv fun c=>
   eB (0≤n∧n≤c∧c≤2^48∧bytes*c≤2^48) (now (H.new T (cN z c.toNat)) fun H'=>K (.slice (some ⟨H.size,0,none⟩) n.toNat c.toNat) H')
 | .slice size x lo hi mx=>aF (ev x) fun v=>sK v fun a n c=>sL ev mx c fun m=>sL ev hi n fun h=>sL ev lo 0 fun l=>
   eB (0≤l∧l≤h∧h≤m∧m≤c) (K (.slice (if m=l then a else a.map (·.add (l.toNat*size))) (h.toNat - l.toNat) (m.toNat - l.toNat)) H)
 | .Lc x lo hi=>aF (ev x) fun v=>mf v fun s=>sL ev hi s.size fun h=>sL ev lo 0 fun l=>
   eB (0≤l∧l≤h∧h≤s.size) (K (.string (s.extract l.toNat h.toNat)) H)
 | .fieldAddr off x=>aF (ev x) fun p=>zO p fun b o=>K (.pointer (some ⟨b,o+off,none⟩)) H
 | .field off agg x=>aF (ev x) fun v=>Ra v fun l=>aF (xI l off agg) fun v=>K v H
 | .indexAddr size x i=>aF (ev x) fun v=>aF (ev i) fun iv=>sK v fun a n _=>EN iv fun i=>eB (0≤i∧i<n) (xT a fun b o=>K (.pointer (some ⟨b,o+i.toNat*size,none⟩)) H)
 | .gO aX size x i=>aF (ev x) fun p=>aF (ev i) fun iv=>zO p fun b o=>EN iv fun i=>eB (0≤i∧i<aX) (K (.pointer (some ⟨b,o+i.toNat*size,none⟩)) H)
 | .Ld x i=>aF (ev x) fun v=>aF (ev i) fun iv=>mf v fun s=>EN iv fun i=>eB (0≤i) (aF (s[i.toNat]?) fun b=>K (.int .u8 b.toNat) H)
 | .lookup s z ok m k=>aF (ev m) fun mv=>aF (ev k) fun kv=>EO mv fun r=>eB (C4 s kv=true) (z8 H s r kv fun x=>K (jw ok z x) H)
 | .update s m k v=>aF (ev m) fun mv=>aF (ev k) fun kv=>aF (ev v) fun vv=>EO mv fun r=>aF r fun b=>eB (C4 s kv=true) (Ta H s b kv vv fun H'=>K undef H')
 | .extract i x=>aF (ev x) fun v=>Q9 v fun l=>aF l[i]? fun v=>K v H
 | .call f args=>OS ev args fun vs=>ai P f vs H K
 | .dyn f args=>aF (ev f) fun fv=>OS ev args fun vs=>Ys P fv vs H K
 | .invoke r name args=>aF (ev r) fun rv=>OS ev args fun vs=>jm P rv name vs H K
 | .bu x=>aF (ev x) fun v=>sK v fun _ n _=>K (.int .i64 n) H
 | .VD x=>aF (ev x) fun v=>mf v fun s=>K (.int .i64 s.size) H
 | .VE x=>aF (ev x) fun v=>EO v fun r=>MT H r fun n=>K (.int .i64 n) H
 | .append T size bytes z x y=>aF (ev x) fun xv=>aF (ev y) fun yv=>im T size bytes z xv yv H K
 | .delete s m k=>aF (ev m) fun mv=>aF (ev k) fun kv=>EO mv fun r=>aF r fun b=>eB (C4 s kv=true) (Yq H s b kv fun H'=>K (.tuple [].toArray) H')
 | .Ks z x=>aF (ev x) fun v=>sK v fun a n _=>Yr H z a n fun H'=>K (.tuple [].toArray) H'
 | .VF args=>OS ev args fun vs=>aF (acs vs) fun v=>K v H
 | .Qc args=>OS ev args fun vs=>aF (acu vs) fun v=>K v H
 | .GJ T x=>aF (ev x) fun v=>yw T v fun u=>K u H
 | .VG neg x=>aF (ev x) fun v=>OT v fun b=>K (.bool (OU neg b)) H
 | .PT x=>aF (ev x) fun v=>xX H v fun l=>K (.string ⟨l.toArray⟩) H
 | .Le T x=>aF (ev x) fun v=>mf v fun s=>TK T s H K
 | .ext f args=>OS ev args fun vs=>Vq P f vs H K
attribute [go_sem ↓] df.vc
section
variable {P : Program} {o : Oper} {a : Act} {ev : Ev} {H : Hp} {K : Value → Hp → Prop}
def dZ(P:Program)(o:Oper)(a:Act)(H:Hp)(K:Value→Hp→Prop):Prop:=∃v,(∀w,(execOp a.eval o).run P w= .ok (.value v) w)∧K v H
theorem dZ.agX(h:dZ P o a H K):dX P o a H K:=by
 obtain⟨v,h1,h2⟩:=h
 exact fun w hw=>.inl ⟨v,w,h1 w,bZ.refl w,hw▸h2⟩
theorem ap{t:TypeId}{d:TypeDesc}(h:P.underlying t=some d)(w:World):(underlying t).run P w= .ok d w:=run_underlying h w
theorem et{t:TypeId}{i:TypeInfo}(h:P.info? t=some i)(w:World):(typeInfo t).run P w= .ok i w:=by simp[typeInfo,h]
theorem bN{t:TypeId}(h:(P.info? t).isSome=true)(w:World):(sizeOf t).run P w= .ok (P.cellsOf t) w:=by
 obtain⟨i,hi⟩:=Option.isSome_iff_exists.1 h
 simp[sizeOf,et hi,Program.cellsOf,hi]
theorem cR{t:TypeId}{z:Value}(h:gw P t=some z)(w:World):(zeroValue t).run P w= .ok z w:=by
 unfold gw at h
 cases hi:P.info? t with
 |none=>rw[hi]at h;cases h
 |some i=>rw[hi]at h;simp only[Option.bind_some]at h;simp[zeroValue,et hi,h]
theorem BC{t:TypeId}(h:(P.underlying t).isSome=true)(w:World):(isAgg t).run P w= .ok (fC P t) w:=by
 obtain⟨d,hd⟩:=Option.isSome_iff_exists.1 h
 unfold isAgg fC
 simp only[Sem.run_bind,ap hd,Result.andThen_ok,hd]
 cases d<;>rfl
theorem Fe(t:TypeId)(v:Value)(w:World):(newVar t v).run P w= .ok ⟨w.heap.size,0,none⟩ {w with heap:=Hp.new w.heap t (aM v)}:=by
 simp only[newVar,newRow,Sem.run_bind,run_newObj,Result.andThen_ok,Sem.run_pure,Hp.new,←eX,apf]
theorem nZ(t:TypeId)(c:Array Value)(w:World):(newRow t c).run P w= .ok ⟨w.heap.size,0,none⟩ {w with heap:=Hp.new w.heap t c.toList}:=by
 simp only[newRow,Sem.run_bind,run_newObj,Result.andThen_ok,Sem.run_pure,Hp.new,apf]
theorem mh{t:TypeId}{w:World}{b o:Nat}{l:List Value}(hi:(P.info? t).isSome=true)(hu:(P.underlying t).isSome=true)(h:Hp.rd w.heap b=some l):
  (fC P t=true→o+P.cellsOf t≤l.length→(loadVar t ⟨b,o,none⟩).run P w= .ok (.agg ((l.drop o).take (P.cellsOf t)).toArray) w)∧
  (fC P t=false→∀v,l[o]? =some v→(loadVar t ⟨b,o,none⟩).run P w= .ok v w):=by
 refine⟨fun ha hn=>?_,fun ha v hv=>?_⟩
 ·simp[loadVar,BC hu,ha,bN hi,tO (P:=P) (a:=⟨b,o,none⟩) rfl h hn]
 ·have hc:w.cell? ⟨b,o,none⟩=some v:=(qv rfl h).trans hv
  simp[loadVar,BC hu,ha,hc]
theorem Jy{t:TypeId}{w:World}{b o:Nat}{l:List Value}{v:Value}(hi:(P.info? t).isSome=true)(h0:P.cellsOf t≠0)(h:KZ (Hp.own w.heap b) (Hp.Du w.heap b)=some l)
  (hl:(aM v).length=P.cellsOf t)(h1:gU (aM v))(hn:o+P.cellsOf t≤l.length):
  ∃w',(storeVar t ⟨b,o,none⟩ v).run P w= .ok () w'∧bZ w w'∧w'.heap=Hp.wr w.heap b (bk l o (aM v)):=by
 obtain⟨w',hr,hs,hk,_⟩:=ke (P:=P) (b:=b) (o:=o) (aM v) 0 w l h (by omega) h1
 refine⟨w',?_,hs,hk (fun e=>by rw[e]at hl;exact h0 hl.symm)⟩
 have e:v.cells.size=P.cellsOf t:=by rw[←hl,←eX];simp
 simp only[storeVar,Sem.run_bind,bN hi,Result.andThen_ok,e,ne_eq,not_true_eq_false,if_false,eX]
 exact hr
end
end Go.Vc

set_option linter.unusedSimpArgs false
namespace Go.Vc
section
variable {P : Program} {o : Oper} {a : Act} {ev : Ev} {H : Hp} {K : Value → Hp → Prop}
theorem eB.out{c F:Prop}(h:eB c F):c∧F:=h
theorem BD{v:Value}{F:Bool→Prop}(h:Dg v F):∃b,v= .bool b∧F b:=by
 unfold Dg at h;split at h
 ·exact⟨_,rfl,h⟩
 ·exact h.elim
theorem yx{l:List Value}{t:TypeId}{off:Nat}{v:Value}(hi:(P.info? t).isSome=true)(hu:(P.underlying t).isSome=true)
  (h:xI l off (if fC P t then some (P.cellsOf t)else none)=some v)(w:World):(part t l.toArray off).run P w= .ok v w:=by
 unfold part
 simp only[Sem.run_bind,BC hu,Result.andThen_ok]
 cases hb:fC P t
 ·rw[hb]at h
  simp only[aoQ,if_false,xI]at h ⊢
  simp[h]
 ·rw[hb]at h
  simp only[if_true,xI]at h ⊢
  split at h
  ·injection h with h
   subst h
   simp only[Sem.run_bind,bN hi,Result.andThen_ok,Sem.run_pure]
   congr 2
   apply Array.ext'
   simp[List.take_drop]
  ·cases h
theorem info_of_underlying{t:TypeId}(h:(P.underlying t).isSome=true):(P.info? t).isSome=true:=by
 unfold Program.underlying at h
 cases hi:P.info? t with
 |none=>rw[hi]at h;simp at h
 |some i=>rfl
theorem MU(m:Nat){t:TypeId}{s:Shape}{x y:Value}{b:Bool}{d:Nat}(ht:shapeOf P d t=some s)(hs:∀fs,s≠ .s fs)(h:bB s x y=some b)(w:World):
  (Op.equalIn (m+1) t x y).run P w= .ok b w:=by
 cases d with
 |zero=>simp[shapeOf]at ht
 |succ d=>
  rw[ir]at ht
  split at ht
  case h_9=>
   split at ht
   ·cases ht
   ·rename_i fs hu hp
    cases Z8:fJ P d fs.toList with
    |none=>rw[Z8]at ht;cases ht
    |some l=>rw[Z8]at ht;injection ht with ht;exact absurd ht.symm (hs l)
  case h_10=>cases ht
  all_goals(injection ht with ht;subst ht)
  all_goals(unfold bB at h;split at h<;>rename_i hu<;>first| (cases hu;done)| (cases h;done)|skip)
  all_goals(try(split at h<;>first| (cases h;done)|skip))
  all_goals(injection h with h;subst h)
  all_goals(simp only[Op.equalIn,Sem.run_bind,ap ‹P.underlying t=_›,Result.andThen_ok])
  all_goals first|rfl| (rw[if_pos (by assumption)];rfl)| (simp[*,beq_toListBytes];done)| (simp_all;done)|skip
theorem Dk:∀ (d:Nat),
  (∀ (t:TypeId) (s:Shape) (x y:Value) (b:Bool),shapeOf P d t=some s→tB s x y=some b→∀ (m:Nat) (w:World),(Op.equalIn (m+d) t x y).run P w= .ok b w)∧
  (∀ (fs:List Field) (l:List (Nat×Option Nat×Shape)) (xs ys:List Value) (b:Bool),fJ P d fs=some l→CO l xs ys=some b→
   ∀ (m:Nat) (w:World),(Op.eqFields (m+d) xs.toArray ys.toArray fs).run P w= .ok b w):=by
 intro d
 induction d with
 |zero=>
  refine⟨fun t s x y b ht=>(by simp[shapeOf]at ht),fun fs l xs ys b hl h m w=>?_⟩
  cases fs with
  |nil=>simp only[Dh,anK]at hl;subst hl;simp only[CO,anK]at h;subst h;rfl
  |cons f fs=>simp[sJ,shapeOf]at hl
 |succ d ih=>
  have first:∀ (t:TypeId) (s:Shape) (x y:Value) (b:Bool),shapeOf P (d+1) t=some s→tB s x y=some b→∀ (m:Nat) (w:World),(Op.equalIn (m+(d+1)) t x y).run P w= .ok b w:=by
   intro t s x y b ht h m w
   by_cases hs:∃fs,s= .s fs
   ·obtain⟨l,rfl⟩:=hs
    cases x with
    |agg xs=>
     cases y with
     |agg ys=>
      simp only[tB]at h
      rw[ir]at ht
      split at ht
      case h_9=>
       split at ht
       ·cases ht
       ·rename_i fs hu hp
        cases Z8:fJ P d fs.toList with
        |none=>rw[Z8]at ht;cases ht
        |some l'=>
         rw[Z8]at ht
         simp only[Option.map_some,anK,Shape.s.injEq]at ht
         subst ht
         have hf:P.fieldsOf t=fs:=by simp[Program.fieldsOf,hu]
         rw[show m+(d+1)=(m+d)+1 by omega,run_equalIn_struct w (m+d) t xs ys (by rw[hf];exact hu) (by simpa using hp),hf]
         have:=(ih.2 fs.toList l' xs.toList ys.toList b Z8 h m w)
         simpa using this
      all_goals cases ht
     |_=>simp[tB,bB]at h
    |_=>cases y<;>simp[tB,bB]at h
   ·have h':bB s x y=some b:=by
     cases s<;>first|exact h| (exact absurd ⟨_,rfl⟩ hs)
    exact MU (m+d) ht (fun fs e=>hs ⟨fs,e⟩) h' w
  refine⟨first,fun fs=>?_⟩
  induction fs with
  |nil=>intro l xs ys b hl h m w;simp only[Dh,anK]at hl;subst hl;simp only[CO,anK]at h;subst h;rfl
  |cons f fs ihf=>
   intro l xs ys b hl h m w
   rw[sJ]at hl
   split at hl
   ·cases hl
   ·rename_i TL
    split at hl
    ·cases hl
    ·rename_i sh Iv
     cases hr:fJ P (d+1) fs with
     |none=>rw[hr]at hl;cases hl
     |some l'=>
      rw[hr]at hl
      simp only[Option.map_some,anK]at hl
      subst hl
      unfold CO at h
      split at h
      ·cases h
      ·rename_i x hx
       split at h
       ·cases h
       ·rename_i y hy
        have hu:(P.underlying f.type).isSome=true:=by
         rw[ir]at Iv
         split at Iv<;>first| (cases Iv;done)|simp_all
        have hi:=info_of_underlying hu
        simp only[Op.eqFields,TL,ne_eq,not_false_eq_true,if_true,Sem.run_bind,yx hi hu hx,yx hi hu hy,Result.andThen_ok]
        split at h
        ·rename_i he
         rw[first f.type sh x y true Iv he m w]
         simpa using ihf l' xs ys b hr h m w
        ·rename_i he
         injection h with h
         subst h
         rw[first f.type sh x y false Iv he m w]
         simp
        ·cases h
end
end Go.Vc

namespace Go.Vc
section
variable {P : Program} {o : Oper} {a : Act} {ev : Ev} {H : Hp} {K : Value → Hp → Prop}
abbrev bT(ev:Ev)(a:Act):Prop:=∀x v,ev x=some v→a.eval x=v
theorem bc{x:Operand}{F:Value→Prop}(bI:bT ev a)(h:aF (ev x) F):F (a.eval x):=by
 obtain⟨v,hv,h⟩:=aC h
 rw[bI x v hv];exact h
theorem MV{x:Operand}(bI:bT ev a)(ho:o.op= .move x∨o.op= .assign x)(h:(df.dk x).vc P ev H K):dZ P o a H K:=by
 have h:=bc bI h
 refine⟨_,fun w=>?_,h⟩
 rcases ho with ho|ho<;>simp[execOp,ho]
theorem Rb{c x y:Operand}(bI:bT ev a)(ho:o.op= .pick c x y)(h:(df.pick c x y).vc P ev H K):dZ P o a H K:=by
 obtain⟨b,hb,h⟩:=BD (bc bI h)
 have h2:aF (ev (bif b then x else y)) fun v=>K v H:=by cases b<;>exact h
 have h:=bc bI h2
 refine⟨_,fun w=>?_,h⟩
 simp only[execOp,ho,hb,asBool]
 cases b<;>simp
theorem Jz{x:Operand}(bI:bT ev a)(ho:o.op= .nilCheck x)(h:(df.nilCheck x).vc P ev H K):dZ P o a H K:=by
 obtain⟨hn,h⟩:=(bc bI h).out
 refine⟨_,fun w=>?_,h⟩
 simp only[execOp,ho]
 rcases hn with hn| ⟨name,t,u,cap,hv,hn⟩
 ·revert hn
  generalize a.eval x=v
  cases v with
  |pointer q=>cases q<;>simp[HU]
  |func fn x y=>cases fn<;>simp[HU]
  |_=>simp[HU]
 ·rw[hv]
  have hz:(#[Value.iface t u]:Array Value)[0]? =some (.iface t u):=rfl
  simp[hz,hn w]
theorem VK{op:UnOp}{t:TypeId}{x:Operand}(bI:bT ev a)(ho:o.op= .unOp op t x)(h:(df.un op x).vc P ev H K):dZ P o a H K:=by
 obtain⟨v,hv,h⟩:=aC (bc bI h)
 refine⟨v,fun w=>?_,h⟩
 simp only[execOp,ho]
 revert hv
 generalize a.eval x=u
 intro hv
 unfold unF at hv
 split at hv<;>first| (cases hv;done)|skip
 all_goals(injection hv with hv;subst hv;simp[Op.unary,Op.intArith,Op.intBits])
theorem Rc{s t:TypeId}{k k':IntKind}{x:Operand}(bI:bT ev a)(ho:o.op= .convert s t x)(hs:P.underlying s=some (.int k'))(ht:P.underlying t=some (.int k))
  (h:(df.conv k x).vc P ev H K):dZ P o a H K:=by
 obtain⟨k1,n,hn,h⟩:=kM (bc bI h)
 refine⟨_,fun w=>?_,h⟩
 simp only[execOp,ho,convert,hn,Sem.run_bind,ap hs,ap ht,Result.andThen_ok,Conv.intToInt]
 rfl
theorem TM{t:TypeId}{ms:Array (String×TypeId)}(hu:P.underlying t=some (.interface ms))(v:Value)(b:Bool)(hv:(v= .nilIface∧b=true)∨∃t' u,v= .iface t' u∧b=false)(w:World):(Op.equal t v .nilIface).run P w= .ok b w:=by
 have h:∀m:Nat,(Op.equalIn (m+1) t v .nilIface).run P w= .ok b w:=fun m=>by
  rcases hv with ⟨rfl,rfl⟩| ⟨t',u,rfl,rfl⟩<;>simp only[Op.equalIn,Sem.run_bind,ap hu,Result.andThen_ok]<;>rfl
 exact h 9999
theorem J5{op:BinOp}{neg:Bool}{t t':TypeId}{ms:Array (String×TypeId)}{x:Operand}(bI:bT ev a)(ho:o.op= .binOp op t x (.const .nilIface) t')(hu:P.underlying t=some (.interface ms))
  (Dt:(op= .eql∧neg=false)∨(op= .neq∧neg=true))(h:(df.VG neg x).vc P ev H K):dZ P o a H K:=by
 obtain⟨b,hv,h⟩:∃b,((a.eval x= .nilIface∧b=true)∨∃t' u,a.eval x= .iface t' u∧b=false)∧K (.bool (OU neg b)) H:=by
  rcases J3 (bc bI h)with ⟨e,h⟩| ⟨t',u,e,h⟩
  ·exact⟨true,.inl ⟨e,rfl⟩,h⟩
  ·exact⟨false,.inr ⟨t',u,e,rfl⟩,h⟩
 refine⟨_,fun w=>?_,h⟩
 have hr:=TM (P:=P) hu (a.eval x) b hv w
 have hc:a.eval (.const .nilIface)= .nilIface:=rfl
 simp only[execOp,ho,Sem.run_bind,hc]
 generalize a.eval x=u at hv hr ⊢
 have hg:(eqGuard op t x (.const .nilIface) u .nilIface).run P w= .ok () w:=by
  unfold eqGuard
  rcases Dt with ⟨rfl,_⟩| ⟨rfl,_⟩<;>rcases hv with ⟨rfl,_⟩| ⟨t',u',rfl,_⟩<;>simp
 rw[hg]
 simp only[Result.andThen_ok]
 rcases Dt with ⟨rfl,rfl⟩| ⟨rfl,rfl⟩<;>rcases hv with ⟨rfl,rfl⟩| ⟨t',u',rfl,rfl⟩<;>simp[binOp,hr,OU]
theorem MW{s t:TypeId}{d:TypeDesc}{x:Operand}(bI:bT ev a)(ho:o.op= .typeAssert x s t false)(hs:P.underlying t=some d)(hd:∀ms,d≠ .interface ms)
  (h:(df.GJ t x).vc P ev H K):dZ P o a H K:=by
 obtain⟨u,hx,h⟩:=Dj (bc bI h)
 refine⟨_,fun w=>?_,h⟩
 simp only[execOp,ho,hx,Instr.typeAssert,Sem.run_bind,ap hs,Result.andThen_ok]
 cases d<;>first| (exact absurd rfl (hd _))|simp
theorem OV{t:TypeId}{d:TypeDesc}{x:Operand}(bI:bT ev a)(ho:o.op= .makeInterface t x)(hs:P.underlying t=some d)(hd:∀ms,d≠ .interface ms)
  (h:(df.iface t x).vc P ev H K):dZ P o a H K:=by
 have h:=bc bI h
 refine⟨_,fun w=>?_,h⟩
 simp only[execOp,ho,Instr.makeInterface,Sem.run_bind,ap hs,Result.andThen_ok]
 cases d<;>first| (exact absurd rfl (hd _))|simp
theorem Re{fn:Fn}{first captured:Array Operand}(bI:bT ev a)(ho:o.op= .makeFunc fn first captured)(h:(df.func fn first.toList captured.toList).vc P ev H K):dZ P o a H K:=by
 have h:=nY bI (nY bI h)
 refine⟨_,fun w=>?_,h⟩
 simp only[execOp,ho,Instr.makeFunc,Sem.run_bind,Sem.run_pure,Result.andThen_ok]
 congr 3
 ·apply Array.ext';simp
 ·apply Array.ext';simp
theorem uW{c:Bool}{m:Sem Unit}{w:World}(h:m.run P w= .ok () w):(if(!c)=true then(pure ():Sem Unit)else m).run P w= .ok () w:=by
 cases c
 ·rfl
 ·simpa using h
theorem xY{op:BinOp}{t:TypeId}{s:Shape}{x y:Operand}{u v:Value}{b:Bool}(h:tB s u v=some b)(hg:VH s=true∨P.eqGuardType P.depth t=false)(w:World):
  (eqGuard op t x y u v).run P w= .ok () w:=by
 unfold eqGuard
 refine uW ?_
 cases u with
 |nilIface=>
  cases v with
  |nilIface=>cases s<;>simp[tB,bB]at h
  |_=>rfl
 |agg xs=>
  cases v with
  |agg ys=>
   rcases hg with hg|hg
   ·cases s<;>simp_all[tB,bB,VH]
   ·simp[hg]
  |_=>rfl
 |_=>cases v<;>rfl
theorem HV{t:TypeId}{s:Shape}{u v:Value}{b:Bool}(hs:shapeOf P fD t=some s)(h:tB s u v=some b)(hu:∀k n,u≠ .int k n∨∀k' m,v≠ .int k' m)
  (vu:∀x,u≠ .string x∨∀y,v≠ .string y)(w:World):
  (binOp .eql t u v).run P w= .ok (.bool b) w∧(binOp .neq t u v).run P w= .ok (.bool (!b)) w:=by
 have he:(Op.equal t u v).run P w= .ok b w:=by
  unfold Op.equal Op.maxDepth
  have:=(Dk (P:=P) fD).1 t s u v b hs h (10000 - fD) w
  simpa[fD]using this
 have aS:∀ {op},op=BinOp.eql∨op=BinOp.neq→binOp op t u v=(if op=BinOp.eql then(do pure (.bool (←Op.equal t u v)))else(do pure (.bool (!(←Op.equal t u v))))):=by
  intro op Dt
  cases u<;>cases v<;>rcases Dt with rfl|rfl<;>first
   |rfl
   | (rcases hu _ _ with h1|h1<;>first|exact absurd rfl h1|exact absurd rfl (h1 _ _))
   | (rcases vu _ with h1|h1<;>first|exact absurd rfl h1|exact absurd rfl (h1 _))
   | (cases s<;>simp[tB,bB]at h)
 rw[aS (.inl rfl),aS (.inr rfl)]
 simp[he]
def TN(op:BinOp)(s:Shape)(u z:Value):Option Value:=match op with| .eql=>(tB s u z).map .bool| .neq=>(tB s u z).map fun b=>.bool (!b)|_=>none
theorem Rf{op:BinOp}{s:Shape}{u z:Value}(h1:∀k n,u≠ .int k n∨∀k' m,z≠ .int k' m)(h2:∀p,u≠ .string p∨∀q,z≠ .string q):cA op s u z=TN op s u z:=by
 unfold cA TN
 split
 ·rcases h1 _ _ with h|h<;>first|exact absurd rfl h|exact absurd rfl (h _ _)
 ·rcases h2 _ with h|h<;>first|exact absurd rfl h|exact absurd rfl (h _)
 ·rfl
theorem HW{op:BinOp}{t t':TypeId}{s:Shape}{x y:Operand}(bI:bT ev a)(ho:o.op= .binOp op t x y t')
  (hs:(op= .eql∨op= .neq)→shapeOf P fD t=some s∧(VH s=true∨P.eqGuardType P.depth t=false))
  (h:(df.aD op s x y).vc P ev H K):dZ P o a H K:=by
 obtain⟨v,hv,h⟩:=aC (bc bI (bc bI h))
 refine⟨v,fun w=>?_,h⟩
 simp only[execOp,ho,Sem.run_bind]
 generalize hx:a.eval x=u at hv ⊢
 generalize hy:a.eval y=z at hv ⊢
 have hint:∀k n k' m,u= .int k n→z= .int k' m→(eqGuard op t x y u z).run P w= .ok () w∧(binOp op t u z).run P w= .ok v w:=by
  intro k n k' m e1 e2
  subst e1;subst e2
  refine⟨uW rfl,?_⟩
  ·unfold cA at hv
   by_cases hk:k=k'
   ·subst hk
    cases op<;>simp only[binOp,Op.shift,Op.intArith,Op.intDiv,Op.intBits,Op.intCmp]at hv ⊢ <;>simp at hv ⊢ <;>first
     | (subst hv;rfl)
     | (split at hv<;>first| (cases hv;done)| (injection hv with hv;subst hv;rename_i hc;simp[hc];done)|skip)
     | (obtain⟨h1,rfl⟩:=hv;simp[show¬m<0 by omega])
     | (obtain⟨h1,rfl⟩:=hv;simp[h1])
     |skip
   ·cases op<;>simp[hk]at hv<;>simp only[binOp,Op.shift]<;>first
     | (obtain⟨h1,rfl⟩:=hv;simp[show¬m<0 by omega])
     |skip
 have agY:∀p q,u= .string p→z= .string q→(eqGuard op t x y u z).run P w= .ok () w∧(binOp op t u z).run P w= .ok v w:=by
  intro p q e1 e2
  subst e1;subst e2
  refine⟨uW rfl,?_⟩
  ·unfold cA at hv
   cases op<;>simp only[binOp,Op.stringOp]at hv ⊢ <;>simp at hv ⊢ <;>first
    | (subst hv;rfl)
    | (obtain⟨h1,rfl⟩:=hv;simp[show¬ (9223372036854775807:Int)< (p.size:Int)+q.size by omega])
    | (obtain⟨h1,rfl⟩:=hv;rw[if_neg (by omega)])
    | (cases hv;done)
    |skip
 have acy:(∀k n,u≠ .int k n∨∀k' m,z≠ .int k' m)→(∀p,u≠ .string p∨∀q,z≠ .string q)→(eqGuard op t x y u z).run P w= .ok () w∧(binOp op t u z).run P w= .ok v w:=by
  intro h1 h2
  have hb:=Rf (op:=op) (s:=s) h1 h2
  rw[hb]at hv
  cases op<;>simp only[TN]at hv<;>first| (cases hv;done)|skip
  ·obtain⟨fE,NO⟩:=hs (.inl rfl)
   cases he:tB s u z with
   |none=>rw[he]at hv;cases hv
   |some b=>rw[he]at hv;injection hv with hv;subst hv;exact⟨xY he NO w,(HV fE he h1 h2 w).1⟩
  ·obtain⟨fE,NO⟩:=hs (.inr rfl)
   cases he:tB s u z with
   |none=>rw[he]at hv;cases hv
   |some b=>rw[he]at hv;injection hv with hv;subst hv;exact⟨xY he NO w,(HV fE he h1 h2 w).2⟩
 have key:(eqGuard op t x y u z).run P w= .ok () w∧(binOp op t u z).run P w= .ok v w:=by
  by_cases h1:∃k n k' m,u= .int k n∧z= .int k' m
  ·obtain⟨k,n,k',m,e1,e2⟩:=h1;exact hint k n k' m e1 e2
  ·by_cases h2:∃p q,u= .string p∧z= .string q
   ·obtain⟨p,q,e1,e2⟩:=h2;exact agY p q e1 e2
   ·refine acy (fun k n=>?_) (fun p=>?_)
    ·by_cases e:u= .int k n
     ·exact .inr fun k' m e'=>h1 ⟨k,n,k',m,e,e'⟩
     ·exact .inl e
    ·by_cases e:u= .string p
     ·exact .inr fun q e'=>h2 ⟨p,q,e,e'⟩
     ·exact .inl e
 simp[key.1,key.2]
end
end Go.Vc

namespace Go.Vc
section
variable {P : Program} {o : Oper} {a : Act} {ev : Ev} {H : Hp} {K : Value → Hp → Prop}
theorem Lg{i:Nat}{x:Operand}(bI:bT ev a)(ho:o.op= .extract x i)(h:(df.extract i x).vc P ev H K):dZ P o a H K:=by
 obtain⟨vs,hv,h⟩:=J1 (bc bI h)
 obtain⟨v,hi,h⟩:=aC h
 refine⟨v,fun w=>?_,h⟩
 have hi':vs[i]? =some v:=by simpa using hi
 simp[execOp,ho,hv,Instr.extract,hi']
theorem HY{t:TypeId}{f:Nat}{x:Operand}{fields:Array Field}{fd:Field}(bI:bT ev a)(ho:o.op= .fieldAddr t x f)(ht:P.underlying t=some (.struct fields))
  (hf:fields[f]? =some fd)(hi:(P.info? fd.type).isSome=true)(h0:P.cellsOf fd.type≠0)(h:(df.fieldAddr fd.offset x).vc P ev H K):dZ P o a H K:=by
 obtain⟨b,off,hv,h⟩:=fM (bc bI h)
 refine⟨_,fun w=>?_,h⟩
 simp[execOp,ho,hv,Instr.fieldAt,ap ht,hf,Instr.sureAddr,fieldPlace,bN hi,h0,Bf]
theorem OW{t:TypeId}{f:Nat}{x:Operand}{fields:Array Field}{fd:Field}(bI:bT ev a)(ho:o.op= .field t x f)(ht:P.underlying t=some (.struct fields))
  (hf:fields[f]? =some fd)(hi:(P.info? fd.type).isSome=true)(hu:(P.underlying fd.type).isSome=true)
  (h:(df.field fd.offset (if fC P fd.type then some (P.cellsOf fd.type)else none) x).vc P ev H K):dZ P o a H K:=by
 obtain⟨vs,hv,h⟩:=J2 (bc bI h)
 obtain⟨v,hp,h⟩:=aC h
 refine⟨v,fun w=>?_,h⟩
 have:=yx hi hu hp w
 simp only[apf]at this
 simp[execOp,ho,hv,Instr.field,ap ht,hf,asAgg,this]
theorem HZ{t e:TypeId}{x i:Operand}(bI:bT ev a)(ho:o.op= .indexAddr t x i)(ht:P.underlying t=some (.slice e))(hi:(P.info? e).isSome=true)
  (h:(df.indexAddr (P.cellsOf e) x i).vc P ev H K):dZ P o a H K:=by
 obtain⟨ad,n,c,hx,h⟩:=kN (bc bI (bc bI h))
 obtain⟨k,j,hj,h⟩:=kM h
 obtain⟨hb,h⟩:=h.out
 obtain⟨b,off,rfl,h⟩:=qS h
 refine⟨_,fun w=>?_,h⟩
 simp[execOp,ho,hx,hj,Instr.indexAt,ap ht,asIntOf,hb.1,hb.2,bN hi,Bf]
theorem JA{t e:TypeId}{n:Nat}{x i:Operand}(bI:bT ev a)(ho:o.op= .indexAddr t x i)(ht:P.underlying t=some (.array n e))(hi:(P.info? e).isSome=true)
  (h:(df.gO n (P.cellsOf e) x i).vc P ev H K):dZ P o a H K:=by
 obtain⟨b,off,hx,h⟩:=fM (bc bI (bc bI h))
 obtain⟨k,j,hj,h⟩:=kM h
 obtain⟨hb,h⟩:=h.out
 refine⟨_,fun w=>?_,h⟩
 simp[execOp,ho,hx,hj,Instr.indexAt,ap ht,asIntOf,hb.1,hb.2,bN hi,Bf,Instr.sureAddr]
theorem MX{t:TypeId}{x i:Operand}(bI:bT ev a)(ho:o.op= .index t x i)(ht:P.underlying t=some .string)
  (h:(df.Ld x i).vc P ev H K):dZ P o a H K:=by
 obtain⟨s,hx,h⟩:=pS (bc bI (bc bI h))
 obtain⟨k,j,hj,h⟩:=kM h
 obtain⟨h0,h⟩:=h.out
 obtain⟨b,hb,h⟩:=aC h
 refine⟨_,fun w=>?_,h⟩
 simp[execOp,ho,hx,hj,Instr.index,ap ht,asIntOf,h0,hb]
theorem n7{x:Option Operand}{d:Nat}{F:Int→Prop}(bI:bT ev a)(h:sL ev x d F):
  ∃n,F n∧((x=none∧n=d)∨∃y k,x=some y∧a.eval y= .int k n):=by
 cases x with
 |none=>exact⟨d,h,.inl ⟨rfl,rfl⟩⟩
 |some y=>
  obtain⟨k,n,hy,h⟩:=kM (bc bI h)
  exact⟨n,h,.inr ⟨y,k,rfl,hy⟩⟩
theorem is{k:IntKind}{i:Int}{y:Nat}{code:BoundsCode}(h0:0≤i)(h1:i≤y)(w:World):(Instr.sliceBound (.int k i) y code).run P w= .ok i.toNat w:=by
 simp[Instr.sliceBound,asIntOf,h0,h1]
theorem Ia{isS:Bool}{n c:Nat}{lo hi mx:Option Operand}{l h m:Int}(hl:(lo=none∧l=0)∨∃y k,lo=some y∧a.eval y= .int k l)
  (hh:(hi=none∧h=n)∨∃y k,hi=some y∧a.eval y= .int k h)(hm:(mx=none∧m=c)∨∃y k,mx=some y∧a.eval y= .int k m)
  (h3:mx.isSome=true→hi.isSome=true)(hb:0≤l∧l≤h∧h≤m∧m≤c)(w:World):
  (Instr.sliceBounds isS n c (lo.map a.eval) (hi.map a.eval) (mx.map a.eval)).run P w= .ok (l.toNat,h.toNat,m.toNat) w:=by
 obtain⟨h1,h2,h4,h5⟩:=hb
 unfold Instr.sliceBounds
 rcases hm with ⟨rfl,rfl⟩| ⟨ym,km,rfl,em⟩
 ·rcases hh with ⟨rfl,rfl⟩| ⟨yh,kh,rfl,eh⟩<;>rcases hl with ⟨rfl,rfl⟩| ⟨yl,kl,rfl,el⟩<;>
   simp only[Option.map_none,Option.map_some,Option.isSome_none,Sem.run_bind,Sem.run_pure,Result.andThen_ok, *]
  ·rfl
  ·rw[is h1 (by omega)];rfl
  ·rw[is (by omega) (by omega)];rfl
  ·rw[is (by omega) (by omega)];simp only[Result.andThen_ok];rw[is h1 (by omega)];rfl
 ·rcases hh with ⟨rfl,rfl⟩| ⟨yh,kh,rfl,eh⟩
  ·exact absurd (h3 rfl) (by simp)
  ·rcases hl with ⟨rfl,rfl⟩| ⟨yl,kl,rfl,el⟩<;>simp only[Option.map_none,Option.map_some,Option.isSome_some,Sem.run_bind,Sem.run_pure,Result.andThen_ok, *]
   ·rw[is (by omega) (by omega)];simp only[Result.andThen_ok];rw[is (by omega) (by omega)];rfl
   ·rw[is (by omega) (by omega)];simp only[Result.andThen_ok];rw[is (by omega) (by omega)];simp only[Result.andThen_ok];rw[is h1 (by omega)];rfl
theorem OX{t e:TypeId}{x:Operand}{lo hi mx:Option Operand}(bI:bT ev a)(ho:o.op= .slice t x lo hi mx)(ht:P.underlying t=some (.slice e))(hie:(P.info? e).isSome=true)
  (h3:mx.isSome=true→hi.isSome=true)(h:(df.slice (P.cellsOf e) x lo hi mx).vc P ev H K):dZ P o a H K:=by
 obtain⟨ad,n,c,hx,h⟩:=kN (bc bI h)
 obtain⟨m,h,hm⟩:=n7 bI h
 obtain⟨hh,h,hhi⟩:=n7 bI h
 obtain⟨l,h,WY⟩:=n7 bI h
 obtain⟨hb,h⟩:=h.out
 refine⟨_,fun w=>?_,h⟩
 have hr:=Ia (P:=P) (isS:=true) (n:=n) (c:=c) WY hhi hm h3 hb w
 simp only[execOp,ho,Instr.sliceAt,Sem.run_bind,ap ht,Result.andThen_ok,Instr.slice,hx,hr,bN hie,Sem.run_pure]
 by_cases hml:m=l
 ·subst hml;simp
 ·rw[if_neg hml,if_neg (by omega)]
theorem MY{t:TypeId}{x:Operand}{lo hi:Option Operand}(bI:bT ev a)(ho:o.op= .slice t x lo hi none)(ht:P.underlying t=some .string)
  (h:(df.Lc x lo hi).vc P ev H K):dZ P o a H K:=by
 obtain⟨s,hx,h⟩:=pS (bc bI h)
 obtain⟨hh,h,hhi⟩:=n7 bI h
 obtain⟨l,h,WY⟩:=n7 bI h
 obtain⟨hb,h⟩:=h.out
 refine⟨_,fun w=>?_,h⟩
 have hr:=Ia (P:=P) (isS:=false) (n:=s.size) (c:=s.size) (m:=s.size) (mx:=none) WY hhi (.inl ⟨rfl,rfl⟩) (by simp) ⟨hb.1,hb.2.1,hb.2.2,apF _⟩ w
 simp only[Option.map_none]at hr
 simp only[execOp,ho,Instr.sliceAt,Sem.run_bind,ap ht,Result.andThen_ok,Instr.slice,hx,hr,Sem.run_pure,Option.map_none,Option.isSome_none,aoQ,if_false]
theorem Lh(vs:List Value):∀ (n off:Nat) (z:Array Value),((vs.zipIdx n).foldl (fun cs (c,j)=>cs.setIfInBounds (off+j) c) z).toList=bk z.toList (off+n) vs:=by
 induction vs with
 |nil=>intro n off z;rfl
 |cons v vs ih=>
  intro n off z
  rw[List.zipIdx_cons,List.foldl_cons,rM]
  have:=ih (n+1) off (z.setIfInBounds (off+n) v)
  rw[this]
  simp[apX]
theorem fill_eq{place:Nat→Option (Nat×Nat)}:∀ (ps:List (Nat×Operand)) (qs:List (Nat×Nat×Operand)) (z:Array Value) (F:List Value→Prop),
  List.length ps=List.length qs→(∀ (j i:Nat) (x:Operand),ps[j]? =some (i,x)→∃off size:Nat,qs[j]? =some (off,size,x)∧place i=some (off,size)∧off+size≤z.size)→bT ev a→Di ev z.toList qs F→
   ∃z':Array Value,Instr.fill place z (ps.map fun(i,x)=>(i,a.eval x))=some z'∧F z'.toList:=by
 intro ps
 induction ps with
 |nil=>
  intro qs z F hl hp bI h
  cases qs with
  |nil=>exact⟨z,rfl,h⟩
  |cons q qs=>simp at hl
 |cons p ps ih=>
  intro qs z F hl hp bI h
  obtain⟨i,x⟩:=p
  cases qs with
  |nil=>simp at hl
  |cons q qs=>
   obtain⟨off,size,hq,Ng,vf⟩:=hp 0 i x rfl
   simp only[an7,anK]at hq
   subst hq
   obtain⟨hn,h⟩:=(bc bI h).out
   have NN:(a.eval x).cells.size=size:=by rw[←hn,←eX];simp
   rw[aoy,Instr.fill]
   simp only[Ng,NN,ne_eq,not_true_eq_false,decide_false,apW,aoq]
   rw[if_neg (by omega)]
   have Wz:((a.eval x).cells.zipIdx.foldl (fun cs (c,j)=>cs.setIfInBounds (off+j) c) z).toList=bk z.toList off (aM (a.eval x)):=by
    have:=Lh (a.eval x).cells.toList 0 off z
    rw[eX]at this
    rw[←Array.foldl_toList,Array.toList_zipIdx,eX]
    simpa using this
   refine ih qs _ F (by simpa using hl) (fun j i' x' hj=>?_) bI (by rw[Wz];exact h)
   obtain⟨agZ,acz,hq',ag0,ag1⟩:=hp (j+1) i' x' (by simpa using hj)
   refine⟨agZ,acz,by simpa using hq',ag0,?_⟩
   have:((a.eval x).cells.zipIdx.foldl (fun cs (c,j)=>cs.setIfInBounds (off+j) c) z).size=z.size:=by
    rw[←Array.length_toList,Wz,nl,Array.length_toList]
   rw[this];exact ag1
end
end Go.Vc

namespace Go.Vc
section
variable {P : Program} {o : Oper} {a : Act} {ev : Ev} {H : Hp} {K : Value → Hp → Prop}
theorem uX{place:Nat→Option (Nat×Nat)}{Lf:Nat}:∀ (ps:List (Nat×Operand)) (qs:List (Nat×Nat×Operand)),nq place Lf ps=some qs→
  ps.length=qs.length∧∀ (j i:Nat) (x:Operand),ps[j]? =some (i,x)→∃off size:Nat,qs[j]? =some (off,size,x)∧place i=some (off,size)∧off+size≤Lf:=by
 intro ps
 induction ps with
 |nil=>intro qs h;simp only[nq,anK]at h;subst h;simp
 |cons p ps ih=>
  intro qs h
  obtain⟨i,x⟩:=p
  unfold nq at h
  split at h
  ·cases h
  ·rename_i off size Ng
   split at h
   ·rename_i vf
    cases hr:nq place Lf ps with
    |none=>rw[hr]at h;cases h
    |some qs'=>
     rw[hr]at h
     simp only[Option.map_some,anK]at h
     subst h
     obtain⟨h1,h2⟩:=ih qs' hr
     refine⟨by simp[h1],fun j i' x' hj=>?_⟩
     cases j with
     |zero=>
      simp only[an7,anK,Prod.mk.injEq]at hj
      obtain⟨rfl,rfl⟩:=hj
      exact⟨off,size,rfl,Ng,vf⟩
     |succ j=>exact h2 j i' x' (by simpa using hj)
   ·cases h
theorem MZ(fs:List Field)(h:∀f∈fs,(P.info? f.type).isSome=true)(w:World):
  (fs.mapM fun f=>(do pure (f.offset,←sizeOf f.type):Sem (Nat×Nat))).run P w= .ok (fs.map fun f=>(f.offset,P.cellsOf f.type)) w:=by
 induction fs with
 |nil=>rfl
 |cons f fs ih=>
  rw[List.mapM_cons]
  simp only[Sem.run_bind,bN (h f aoA),Result.andThen_ok,Sem.run_pure,ih fun g hg=>h g (aom _ hg),aoy]
theorem Dl(ps:Array (Nat×Operand)):(ps.map fun(i,x)=>(i,a.eval x)).toList=ps.toList.map fun(i,x)=>(i,a.eval x):=by simp
theorem OY{t:TypeId}{z:Value}{ps:Array (Nat×Operand)}{qs:List (Nat×Nat×Operand)}(bI:bT ev a)(ho:o.op= .build t ps)(hz:gw P t=some z)
  (hq:parts P t (aM z).length ps.toList=some qs)(h:(df.build (aM z) qs).vc P ev H K):dZ P o a H K:=by
 have OZ:z.cells.toList=aM z:=eX z
 have Pp:z.cells.size=(aM z).length:=by rw[←OZ];simp
 unfold parts at hq
 split at hq
 ·rename_i fields hu
  split at hq
  ·rename_i hk
   obtain⟨h1,h2⟩:=uX _ _ hq
   obtain⟨z',hf,Qn⟩:=fill_eq (a:=a) (ev:=ev) (place:=((placeOf P fields)[·]?)) ps.toList qs z.cells (fun l=>K (.agg l.toArray) H) h1
    (fun j i x hj=>by obtain⟨off,size,e1,e2,e3⟩:=h2 j i x hj;exact⟨off,size,e1,e2,by omega⟩) bI (by rw[OZ];exact h)
   refine⟨.agg z',fun w=>?_,by simpa using Qn⟩
   have Ng:(fields.mapM fun f=>(do pure (f.offset,←sizeOf f.type):Sem (Nat×Nat))).run P w= .ok (placeOf P fields) w:=by
    rw[Array.mapM_eq_mapM_toList,Sem.run_map,MZ fields.toList (fun f hf=>by
     have:=(ao7.1 hk) f (by simpa using hf);exact this) w]
    simp only[Result.andThen_ok]
    congr 1
    apply Array.ext'
    simp[placeOf]
   simp only[execOp,ho,Instr.build,Sem.run_bind,cR hz,ap hu,Result.andThen_ok,Ng,Dl,hf,Sem.run_pure]
  ·cases hq
 ·rename_i n e hu
  split at hq
  ·rename_i hi
   obtain⟨h1,h2⟩:=uX _ _ hq
   obtain⟨z',hf,Qn⟩:=fill_eq (a:=a) (ev:=ev) (place:=fun i=>some (i*P.cellsOf e,P.cellsOf e)) ps.toList qs z.cells (fun l=>K (.agg l.toArray) H) h1
    (fun j i x hj=>by obtain⟨off,size,e1,e2,e3⟩:=h2 j i x hj;exact⟨off,size,e1,e2,by omega⟩) bI (by rw[OZ];exact h)
   refine⟨.agg z',fun w=>?_,by simpa using Qn⟩
   simp only[execOp,ho,Instr.build,Sem.run_bind,cR hz,ap hu,Result.andThen_ok,bN hi,Dl,hf,Sem.run_pure]
  ·cases hq
 ·cases hq
theorem Dm{z:Array Value}{n size:Nat}(hs:z.size=size)(h0:size≠0):((Array.range (n*size)).map (z[· %z.size]!)).toList=cN z.toList n:=by
 subst hs
 induction n with
 |zero=>simp[cN]
 |succ n ih=>
  apply aoj
  intro i
  have hp:cN z.toList (n+1)=cN z.toList n++z.toList:=by simp[cN,apN]
  have bv:(cN z.toList n).length=n*z.size:=by rw[←ih];simp
  rw[hp]
  by_cases hi:i<n*z.size
  ·rw[anS (by omega),←ih]
   have:i< (n+1)*z.size:=by rw[aoR];omega
   simp[hi,this]
  ·rw[an5 (by omega),bv]
   by_cases oq:i< (n+1)*z.size
   ·have ve:i - n*z.size<z.size:=by rw[aoR]at oq;omega
    have UA:i%z.size=i - n*z.size:=by
     have e:i=(i - n*z.size)+z.size*n:=by rw[apR z.size n];omega
     rw[e,Nat.add_mul_mod_self_left,Nat.mod_eq_of_lt ve]
     rw[apR z.size n];omega
    simp[oq,UA,ve]
   ·have:z.size≤i - n*z.size:=by rw[aoR]at oq;omega
    simp[oq,this]
theorem E9(z:List Value)(n:Nat):(cN z n).length=n*z.length:=by simp[cN]
theorem TO{t e:TypeId}{n:Nat}{z:Value}{ps:Array (Nat×Operand)}{qs:List (Nat×Nat×Operand)}(bI:bT ev a)(ho:o.op= .buildSlice t n ps)(ht:P.underlying t=some (.slice e))
  (hz:gw P e=some z)(hi:(P.info? e).isSome=true)(h0:P.cellsOf e≠0)(hl:(aM z).length=P.cellsOf e)(hm:n*P.cellsOf e≤2^24)
  (hq:nq (fun i=>some (i*P.cellsOf e,P.cellsOf e)) (n*P.cellsOf e) ps.toList=some qs)(h:(df.lit e n (cN (aM z) n) qs).vc P ev H K):dX P o a H K:=by
 have OZ:z.cells.toList=aM z:=eX z
 have Pp:z.cells.size=P.cellsOf e:=by rw[←hl,←OZ];simp
 intro w hw
 subst hw
 obtain⟨h1,h2⟩:=uX _ _ hq
 have KU:∀ (zz:Array Value),(n*P.cellsOf e=0∨zz=z.cells)→((Array.range (n*P.cellsOf e)).map (zz[· %zz.size]!)).toList=cN (aM z) n:=by
  intro zz hzz
  rcases hzz with hzz|rfl
  ·have:n=0:=by
    rcases Nat.mul_eq_zero.1 hzz with h|h
    ·exact h
    ·exact absurd h h0
   subst this
   simp[cN]
  ·rw[Dm Pp h0,OZ]
 have main:∀zz:Array Value,(n*P.cellsOf e=0∨zz=z.cells)→∃z':Array Value,Instr.fill (fun i=>some (i*P.cellsOf e,P.cellsOf e)) ((Array.range (n*P.cellsOf e)).map (zz[· %zz.size]!)) (ps.toList.map fun(i,x)=>(i,a.eval x))=some z'∧
   K (.slice (some ⟨w.heap.size,0,none⟩) n n) (Hp.new w.heap e z'.toList):=by
  intro zz hzz
  exact fill_eq (a:=a) (ev:=ev) ps.toList qs _ (fun l=>K (.slice (some ⟨w.heap.size,0,none⟩) n n) (Hp.new w.heap e l)) h1
   (fun j i x hj=>by obtain⟨off,size,e1,e2,e3⟩:=h2 j i x hj;exact⟨off,size,e1,e2,by simpa using e3⟩) bI (by rw[KU zz hzz];exact h)
 by_cases hn:n*P.cellsOf e=0
 ·obtain⟨z',hf,hk⟩:=main #[] (.inl hn)
  refine .inl ⟨.slice (some ⟨w.heap.size,0,none⟩) n n,{w with heap:=Hp.new w.heap e z'.toList},?_,⟨rfl,rfl⟩,hk⟩
  simp only[execOp,ho,Instr.buildSlice,Sem.run_bind,ap ht,bN hi,Result.andThen_ok]
  rw[if_neg (by omega),if_pos hn]
  simp only[Sem.run_pure,Result.andThen_ok,Sem.run_bind,Dl,hf,nZ]
 ·obtain⟨z',hf,hk⟩:=main z.cells (.inr rfl)
  refine .inl ⟨.slice (some ⟨w.heap.size,0,none⟩) n n,{w with heap:=Hp.new w.heap e z'.toList},?_,⟨rfl,rfl⟩,hk⟩
  simp only[execOp,ho,Instr.buildSlice,Sem.run_bind,ap ht,bN hi,Result.andThen_ok]
  rw[if_neg (by omega),if_neg hn]
  simp only[Sem.run_pure,Result.andThen_ok,Sem.run_bind,cR hz,Dl,hf,nZ]
theorem TP{t:TypeId}{x:Operand}(bI:bT ev a)(ho:o.op= .box t x)(h:(df.box t x).vc P ev H K):dX P o a H K:=by
 intro w hw
 subst hw
 have h:=bc bI h
 refine .inl ⟨_,{w with heap:=Hp.new w.heap t (aM (a.eval x))},?_,⟨rfl,rfl⟩,h⟩
 simp[execOp,ho,Instr.box,Fe]
theorem Rg{t:TypeId}{z:Value}(hz:gw P t=some z)(ho:o.op= .alloc t)(h:(df.zero t (aM z)).vc P ev H K):dX P o a H K:=by
 intro w hw
 subst hw
 refine .inl ⟨_,{w with heap:=Hp.new w.heap t (aM z)},?_,⟨rfl,rfl⟩,h⟩
 simp[execOp,ho,Instr.alloc,Fe,cR hz]
theorem O0{t:TypeId}{x:Operand}(bI:bT ev a)(ho:o.op= .load t x)(hi:(P.info? t).isSome=true)(hu:(P.underlying t).isSome=true)(hg:fC P t=false)
  (h:(df.eK x).vc P ev H K):dX P o a H K:=by
 intro w hw
 subst hw
 obtain⟨b,off,hx,h⟩:=fM (bc bI h)
 obtain⟨l,hl,h⟩:=aC h
 obtain⟨v,hv,h⟩:=aC h
 refine .inl ⟨v,w,?_,bZ.refl w,h⟩
 simp[execOp,ho,Instr.loadAt,hx,Instr.sureAddr,(mh hi hu hl).2 hg v hv]
theorem O1{t:TypeId}{x:Operand}(bI:bT ev a)(ho:o.op= .load t x)(hi:(P.info? t).isSome=true)(hu:(P.underlying t).isSome=true)(hg:fC P t=true)
  (h:(df.zQ (P.cellsOf t) x).vc P ev H K):dX P o a H K:=by
 intro w hw
 subst hw
 obtain⟨b,off,hx,h⟩:=fM (bc bI h)
 obtain⟨l,hl,h⟩:=aC h
 obtain⟨hn,h⟩:=h.out
 refine .inl ⟨_,w,?_,bZ.refl w,h⟩
 simp only[execOp,ho,Instr.loadAt,hx,Instr.sureAddr,Sem.run_bind,Sem.run_pure,Result.andThen_ok,(mh hi hu hl).1 hg hn]
theorem O2{t:TypeId}{x y:Operand}(bI:bT ev a)(ho:o.op= .store t x y)(hi:(P.info? t).isSome=true)(h0:P.cellsOf t≠0)
  (h:(df.store (P.cellsOf t) x y).vc P ev H K):dX P o a H K:=by
 intro w hw
 subst hw
 obtain⟨b,off,hx,h⟩:=fM (bc bI h)
 obtain⟨l,hl,h⟩:=aC (bc bI h)
 obtain⟨h1,h⟩:=h.out
 obtain⟨h2,h⟩:=h.out
 obtain⟨h3,h⟩:=h.out
 obtain⟨w',hr,hs,hh⟩:=Jy (v:=a.eval y) hi h0 hl h1 (Q8 h2) h3
 refine .inr (.inl ⟨w',?_,hs,hh▸h⟩)
 simp[execOp,ho,Instr.storeAt,hx,Instr.sureAddr,hr]
theorem M0{t:TypeId}(ho:o.op= .makeMap t none)(h:df.AC.vc P ev H K):dX P o a H K:=by
 intro w hw
 subst hw
 refine .inl ⟨_,{w with heap:=Hp.fX w.heap},?_,⟨rfl,rfl⟩,h⟩
 simp only[execOp,ho,Option.map_none,Instr.makeMap,Sem.run_bind,Sem.run_pure,Result.andThen_ok,run_newObj,Hp.fX]
theorem wrap_i64{n:Int}(h0:0≤n)(h1:n≤2^62):IntKind.i64.wrap n=n:=by
 have e:(2^IntKind.i64.bits:Int)=18446744073709551616:=rfl
 have e':(2^ (IntKind.i64.bits - 1):Int)=9223372036854775808:=rfl
 unfold IntKind.wrap
 simp only[e,e',IntKind.signed,apY,aoq]
 split<;>omega
theorem Ib{t e:TypeId}{z:Value}{x y:Operand}(bI:bT ev a)(ho:o.op= .makeSlice t x y)(ht:P.underlying t=some (.slice e))(hz:gw P e=some z)
  (hi:(P.info? e).isSome=true)(h0:P.cellsOf e≠0)(hl:(aM z).length=P.cellsOf e)(h:(df.makeSlice e (P.bytesOf e) (P.cellsOf e) (aM z) x y).vc P ev H K):dX P o a H K:=by
 intro w hw
 subst hw
 have h:=bc bI (bc bI h)
 obtain⟨k,n,hx,h⟩:=kM h
 obtain⟨k',c,hy,h⟩:=kM h
 obtain⟨⟨h1,h2,h3,h4⟩,h⟩:=h.out
 refine .inl ⟨_,{w with heap:=Hp.new w.heap e (cN (aM z) c.toNat)},?_,⟨rfl,rfl⟩,h⟩
 obtain⟨i,hi'⟩:=Option.isSome_iff_exists.1 hi
 have hb:i.bytes=P.bytesOf e:=by simp[Program.bytesOf,hi']
 have OZ:z.cells.toList=aM z:=eX z
 have Pp:z.cells.size=P.cellsOf e:=by rw[←hl,←OZ];simp
 have w1:=wrap_i64 h1 (by omega:n≤2^62)
 have w2:=wrap_i64 (by omega:0≤c) (by omega:c≤2^62)
 simp only[execOp,ho,Instr.makeSlice,Sem.run_bind,ap ht,Result.andThen_ok,hx,hy,asInt,asIntOf,Sem.run_pure,et hi',hb,w1,w2,run_askRoom,bN hi]
 have t1:(decide (c<0) || decide ((P.bytesOf e:Int)*c>2^48))=false:=by simp;omega
 rw[if_neg (by simp only[t1,aoQ,false_or,Bool.or_eq_true,aoq];omega)]
 simp only[Sem.run_bind,run_askRoom,Result.andThen_ok,bN hi]
 by_cases hn:c.toNat*P.cellsOf e=0
 ·have rA:c.toNat=0:=by rcases Nat.mul_eq_zero.1 hn with h|h;exact h;exact absurd h h0
  rw[if_pos hn]
  simp only[rA,aol,Sem.run_bind,Sem.run_pure,Result.andThen_ok,nZ]
  simp[cN]
 ·rw[if_neg hn]
  simp only[Sem.run_bind,cR hz,Sem.run_pure,Result.andThen_ok,nZ,Dm Pp h0,OZ]
theorem Gq{H:Hp}{b:Nat}{x:List MapEntry×Nat}(h:H.mp b=some x):∃es:Array MapEntry,H[b]? =some (.map es x.2)∧es.toList=x.1:=by
 unfold Hp.mp at h
 split at h
 ·rename_i es k hb;injection h with h;exact⟨es,by rw[hb,←h],by rw[←h]⟩
 ·cases h
theorem rN{w:World}{b:Nat}{es:Array MapEntry}{k:Nat}(h:w.heap[b]? =some (.map es k)):(getObj b).run P w= .ok (.map es k) w:=by simp[getObj,Sem.run,h]
theorem rO{w:World}{b:Nat}{es WA:Array MapEntry}{k k':Nat}(h:w.heap[b]? =some (.map es k)):
  (setObj b (.map WA k')).run P w= .ok () {w with heap:=Hp.EW w.heap b WA.toList k'}:=by
 simp[setObj,Sem.run,h,Hp.EW]
theorem vC{t:TypeId}{s:Shape}(h:cE P t=some s)(hs:∀fs,s≠ .s fs):shapeOf P fD t=some s∧nm s=true:=by
 unfold cE at h
 split at h
 ·injection h with h;subst h;simp[shapeOf,fD, *,nm]
 ·injection h with h;subst h;simp[shapeOf,fD, *,nm]
 ·injection h with h;subst h;simp[shapeOf,fD, *,nm]
 ·split at h
  ·split at h
   ·injection h with h;exact absurd h.symm (hs _)
   ·cases h
  ·cases h
 ·cases h
theorem Ic{t:TypeId}{s:Shape}(h:cE P t=some s):shapeOf P fD t=some s:=by
 by_cases hs:∃fs,s= .s fs
 ·obtain⟨fs,rfl⟩:=hs
  unfold cE at h
  split at h
  ·cases h
  ·cases h
  ·cases h
  ·split at h
   ·split at h
    ·injection h with h;injection h with h;subst h;assumption
    ·cases h
   ·cases h
  ·cases h
 ·exact(vC h fun fs e=>hs ⟨fs,e⟩).1
theorem vD{d:Nat}{t:TypeId}{s:Shape}(h:shapeOf P d t=some s)(hk:nm s=true)(v:Value)(e:Bool)(n:Nat)(w:World):(Instr.checkKey e (n+1) t v).run P w= .ok () w:=by
 cases d with
 |zero=>simp[shapeOf]at h
 |succ d=>
  rw[ir]at h
  split at h
  ·injection h with h;subst h;simp[Instr.checkKey,ap ‹P.underlying t=_›]
  ·injection h with h;subst h;simp[Instr.checkKey,ap ‹P.underlying t=_›]
  ·injection h with h;subst h;simp[Instr.checkKey,ap ‹P.underlying t=_›]
  case h_9=>
   split at h
   ·cases h
   ·rename_i fs _ _
    cases hr:fJ P d fs.toList with
    |none=>rw[hr]at h;cases h
    |some l=>rw[hr]at h;injection h with h;subst h;simp[nm]at hk
  all_goals first| (cases h;done)| (injection h with h;subst h;simp[nm]at hk)
theorem Ga{d:Nat}(e:Bool)(n:Nat)(xs:List Value):∀ (fs:List Field) (l:List (Nat×Option Nat×Shape)),fJ P d fs=some l→
  (l.all fun(off,agg,sh)=>agg.isNone && nm sh)=true→(∀q∈l,(xs[q.1]?).isSome=true)→∀w:World,
  (forIn fs PUnit.unit fun f (_:PUnit)=>(do
   if f.name≠ "_" then Instr.checkKey e (n+1) f.type (←part f.type xs.toArray f.offset)
   pure (ForInStep.yield PUnit.unit):Sem (ForInStep PUnit))).run P w= .ok PUnit.unit w:=by
 intro fs
 induction fs with
 |nil=>intro l _ _ _ w;simp
 |cons f fs ih=>
  intro l hl ha hx w
  rw[sJ]at hl
  split at hl
  ·cases hl
  ·rename_i TL
   split at hl
   ·cases hl
   ·rename_i sh Iv
    cases hr:fJ P d fs with
    |none=>rw[hr]at hl;cases hl
    |some l'=>
     rw[hr]at hl
     simp only[Option.map_some,anK]at hl
     subst hl
     rw[List.all_cons]at ha
     simp only[aoz]at ha
     obtain⟨⟨h1,h2⟩,h3⟩:=ha
     have ag2:fC P f.type=false:=by
      cases hb:fC P f.type
      ·rfl
      ·simp[hb]at h1
     obtain⟨v,hv⟩:=Option.isSome_iff_exists.1 (hx _ aoA)
     have hu:(P.underlying f.type).isSome=true:=by
      cases d with
      |zero=>simp[shapeOf]at Iv
      |succ d=>rw[ir]at Iv;split at Iv<;>first| (cases Iv;done)|simp_all
     have hp:=yx (P:=P) (l:=xs) (t:=f.type) (off:=f.offset) (v:=v) (info_of_underlying hu) hu (by rw[ag2];simpa[xI]using hv) w
     simp only[List.forIn_cons,TL,ne_eq,not_false_eq_true,if_true,Sem.run_bind,hp,Result.andThen_ok,vD Iv h2,Sem.run_pure]
     exact ih l' hr h3 (fun q hq=>hx q (aom _ hq)) w
theorem Ie{t:TypeId}{s:Shape}{k:Value}(h:cE P t=some s)(hk:C4 s k=true)(e:Bool)(n:Nat)(w:World):(Instr.checkKey e (n+1+1) t k).run P w= .ok () w:=by
 by_cases hs:∃fs,s= .s fs
 ·obtain⟨l,rfl⟩:=hs
  have h':=h
  unfold cE at h
  split at h
  ·cases h
  ·cases h
  ·cases h
  ·rename_i fs hu
   split at h
   ·split at h
    ·rename_i l' Iv fY
     injection h with h;injection h with h;subst h
     cases k with
     |agg xs=>
      simp only[show fD=7+1 from rfl,ir,hu]at Iv
      split at Iv
      ·cases Iv
      ·cases hr:fJ P 7 fs.toList with
       |none=>rw[hr]at Iv;cases Iv
       |some l=>
        rw[hr]at Iv
        simp only[Option.map_some,anK,Shape.s.injEq]at Iv
        subst Iv
        rw[Instr.checkKey]
        simp only[Sem.run_bind,ap hu,Result.andThen_ok]
        rw[←Array.forIn_toList]
        have:=Ga (P:=P) e n xs.toList fs.toList l hr fY (fun q hq=>by
         have h1:=(aoV.1 hk) q hq
         obtain⟨off,agg,sh⟩:=q
         simp only[aoz]at h1
         have h2:=h1.2
         cases hx:(xs.toList)[off]? with
         |none=>rw[show xs[off]? =none by simpa using hx]at h2;cases sh<;>simp at h2
         |some v=>rfl) w
        simp only[apf]at this
        rw[this]
        rfl
     |_=>simp[C4]at hk
    ·cases h
   ·cases h
  ·cases h
 ·obtain⟨h1,h2⟩:=vC h fun fs e=>hs ⟨fs,e⟩
  exact vD h1 h2 k e (n+1) w
theorem jA{t:TypeId}{s:Shape}{k:Value}(h:cE P t=some s)(hk:C4 s k=true)(e:Bool)(w:World):(Instr.checkKey e 10000 t k).run P w= .ok () w:=
 Ie h hk e 9998 w
theorem If{t:TypeId}{s:Shape}{k:Value}(h:shapeOf P fD t=some s):∀ (es:List MapEntry) (i:Nat) (r:Option (Nat×Value)),ic s k es i=some r→∀w:World,
  (Instr.findAsking t k es i).run P w= .ok r w:=by
 intro es
 induction es with
 |nil=>intro i r hr w;simp only[ic,anK]at hr;subst hr;rfl
 |cons e es ih=>
  intro i r hr w
  unfold ic at hr
  have he:∀b,tB s k e.key=some b→(Op.equal t k e.key).run P w= .ok b w:=by
   intro b hb
   unfold Op.equal Op.maxDepth
   have:=(Dk (P:=P) fD).1 t s k e.key b h hb (10000 - fD) w
   simpa[fD]using this
  split at hr
  ·rename_i hb
   injection hr with hr;subst hr
   simp[Instr.findAsking,he true hb]
  ·rename_i hb
   simp[Instr.findAsking,he false hb,ih (i+1) r hr w]
  ·cases hr
theorem EP{d:TypeDesc}{s:Shape}{k:Value}(hd:(∃q,d= .int q∧s= .int)∨(d= .string∧s= .str)∨(d= .bool∧s= .bool)):∀ (es:List MapEntry) (i:Nat) (r:Option (Nat×Value)),
  ic s k es i=some r→Instr.findNow d k es i=some r:=by
 intro es
 induction es with
 |nil=>intro i r hr;simpa[ic,Instr.findNow]using hr
 |cons e es ih=>
  intro i r hr
  unfold ic at hr
  unfold Instr.findNow
  have PF:∀b,tB s k e.key=some b→Instr.sameNow d k e.key=some b:=by
   intro b hb
   rcases hd with ⟨q,rfl,rfl⟩| ⟨rfl,rfl⟩| ⟨rfl,rfl⟩
   ·cases k<;>cases hk:e.key<;>simp only[hk,tB,bB]at hb<;>first| (cases hb;done)|skip
    exact hb
   ·cases k<;>cases hk:e.key<;>simp only[hk,tB,bB]at hb<;>first| (cases hb;done)|skip
    simpa[Instr.sameNow,beq_toListBytes]using hb
   ·cases k<;>cases hk:e.key<;>simp only[hk,tB,bB]at hb<;>first| (cases hb;done)|skip
    simpa[Instr.sameNow]using hb
  split at hr
  ·rename_i hb;rw[PF true hb];exact hr
  ·rename_i hb;rw[PF false hb];exact ih _ _ hr
  ·cases hr
theorem mi{t:TypeId}{s:Shape}{k:Value}{es:List MapEntry}{r:Option (Nat×Value)}(h:cE P t=some s)(hr:ic s k es 0=some r)(w:World):
  (Instr.findKey t k es).run P w= .ok r w:=by
 have Iv:=Ic h
 unfold Instr.findKey
 have hu:∃d,P.underlying t=some d:=by
  unfold cE at h
  split at h<;>first|exact⟨_, ‹_›⟩|cases h
 obtain⟨d,hu⟩:=hu
 simp only[Sem.run_bind,ap hu,Result.andThen_ok]
 by_cases hs:∃fs,s= .s fs
 ·obtain⟨l,rfl⟩:=hs
  have hd:∃fs,d= .struct fs:=by
   unfold cE at h
   rw[hu]at h
   split at h
   ·cases h
   ·cases h
   ·cases h
   ·rename_i he;injection he with he;exact⟨_,he⟩
   ·cases h
  obtain⟨fs,rfl⟩:=hd
  cases es with
  |nil=>simp only[ic,anK]at hr;subst hr;rfl
  |cons e es=>
   have:Instr.findNow (.struct fs) k (e::es) 0=none:=by simp[Instr.findNow,Instr.sameNow]
   rw[this]
   exact If Iv _ _ _ hr w
 ·have hd:(∃q,d= .int q∧s= .int)∨(d= .string∧s= .str)∨(d= .bool∧s= .bool):=by
   unfold cE at h
   rw[hu]at h
   split at h
   ·rename_i q he;injection he with he;injection h with h;exact .inl ⟨q,he,h.symm⟩
   ·rename_i he;injection he with he;injection h with h;exact .inr (.inl ⟨he,h.symm⟩)
   ·rename_i he;injection he with he;injection h with h;exact .inr (.inr ⟨he,h.symm⟩)
   ·split at h
    ·split at h
     ·injection h with h;exact absurd ⟨_,h.symm⟩ hs
     ·cases h
    ·cases h
   ·cases h
  rw[EP hd es 0 r hr]
  rfl
end
end Go.Vc
