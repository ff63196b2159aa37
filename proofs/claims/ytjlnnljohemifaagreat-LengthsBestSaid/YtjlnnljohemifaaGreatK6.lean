/- Texts put behind each other. -/
import Derived.Test.YtjlnnljohemifaaGreatK98
import Derived.Test.YtjlnnljohemifaaGreatK5
set_option linter.unusedVariables false
namespace Go.Vc
def cD(P:Program)(t:TypeId):Option Shape:=
 match P.underlying t with
 |some (.int _)=>some .int
 |some .string=>some .str
 |some .bool=>some .bool
 |some (.struct _)=>
  match shapeOf P fE t with
  |some (.s l)=>if l.all (fun(off,agg,sh)=>agg.isNone && nu sh)then some (.s l)else none
  |_=>none
 |_=>none
def UV:Shape→Bool| .s _=>false|_=>true
def Hy:TypeDesc→Bool| .slice _=>true| .string=>true|_=>false
def JL(P:Program)(o:Oper):Option de:=
 match o.op with
 | .move x=>some (.dk x)
 | .assign x=>some (.dk x)
 | .pick c a b=>some (.pick c a b)
 | .box T x=>some (.box T x)
 | .alloc T=>(gC P T).map fun z=>.zero T (aJ z)
 | .build t ps=>(gC P t).bind fun z=>(parts P t (aJ z).length ps.toList).map (.build (aJ z))
 | .buildSlice t n ps=>
  match P.underlying t with
  |some (.slice e)=>(gC P e).bind fun z=>
   if(P.info? e).isSome∧P.cellsOf e≠0∧(aJ z).length=P.cellsOf e∧n*P.cellsOf e≤2^24 then
    (nw (fun i=>some (i*P.cellsOf e,P.cellsOf e)) (n*P.cellsOf e) ps.toList).map (.lit e n (cR (aJ z) n))
   else none
  |_=>none
 | .load t x=>if(P.info? t).isSome∧(P.underlying t).isSome then(if fD P t then some (.kY (P.cellsOf t) x)else some (.gF x))else none
 | .store t x v=>if(P.info? t).isSome∧P.cellsOf t≠0 then some (.store (P.cellsOf t) x v)else none
 | .nilCheck x=>some (.nilCheck x)
 | .binOp op t x y _=>
  match op with
  | .eql| .neq=>
   match P.underlying t,y with
   |some (.interface _),.const .nilIface=>some (.UU (match op with| .neq=>true|_=>false) x)
   |_,_=>(shapeOf P fE t).bind fun s=>if UV s=true∨P.eqGuardType P.depth t=false then some (.aB op s x y)else none
  |_=>some (.aB op .int x y)
 | .unOp op _ x=>some (.un op x)
 | .convert src dst x=>
  match P.underlying src,P.underlying dst with
  |some (.int _),some (.int k)=>some (.conv k x)
  |some (.slice e),some .string=>(match P.underlying e with|some (.int .u8)=>some (.Pf x)|_=>none)
  |some .string,some (.slice e)=>(match P.underlying e with|some (.int .u8)=>some (.KM e x)|_=>none)
  |_,_=>none
 | .makeInterface t x=>match P.underlying t with|some (.interface _)=>none|some _=>some (.iface t x)|none=>none
 | .makeFunc fn first captured=>some (.func fn first.toList captured.toList)
 | .makeMap t none=>some .Ap
 | .makeSlice t n c=>
  match P.underlying t with
  |some (.slice e)=>(gC P e).bind fun z=>if(P.info? e).isSome∧P.cellsOf e≠0∧(aJ z).length=P.cellsOf e then some (.makeSlice e (P.bytesOf e) (P.cellsOf e) (aJ z) n c)else none
  |_=>none
 | .slice t x lo hi mx=>
  match P.underlying t with
  |some (.slice e)=>if(P.info? e).isSome∧(mx.isNone∨hi.isSome)then some (.slice (P.cellsOf e) x lo hi mx)else none
  |some .string=>if mx.isNone then some (.KK x lo hi)else none
  |_=>none
 | .fieldAddr s x f=>
  match P.underlying s with
  |some (.struct fields)=>(fields[f]?).bind fun fd=>if(P.info? fd.type).isSome∧P.cellsOf fd.type≠0 then some (.fieldAddr fd.offset x)else none
  |_=>none
 | .field t x f=>
  match P.underlying t with
  |some (.struct fields)=>(fields[f]?).bind fun fd=>if(P.info? fd.type).isSome∧(P.underlying fd.type).isSome then some (.field fd.offset (if fD P fd.type then some (P.cellsOf fd.type)else none) x)else none
  |_=>none
 | .indexAddr t x i=>
  match P.underlying t with
  |some (.slice e)=>if(P.info? e).isSome then some (.indexAddr (P.cellsOf e) x i)else none
  |some (.array n e)=>if(P.info? e).isSome then some (.gT n (P.cellsOf e) x i)else none
  |_=>none
 | .index t x i=>match P.underlying t with|some .string=>some (.KL x i)|_=>none
 | .lookup t x i ok=>
  match P.underlying t with
  |some (.map k e)=>(cD P k).bind fun s=>(gC P e).map fun z=>.lookup s z ok x i
  |_=>none
 | .mapUpdate t m k v=>match P.underlying t with|some (.map kt _)=>(cD P kt).map fun s=>.update s m k v|_=>none
 | .extract x i=>some (.extract i x)
 | .typeAssert x _ T false=>(match P.underlying T with|some (.interface _)=>none|some _=>some (.Gv T x)|none=>none)
 | .call c=>
  match c.callee with
  | .value (.func f)=>if eV P f then some (.call f c.args.toList)else some (.ext f c.args.toList)
  | .value x=>some (.dyn x c.args.toList)
  | .invoke r name=>some (.invoke r name c.args.toList)
  | .builtin .len=>
   match c.args.toList,(c.argTypes[0]?).bind P.underlying with
   | [x],some (.slice _)=>some (.bz x)
   | [x],some .string=>some (.UR x)
   | [x],some (.map _ _)=>some (.US x)
   |_,_=>none
  | .builtin .append=>
   match c.args.toList,(c.argTypes[0]?).bind P.underlying,(c.argTypes[1]?).bind P.underlying with
   | [x,y],some (.slice e),some d=>(gC P e).bind fun z=>
    if(P.info? e).isSome∧P.cellsOf e≠0∧(aJ z).length=P.cellsOf e∧P.bytesOf e≠0∧Hy d=true then
     some (.append e (P.cellsOf e) (P.bytesOf e) (aJ z) x y)else none
   |_,_,_=>none
  | .builtin .delete=>
   match c.args.toList,(c.argTypes[0]?).bind P.underlying with
   | [m,k],some (.map kt _)=>(cD P kt).map fun s=>.delete s m k
   |_,_=>none
  | .builtin .clear=>
   match c.args.toList,(c.argTypes[0]?).bind P.underlying with
   | [x],some (.slice e)=>(gC P e).bind fun z=>if(aJ z).length≠0 then some (.J6 (aJ z) x)else none
   |_,_=>none
  | .builtin .min=>some (.UT c.args.toList)
  | .builtin .max=>some (.Ip c.args.toList)
  |_=>none
 |_=>none
def Mo:Value→List Value→Option Value
 |v,[]=>some v
 |v,u::r=>match v,u with
  | .int k a,.int _ b=>Mo (.int k (if b<a then b else a)) r
  |_,_=>none
def abN(l:List Value):Option Value:=match l with| []=>none|v::r=>Mo v r
def Mp:Value→List Value→Option Value
 |v,[]=>some v
 |v,u::r=>match v,u with
  | .int k a,.int _ b=>Mp (.int k (if b>a then b else a)) r
  |_,_=>none
def abO(l:List Value):Option Value:=match l with| []=>none|v::r=>Mp v r
@[go_sem] theorem Zm(v:Value)(r:List Value):abN (v::r)=Mo v r:=(rfl)
@[go_sem] theorem abP(v:Value):Mo v []=some v:=(rfl)
@[go_sem] theorem Zn(k k':IntKind)(a b:Int)(r:List Value):Mo (.int k a) (.int k' b::r)=Mo (.int k (if b<a then b else a)) r:=(rfl)
@[go_sem] theorem Zo(v:Value)(r:List Value):abO (v::r)=Mp v r:=(rfl)
@[go_sem] theorem abQ(v:Value):Mp v []=some v:=(rfl)
@[go_sem] theorem Zp(k k':IntKind)(a b:Int)(r:List Value):Mp (.int k a) (.int k' b::r)=Mp (.int k (if b>a then b else a)) r:=(rfl)
def sG(ev:Ev)(x:Option Operand)(d:Nat)(F:Int→Prop):Prop:=
 match x with
 |none=>F d
 |some x=>aE (ev x) fun v=>EA v F
@[go_sem ↓] theorem VO(ev:Ev)(d:Nat)(F:Int→Prop):sG ev none d F=F d:=(rfl)
@[go_sem ↓] theorem VP(ev:Ev)(x:Operand)(d:Nat)(F:Int→Prop):sG ev (some x) d F=aE (ev x) fun v=>EA v F:=(rfl)
def Mq(H:Hp)(r:Option Nat)(F:Nat→Prop):Prop:=
 match r with
 |none=>F 0
 |some b=>aE (H.mp b) fun m=>F m.1.length
@[go_sem ↓] theorem XT(H:Hp)(b:Nat)(F:Nat→Prop):Mq H (some b) F=aE (H.mp b) fun m=>F m.1.length:=(rfl)
def jt(ok:Bool)(z:Value)(x:Option Value):Value:=
 bif ok then(match x with|some v=>.tuple [v,.bool true].toArray|none=>.tuple [z,.bool false].toArray)else x.getD z
@[go_sem] theorem Rg(z v:Value):jt true z (some v)= .tuple [v,.bool true].toArray:=(rfl)
@[go_sem] theorem Rh(z:Value):jt true z none= .tuple [z,.bool false].toArray:=(rfl)
@[go_sem] theorem UW(z v:Value):jt false z (some v)=v:=(rfl)
@[go_sem] theorem UX(z:Value):jt false z none=z:=(rfl)
def Hz:Value→Bool
 | .pointer (some _)=>true
 | .iface .. =>true
 | .func (.func _) _ _=>true
 |_=>false
@[go_sem] theorem Zq(a:Addr):Hz (.pointer (some a))=true:=(rfl)
@[go_sem] theorem VQ(t:TypeId)(v:Value):Hz (.iface t v)=true:=(rfl)
@[go_sem] theorem XU(f:FuncId)(a b:Array Value):Hz (.func (.func f) a b)=true:=(rfl)
def PT(P:Program)(v:Value):Prop:=
 Hz v=true∨∃name t u cap,v= .func (.method name) #[.iface t u] cap∧∀w,(nilAhead (P.types.size+Made.depth) t u name).run P w= .ok (some false) w
@[go_sem] theorem abR(P:Program)(a:Addr):PT P (.pointer (some a))=True:=eq_true (.inl rfl)
@[go_sem] theorem XV(P:Program)(t:TypeId)(v:Value):PT P (.iface t v)=True:=eq_true (.inl rfl)
@[go_sem] theorem Zr(P:Program)(f:FuncId)(a b:Array Value):PT P (.func (.func f) a b)=True:=eq_true (.inl rfl)
def de.vc(P:Program)(ev:Ev)(H:Hp)(K:Value→Hp→Prop):de→Prop
 | .dk x=>aE (ev x) fun v=>K v H
 | .pick c a b=>aE (ev c) fun cv=>C3 cv fun t=>aE (bif t then ev a else ev b) fun v=>K v H
 | .box T x=>aE (ev x) fun v=>now (H.new T (aJ v)) fun H'=>K (.pointer (some ⟨H.size,0,none⟩)) H'
 | .zero T l=>now (H.new T l) fun H'=>K (.pointer (some ⟨H.size,0,none⟩)) H'
 | .build z ps=>C5 ev z ps fun l=>now l fun l=>K (.agg l.toArray) H
 | .lit T n z ps=>C5 ev z ps fun l=>now (H.new T l) fun H'=>K (.slice (some ⟨H.size,0,none⟩) n n) H'
 | .gF x=>aE (ev x) fun p=>zB p fun b o=>aE (H.rd b) fun l=>aE l[o]? fun v=>K v H
 | .kY n x=>aE (ev x) fun p=>zB p fun b o=>aE (H.rd b) fun l=>eB (o+n≤l.length) (K (.agg ((l.drop o).take n).toArray) H)
 | .store n x v=>aE (ev x) fun p=>zB p fun b o=>aE (ev v) fun v=>aE (KA (H.own b) (H.Dg b)) fun l=>
   eB ((aJ v).length=n) (eB (uM (aJ v)=true) (eB (o+n≤l.length) (now (H.wr b (bq l o (aJ v))) fun H'=>K undef H')))
 | .nilCheck x=>aE (ev x) fun v=>eB (PT P v) (K v H)
 | .aB op s x y=>aE (ev x) fun a=>aE (ev y) fun b=>aE (cz op s a b) fun v=>K v H
 | .un op x=>aE (ev x) fun a=>aE (unF op a) fun v=>K v H
 | .conv k x=>aE (ev x) fun a=>EA a fun n=>K (.int k (k.wrap n)) H
 | .iface T x=>aE (ev x) fun v=>K (.iface T v) H
 | .func fn first captured=>Od ev first fun l=>Od ev captured fun c=>K (.func fn l.toArray c.toArray) H
 | .Ap=>K (.map (some H.size)) H.fY
 | .makeSlice T bytes size z n c=>aE (ev n) fun nv=>aE (ev c) fun cv=>EA nv fun n=>EA cv fun c=>
   eB (0≤n∧n≤c∧c≤2^48∧bytes*c≤2^48) (now (H.new T (cR z c.toNat)) fun H'=>K (.slice (some ⟨H.size,0,none⟩) n.toNat c.toNat) H')
 | .slice size x lo hi mx=>aE (ev x) fun v=>sF v fun a n c=>sG ev mx c fun m=>sG ev hi n fun h=>sG ev lo 0 fun l=>
   eB (0≤l∧l≤h∧h≤m∧m≤c) (K (.slice (if m=l then a else a.map (·.add (l.toNat*size))) (h.toNat - l.toNat) (m.toNat - l.toNat)) H)
 | .KK x lo hi=>aE (ev x) fun v=>mh v fun s=>sG ev hi s.size fun h=>sG ev lo 0 fun l=>
   eB (0≤l∧l≤h∧h≤s.size) (K (.string (s.extract l.toNat h.toNat)) H)
 | .fieldAddr off x=>aE (ev x) fun p=>zB p fun b o=>K (.pointer (some ⟨b,o+off,none⟩)) H
 | .field off agg x=>aE (ev x) fun v=>QH v fun l=>aE (xw l off agg) fun v=>K v H
 | .indexAddr size x i=>aE (ev x) fun v=>aE (ev i) fun iv=>sF v fun a n _=>EA iv fun i=>eB (0≤i∧i<n) (xI a fun b o=>K (.pointer (some ⟨b,o+i.toNat*size,none⟩)) H)
 | .gT aY size x i=>aE (ev x) fun p=>aE (ev i) fun iv=>zB p fun b o=>EA iv fun i=>eB (0≤i∧i<aY) (K (.pointer (some ⟨b,o+i.toNat*size,none⟩)) H)
 | .KL x i=>aE (ev x) fun v=>aE (ev i) fun iv=>mh v fun s=>EA iv fun i=>eB (0≤i) (aE (s[i.toNat]?) fun b=>K (.int .u8 b.toNat) H)
 | .lookup s z ok m k=>aE (ev m) fun mv=>aE (ev k) fun kv=>EB mv fun r=>eB (CM s kv=true) (zM H s r kv fun x=>K (jt ok z x) H)
 | .update s m k v=>aE (ev m) fun mv=>aE (ev k) fun kv=>aE (ev v) fun vv=>EB mv fun r=>aE r fun b=>eB (CM s kv=true) (Sz H s b kv vv fun H'=>K undef H')
 | .extract i x=>aE (ev x) fun v=>QG v fun l=>aE l[i]? fun v=>K v H
 | .call f args=>Od ev args fun vs=>ah P f vs H K
 | .dyn f args=>aE (ev f) fun fv=>Od ev args fun vs=>XR P fv vs H K
 | .invoke r name args=>aE (ev r) fun rv=>Od ev args fun vs=>jj P rv name vs H K
 | .bz x=>aE (ev x) fun v=>sF v fun _ n _=>K (.int .i64 n) H
 | .UR x=>aE (ev x) fun v=>mh v fun s=>K (.int .i64 s.size) H
 | .US x=>aE (ev x) fun v=>EB v fun r=>Mq H r fun n=>K (.int .i64 n) H
 | .append T size bytes z x y=>aE (ev x) fun xv=>aE (ev y) fun yv=>lR T size bytes z xv yv H K
 | .delete s m k=>aE (ev m) fun mv=>aE (ev k) fun kv=>EB mv fun r=>aE r fun b=>eB (CM s kv=true) (XP H s b kv fun H'=>K (.tuple [].toArray) H')
 | .J6 z x=>aE (ev x) fun v=>sF v fun a n _=>XQ H z a n fun H'=>K (.tuple [].toArray) H'
 | .UT args=>Od ev args fun vs=>aE (abN vs) fun v=>K v H
 | .Ip args=>Od ev args fun vs=>aE (abO vs) fun v=>K v H
 | .Gv T x=>aE (ev x) fun v=>yd T v fun u=>K u H
 | .UU neg x=>aE (ev x) fun v=>Oe v fun b=>K (.bool (Of neg b)) H
 | .Pf x=>aE (ev x) fun v=>xM H v fun l=>K (.string ⟨l.toArray⟩) H
 | .KM T x=>aE (ev x) fun v=>mh v fun s=>Tg T s H K
 | .ext f args=>Od ev args fun vs=>UE P f vs H K
attribute [go_sem ↓] de.vc
section
variable {P : Program} {o : Oper} {a : Act} {ev : Ev} {H : Hp} {K : Value → Hp → Prop}
def dX(P:Program)(o:Oper)(a:Act)(H:Hp)(K:Value→Hp→Prop):Prop:=∃v,(∀w,(execOp a.eval o).run P w= .ok (.value v) w)∧K v H
theorem dX.af9(h:dX P o a H K):dV P o a H K:=by
 obtain⟨v,h1,h2⟩:=h
 exact fun w hw=>.inl ⟨v,w,h1 w,bZ.refl w,hw▸h2⟩
theorem ap{t:TypeId}{d:TypeDesc}(h:P.underlying t=some d)(w:World):(underlying t).run P w= .ok d w:=run_underlying h w
theorem et{t:TypeId}{i:TypeInfo}(h:P.info? t=some i)(w:World):(typeInfo t).run P w= .ok i w:=by simp[typeInfo,h]
theorem bM{t:TypeId}(h:(P.info? t).isSome=true)(w:World):(sizeOf t).run P w= .ok (P.cellsOf t) w:=by
 obtain⟨i,hi⟩:=Option.isSome_iff_exists.1 h
 simp[sizeOf,et hi,Program.cellsOf,hi]
theorem cP{t:TypeId}{z:Value}(h:gC P t=some z)(w:World):(zeroValue t).run P w= .ok z w:=by
 unfold gC at h
 cases hi:P.info? t with
 |none=>rw[hi]at h;cases h
 |some i=>rw[hi]at h;simp only[Option.bind_some]at h;simp[zeroValue,et hi,h]
theorem Bn{t:TypeId}(h:(P.underlying t).isSome=true)(w:World):(isAgg t).run P w= .ok (fD P t) w:=by
 obtain⟨d,hd⟩:=Option.isSome_iff_exists.1 h
 unfold isAgg fD
 simp only[Sem.run_bind,ap hd,Result.andThen_ok,hd]
 cases d<;>rfl
theorem EX(t:TypeId)(v:Value)(w:World):(newVar t v).run P w= .ok ⟨w.heap.size,0,none⟩ {w with heap:=Hp.new w.heap t (aJ v)}:=by
 simp only[newVar,newRow,Sem.run_bind,run_newObj,Result.andThen_ok,Sem.run_pure,Hp.new,←eW,anB]
theorem n9(t:TypeId)(c:Array Value)(w:World):(newRow t c).run P w= .ok ⟨w.heap.size,0,none⟩ {w with heap:=Hp.new w.heap t c.toList}:=by
 simp only[newRow,Sem.run_bind,run_newObj,Result.andThen_ok,Sem.run_pure,Hp.new,anB]
theorem mi{t:TypeId}{w:World}{b o:Nat}{l:List Value}(hi:(P.info? t).isSome=true)(hu:(P.underlying t).isSome=true)(h:Hp.rd w.heap b=some l):
  (fD P t=true→o+P.cellsOf t≤l.length→(loadVar t ⟨b,o,none⟩).run P w= .ok (.agg ((l.drop o).take (P.cellsOf t)).toArray) w)∧
  (fD P t=false→∀v,l[o]? =some v→(loadVar t ⟨b,o,none⟩).run P w= .ok v w):=by
 refine⟨fun ha hn=>?_,fun ha v hv=>?_⟩
 ·simp[loadVar,Bn hu,ha,bM hi,tI (P:=P) (a:=⟨b,o,none⟩) rfl h hn]
 ·have hc:w.cell? ⟨b,o,none⟩=some v:=(qw rfl h).trans hv
  simp[loadVar,Bn hu,ha,hc]
theorem Jf{t:TypeId}{w:World}{b o:Nat}{l:List Value}{v:Value}(hi:(P.info? t).isSome=true)(h0:P.cellsOf t≠0)(h:KA (Hp.own w.heap b) (Hp.Dg w.heap b)=some l)
  (hl:(aJ v).length=P.cellsOf t)(h1:j5 (aJ v))(hn:o+P.cellsOf t≤l.length):
  ∃w',(storeVar t ⟨b,o,none⟩ v).run P w= .ok () w'∧bZ w w'∧w'.heap=Hp.wr w.heap b (bq l o (aJ v)):=by
 obtain⟨w',hr,hs,hk,_⟩:=j9 (P:=P) (b:=b) (o:=o) (aJ v) 0 w l h (by omega) h1
 refine⟨w',?_,hs,hk (fun e=>by rw[e]at hl;exact h0 hl.symm)⟩
 have e:v.cells.size=P.cellsOf t:=by rw[←hl,←eW];simp
 simp only[storeVar,Sem.run_bind,bM hi,Result.andThen_ok,e,ne_eq,not_true_eq_false,if_false,eW]
 exact hr
end
end Go.Vc

set_option linter.unusedSimpArgs false
namespace Go.Vc
section
variable {P : Program} {o : Oper} {a : Act} {ev : Ev} {H : Hp} {K : Value → Hp → Prop}
theorem eB.out{c F:Prop}(h:eB c F):c∧F:=h
theorem Bo{v:Value}{F:Bool→Prop}(h:C3 v F):∃b,v= .bool b∧F b:=by
 unfold C3 at h;split at h
 ·exact⟨_,rfl,h⟩
 ·exact h.elim
theorem ye{l:List Value}{t:TypeId}{off:Nat}{v:Value}(hi:(P.info? t).isSome=true)(hu:(P.underlying t).isSome=true)
  (h:xw l off (if fD P t then some (P.cellsOf t)else none)=some v)(w:World):(part t l.toArray off).run P w= .ok v w:=by
 unfold part
 simp only[Sem.run_bind,Bn hu,Result.andThen_ok]
 cases hb:fD P t
 ·rw[hb]at h
  simp only[anb,if_false,xw]at h ⊢
  simp[h]
 ·rw[hb]at h
  simp only[if_true,xw]at h ⊢
  split at h
  ·injection h with h
   subst h
   simp only[Sem.run_bind,bM hi,Result.andThen_ok,Sem.run_pure]
   congr 2
   apply Array.ext'
   simp[List.take_drop]
  ·cases h
theorem info_of_underlying{t:TypeId}(h:(P.underlying t).isSome=true):(P.info? t).isSome=true:=by
 unfold Program.underlying at h
 cases hi:P.info? t with
 |none=>rw[hi]at h;simp at h
 |some i=>rfl
theorem Mr(m:Nat){t:TypeId}{s:Shape}{x y:Value}{b:Bool}{d:Nat}(ht:shapeOf P d t=some s)(hs:∀fs,s≠ .s fs)(h:bB s x y=some b)(w:World):
  (Op.equalIn (m+1) t x y).run P w= .ok b w:=by
 cases d with
 |zero=>simp[shapeOf]at ht
 |succ d=>
  rw[is]at ht
  split at ht
  case h_9=>
   split at ht
   ·cases ht
   ·rename_i fs hu hp
    cases Zt:fK P d fs.toList with
    |none=>rw[Zt]at ht;cases ht
    |some l=>rw[Zt]at ht;injection ht with ht;exact absurd ht.symm (hs l)
  case h_10=>cases ht
  all_goals(injection ht with ht;subst ht)
  all_goals(unfold bB at h;split at h<;>rename_i hu<;>first| (cases hu;done)| (cases h;done)|skip)
  all_goals(try(split at h<;>first| (cases h;done)|skip))
  all_goals(injection h with h;subst h)
  all_goals(simp only[Op.equalIn,Sem.run_bind,ap ‹P.underlying t=_›,Result.andThen_ok])
  all_goals first|rfl| (rw[if_pos (by assumption)];rfl)| (simp[*,beq_toListBytes];done)| (simp_all;done)|skip
theorem C7:∀ (d:Nat),
  (∀ (t:TypeId) (s:Shape) (x y:Value) (b:Bool),shapeOf P d t=some s→tq s x y=some b→∀ (m:Nat) (w:World),(Op.equalIn (m+d) t x y).run P w= .ok b w)∧
  (∀ (fs:List Field) (l:List (Nat×Option Nat×Shape)) (xs ys:List Value) (b:Bool),fK P d fs=some l→Cx l xs ys=some b→
   ∀ (m:Nat) (w:World),(Op.eqFields (m+d) xs.toArray ys.toArray fs).run P w= .ok b w):=by
 intro d
 induction d with
 |zero=>
  refine⟨fun t s x y b ht=>(by simp[shapeOf]at ht),fun fs l xs ys b hl h m w=>?_⟩
  cases fs with
  |nil=>simp only[C4,ame]at hl;subst hl;simp only[Cx,ame]at h;subst h;rfl
  |cons f fs=>simp[sE,shapeOf]at hl
 |succ d ih=>
  have first:∀ (t:TypeId) (s:Shape) (x y:Value) (b:Bool),shapeOf P (d+1) t=some s→tq s x y=some b→∀ (m:Nat) (w:World),(Op.equalIn (m+(d+1)) t x y).run P w= .ok b w:=by
   intro t s x y b ht h m w
   by_cases hs:∃fs,s= .s fs
   ·obtain⟨l,rfl⟩:=hs
    cases x with
    |agg xs=>
     cases y with
     |agg ys=>
      simp only[tq]at h
      rw[is]at ht
      split at ht
      case h_9=>
       split at ht
       ·cases ht
       ·rename_i fs hu hp
        cases Zt:fK P d fs.toList with
        |none=>rw[Zt]at ht;cases ht
        |some l'=>
         rw[Zt]at ht
         simp only[Option.map_some,ame,Shape.s.injEq]at ht
         subst ht
         have hf:P.fieldsOf t=fs:=by simp[Program.fieldsOf,hu]
         rw[show m+(d+1)=(m+d)+1 by omega,run_equalIn_struct w (m+d) t xs ys (by rw[hf];exact hu) (by simpa using hp),hf]
         have:=(ih.2 fs.toList l' xs.toList ys.toList b Zt h m w)
         simpa using this
      all_goals cases ht
     |_=>simp[tq,bB]at h
    |_=>cases y<;>simp[tq,bB]at h
   ·have h':bB s x y=some b:=by
     cases s<;>first|exact h| (exact absurd ⟨_,rfl⟩ hs)
    exact Mr (m+d) ht (fun fs e=>hs ⟨fs,e⟩) h' w
  refine⟨first,fun fs=>?_⟩
  induction fs with
  |nil=>intro l xs ys b hl h m w;simp only[C4,ame]at hl;subst hl;simp only[Cx,ame]at h;subst h;rfl
  |cons f fs ihf=>
   intro l xs ys b hl h m w
   rw[sE]at hl
   split at hl
   ·cases hl
   ·rename_i Th
    split at hl
    ·cases hl
    ·rename_i sh HW
     cases hr:fK P (d+1) fs with
     |none=>rw[hr]at hl;cases hl
     |some l'=>
      rw[hr]at hl
      simp only[Option.map_some,ame]at hl
      subst hl
      unfold Cx at h
      split at h
      ·cases h
      ·rename_i x hx
       split at h
       ·cases h
       ·rename_i y hy
        have hu:(P.underlying f.type).isSome=true:=by
         rw[is]at HW
         split at HW<;>first| (cases HW;done)|simp_all
        have hi:=info_of_underlying hu
        simp only[Op.eqFields,Th,ne_eq,not_false_eq_true,if_true,Sem.run_bind,ye hi hu hx,ye hi hu hy,Result.andThen_ok]
        split at h
        ·rename_i he
         rw[first f.type sh x y true HW he m w]
         simpa using ihf l' xs ys b hr h m w
        ·rename_i he
         injection h with h
         subst h
         rw[first f.type sh x y false HW he m w]
         simp
        ·cases h
end
end Go.Vc

namespace Go.Vc
section
variable {P : Program} {o : Oper} {a : Act} {ev : Ev} {H : Hp} {K : Value → Hp → Prop}
abbrev bR(ev:Ev)(a:Act):Prop:=∀x v,ev x=some v→a.eval x=v
theorem bf{x:Operand}{F:Value→Prop}(bI:bR ev a)(h:aE (ev x) F):F (a.eval x):=by
 obtain⟨v,hv,h⟩:=aD h
 rw[bI x v hv];exact h
theorem Ms{x:Operand}(bI:bR ev a)(ho:o.op= .move x∨o.op= .assign x)(h:(de.dk x).vc P ev H K):dX P o a H K:=by
 have h:=bf bI h
 refine⟨_,fun w=>?_,h⟩
 rcases ho with ho|ho<;>simp[execOp,ho]
theorem QI{c x y:Operand}(bI:bR ev a)(ho:o.op= .pick c x y)(h:(de.pick c x y).vc P ev H K):dX P o a H K:=by
 obtain⟨b,hb,h⟩:=Bo (bf bI h)
 have h2:aE (ev (bif b then x else y)) fun v=>K v H:=by cases b<;>exact h
 have h:=bf bI h2
 refine⟨_,fun w=>?_,h⟩
 simp only[execOp,ho,hb,asBool]
 cases b<;>simp
theorem Jg{x:Operand}(bI:bR ev a)(ho:o.op= .nilCheck x)(h:(de.nilCheck x).vc P ev H K):dX P o a H K:=by
 obtain⟨hn,h⟩:=(bf bI h).out
 refine⟨_,fun w=>?_,h⟩
 simp only[execOp,ho]
 rcases hn with hn| ⟨name,t,u,cap,hv,hn⟩
 ·revert hn
  generalize a.eval x=v
  cases v with
  |pointer q=>cases q<;>simp[Hz]
  |func fn x y=>cases fn<;>simp[Hz]
  |_=>simp[Hz]
 ·rw[hv]
  have hz:(#[Value.iface t u]:Array Value)[0]? =some (.iface t u):=rfl
  simp[hz,hn w]
theorem UY{op:UnOp}{t:TypeId}{x:Operand}(bI:bR ev a)(ho:o.op= .unOp op t x)(h:(de.un op x).vc P ev H K):dX P o a H K:=by
 obtain⟨v,hv,h⟩:=aD (bf bI h)
 refine⟨v,fun w=>?_,h⟩
 simp only[execOp,ho]
 revert hv
 generalize a.eval x=u
 intro hv
 unfold unF at hv
 split at hv<;>first| (cases hv;done)|skip
 all_goals(injection hv with hv;subst hv;simp[Op.unary,Op.intArith,Op.intBits])
theorem QJ{s t:TypeId}{k k':IntKind}{x:Operand}(bI:bR ev a)(ho:o.op= .convert s t x)(hs:P.underlying s=some (.int k'))(ht:P.underlying t=some (.int k))
  (h:(de.conv k x).vc P ev H K):dX P o a H K:=by
 obtain⟨k1,n,hn,h⟩:=kL (bf bI h)
 refine⟨_,fun w=>?_,h⟩
 simp only[execOp,ho,convert,hn,Sem.run_bind,ap hs,ap ht,Result.andThen_ok,Conv.intToInt]
 rfl
theorem Ti{t:TypeId}{ms:Array (String×TypeId)}(hu:P.underlying t=some (.interface ms))(v:Value)(b:Bool)(hv:(v= .nilIface∧b=true)∨∃t' u,v= .iface t' u∧b=false)(w:World):(Op.equal t v .nilIface).run P w= .ok b w:=by
 have h:∀m:Nat,(Op.equalIn (m+1) t v .nilIface).run P w= .ok b w:=fun m=>by
  rcases hv with ⟨rfl,rfl⟩| ⟨t',u,rfl,rfl⟩<;>simp only[Op.equalIn,Sem.run_bind,ap hu,Result.andThen_ok]<;>rfl
 exact h 9999
theorem JM{op:BinOp}{neg:Bool}{t t':TypeId}{ms:Array (String×TypeId)}{x:Operand}(bI:bR ev a)(ho:o.op= .binOp op t x (.const .nilIface) t')(hu:P.underlying t=some (.interface ms))
  (Df:(op= .eql∧neg=false)∨(op= .neq∧neg=true))(h:(de.UU neg x).vc P ev H K):dX P o a H K:=by
 obtain⟨b,hv,h⟩:∃b,((a.eval x= .nilIface∧b=true)∨∃t' u,a.eval x= .iface t' u∧b=false)∧K (.bool (Of neg b)) H:=by
  rcases JK (bf bI h)with ⟨e,h⟩| ⟨t',u,e,h⟩
  ·exact⟨true,.inl ⟨e,rfl⟩,h⟩
  ·exact⟨false,.inr ⟨t',u,e,rfl⟩,h⟩
 refine⟨_,fun w=>?_,h⟩
 have hr:=Ti (P:=P) hu (a.eval x) b hv w
 have hc:a.eval (.const .nilIface)= .nilIface:=rfl
 simp only[execOp,ho,Sem.run_bind,hc]
 generalize a.eval x=u at hv hr ⊢
 have hg:(eqGuard op t x (.const .nilIface) u .nilIface).run P w= .ok () w:=by
  unfold eqGuard
  rcases Df with ⟨rfl,_⟩| ⟨rfl,_⟩<;>rcases hv with ⟨rfl,_⟩| ⟨t',u',rfl,_⟩<;>simp
 rw[hg]
 simp only[Result.andThen_ok]
 rcases Df with ⟨rfl,rfl⟩| ⟨rfl,rfl⟩<;>rcases hv with ⟨rfl,rfl⟩| ⟨t',u',rfl,rfl⟩<;>simp[binOp,hr,Of]
theorem Mt{s t:TypeId}{d:TypeDesc}{x:Operand}(bI:bR ev a)(ho:o.op= .typeAssert x s t false)(hs:P.underlying t=some d)(hd:∀ms,d≠ .interface ms)
  (h:(de.Gv t x).vc P ev H K):dX P o a H K:=by
 obtain⟨u,hx,h⟩:=C6 (bf bI h)
 refine⟨_,fun w=>?_,h⟩
 simp only[execOp,ho,hx,Instr.typeAssert,Sem.run_bind,ap hs,Result.andThen_ok]
 cases d<;>first| (exact absurd rfl (hd _))|simp
theorem Og{t:TypeId}{d:TypeDesc}{x:Operand}(bI:bR ev a)(ho:o.op= .makeInterface t x)(hs:P.underlying t=some d)(hd:∀ms,d≠ .interface ms)
  (h:(de.iface t x).vc P ev H K):dX P o a H K:=by
 have h:=bf bI h
 refine⟨_,fun w=>?_,h⟩
 simp only[execOp,ho,Instr.makeInterface,Sem.run_bind,ap hs,Result.andThen_ok]
 cases d<;>first| (exact absurd rfl (hd _))|simp
theorem QK{fn:Fn}{first captured:Array Operand}(bI:bR ev a)(ho:o.op= .makeFunc fn first captured)(h:(de.func fn first.toList captured.toList).vc P ev H K):dX P o a H K:=by
 have h:=n7 bI (n7 bI h)
 refine⟨_,fun w=>?_,h⟩
 simp only[execOp,ho,Instr.makeFunc,Sem.run_bind,Sem.run_pure,Result.andThen_ok]
 congr 3
 ·apply Array.ext';simp
 ·apply Array.ext';simp
theorem uN{c:Bool}{m:Sem Unit}{w:World}(h:m.run P w= .ok () w):(if(!c)=true then(pure ():Sem Unit)else m).run P w= .ok () w:=by
 cases c
 ·rfl
 ·simpa using h
theorem xN{op:BinOp}{t:TypeId}{s:Shape}{x y:Operand}{u v:Value}{b:Bool}(h:tq s u v=some b)(hg:UV s=true∨P.eqGuardType P.depth t=false)(w:World):
  (eqGuard op t x y u v).run P w= .ok () w:=by
 unfold eqGuard
 refine uN ?_
 cases u with
 |nilIface=>
  cases v with
  |nilIface=>cases s<;>simp[tq,bB]at h
  |_=>rfl
 |agg xs=>
  cases v with
  |agg ys=>
   rcases hg with hg|hg
   ·cases s<;>simp_all[tq,bB,UV]
   ·simp[hg]
  |_=>rfl
 |_=>cases v<;>rfl
theorem HA{t:TypeId}{s:Shape}{u v:Value}{b:Bool}(hs:shapeOf P fE t=some s)(h:tq s u v=some b)(hu:∀k n,u≠ .int k n∨∀k' m,v≠ .int k' m)
  (uB:∀x,u≠ .string x∨∀y,v≠ .string y)(w:World):
  (binOp .eql t u v).run P w= .ok (.bool b) w∧(binOp .neq t u v).run P w= .ok (.bool (!b)) w:=by
 have he:(Op.equal t u v).run P w= .ok b w:=by
  unfold Op.equal Op.maxDepth
  have:=(C7 (P:=P) fE).1 t s u v b hs h (10000 - fE) w
  simpa[fE]using this
 have aT:∀ {op},op=BinOp.eql∨op=BinOp.neq→binOp op t u v=(if op=BinOp.eql then(do pure (.bool (←Op.equal t u v)))else(do pure (.bool (!(←Op.equal t u v))))):=by
  intro op Df
  cases u<;>cases v<;>rcases Df with rfl|rfl<;>first
   |rfl
   | (rcases hu _ _ with h1|h1<;>first|exact absurd rfl h1|exact absurd rfl (h1 _ _))
   | (rcases uB _ with h1|h1<;>first|exact absurd rfl h1|exact absurd rfl (h1 _))
   | (cases s<;>simp[tq,bB]at h)
 rw[aT (.inl rfl),aT (.inr rfl)]
 simp[he]
def Tj(op:BinOp)(s:Shape)(u z:Value):Option Value:=match op with| .eql=>(tq s u z).map .bool| .neq=>(tq s u z).map fun b=>.bool (!b)|_=>none
theorem QL{op:BinOp}{s:Shape}{u z:Value}(h1:∀k n,u≠ .int k n∨∀k' m,z≠ .int k' m)(h2:∀p,u≠ .string p∨∀q,z≠ .string q):cz op s u z=Tj op s u z:=by
 unfold cz Tj
 split
 ·rcases h1 _ _ with h|h<;>first|exact absurd rfl h|exact absurd rfl (h _ _)
 ·rcases h2 _ with h|h<;>first|exact absurd rfl h|exact absurd rfl (h _)
 ·rfl
theorem HB{op:BinOp}{t t':TypeId}{s:Shape}{x y:Operand}(bI:bR ev a)(ho:o.op= .binOp op t x y t')
  (hs:(op= .eql∨op= .neq)→shapeOf P fE t=some s∧(UV s=true∨P.eqGuardType P.depth t=false))
  (h:(de.aB op s x y).vc P ev H K):dX P o a H K:=by
 obtain⟨v,hv,h⟩:=aD (bf bI (bf bI h))
 refine⟨v,fun w=>?_,h⟩
 simp only[execOp,ho,Sem.run_bind]
 generalize hx:a.eval x=u at hv ⊢
 generalize hy:a.eval y=z at hv ⊢
 have hint:∀k n k' m,u= .int k n→z= .int k' m→(eqGuard op t x y u z).run P w= .ok () w∧(binOp op t u z).run P w= .ok v w:=by
  intro k n k' m e1 e2
  subst e1;subst e2
  refine⟨uN rfl,?_⟩
  ·unfold cz at hv
   by_cases hk:k=k'
   ·subst hk
    cases op<;>simp only[binOp,Op.shift,Op.intArith,Op.intDiv,Op.intBits,Op.intCmp]at hv ⊢ <;>simp at hv ⊢ <;>first
     | (subst hv;rfl)
     | (split at hv<;>first| (cases hv;done)| (injection hv with hv;subst hv;rename_i hc;simp[hc];done)|skip)
     | (obtain⟨h1,rfl⟩:=hv;simp[show¬m<0 by omega])
     | (obtain⟨h1,rfl⟩:=hv;simp[h1])
     |skip
   ·cases op<;>simp[hk]at hv<;>simp only[binOp,Op.shift]<;>first
     | (obtain⟨h1,rfl⟩:=hv;simp[show¬m<0 by omega])
     |skip
 have aga:∀p q,u= .string p→z= .string q→(eqGuard op t x y u z).run P w= .ok () w∧(binOp op t u z).run P w= .ok v w:=by
  intro p q e1 e2
  subst e1;subst e2
  refine⟨uN rfl,?_⟩
  ·unfold cz at hv
   cases op<;>simp only[binOp,Op.stringOp]at hv ⊢ <;>simp at hv ⊢ <;>first
    | (subst hv;rfl)
    | (obtain⟨h1,rfl⟩:=hv;simp[show¬ (9223372036854775807:Int)< (p.size:Int)+q.size by omega])
    | (obtain⟨h1,rfl⟩:=hv;rw[if_neg (by omega)])
    | (cases hv;done)
    |skip
 have abS:(∀k n,u≠ .int k n∨∀k' m,z≠ .int k' m)→(∀p,u≠ .string p∨∀q,z≠ .string q)→(eqGuard op t x y u z).run P w= .ok () w∧(binOp op t u z).run P w= .ok v w:=by
  intro h1 h2
  have hb:=QL (op:=op) (s:=s) h1 h2
  rw[hb]at hv
  cases op<;>simp only[Tj]at hv<;>first| (cases hv;done)|skip
  ·obtain⟨eR,ON⟩:=hs (.inl rfl)
   cases he:tq s u z with
   |none=>rw[he]at hv;cases hv
   |some b=>rw[he]at hv;injection hv with hv;subst hv;exact⟨xN he ON w,(HA eR he h1 h2 w).1⟩
  ·obtain⟨eR,ON⟩:=hs (.inr rfl)
   cases he:tq s u z with
   |none=>rw[he]at hv;cases hv
   |some b=>rw[he]at hv;injection hv with hv;subst hv;exact⟨xN he ON w,(HA eR he h1 h2 w).2⟩
 have key:(eqGuard op t x y u z).run P w= .ok () w∧(binOp op t u z).run P w= .ok v w:=by
  by_cases h1:∃k n k' m,u= .int k n∧z= .int k' m
  ·obtain⟨k,n,k',m,e1,e2⟩:=h1;exact hint k n k' m e1 e2
  ·by_cases h2:∃p q,u= .string p∧z= .string q
   ·obtain⟨p,q,e1,e2⟩:=h2;exact aga p q e1 e2
   ·refine abS (fun k n=>?_) (fun p=>?_)
    ·by_cases e:u= .int k n
     ·exact .inr fun k' m e'=>h1 ⟨k,n,k',m,e,e'⟩
     ·exact .inl e
    ·by_cases e:u= .string p
     ·exact .inr fun q e'=>h2 ⟨p,q,e,e'⟩
     ·exact .inl e
 simp[key.1,key.2]
end
end Go.Vc

namespace Go.Vc
section
variable {P : Program} {o : Oper} {a : Act} {ev : Ev} {H : Hp} {K : Value → Hp → Prop}
theorem KO{i:Nat}{x:Operand}(bI:bR ev a)(ho:o.op= .extract x i)(h:(de.extract i x).vc P ev H K):dX P o a H K:=by
 obtain⟨vs,hv,h⟩:=JI (bf bI h)
 obtain⟨v,hi,h⟩:=aD h
 refine⟨v,fun w=>?_,h⟩
 have hi':vs[i]? =some v:=by simpa using hi
 simp[execOp,ho,hv,Instr.extract,hi']
theorem HC{t:TypeId}{f:Nat}{x:Operand}{fields:Array Field}{fd:Field}(bI:bR ev a)(ho:o.op= .fieldAddr t x f)(ht:P.underlying t=some (.struct fields))
  (hf:fields[f]? =some fd)(hi:(P.info? fd.type).isSome=true)(h0:P.cellsOf fd.type≠0)(h:(de.fieldAddr fd.offset x).vc P ev H K):dX P o a H K:=by
 obtain⟨b,off,hv,h⟩:=fN (bf bI h)
 refine⟨_,fun w=>?_,h⟩
 simp[execOp,ho,hv,Instr.fieldAt,ap ht,hf,Instr.sureAddr,fieldPlace,bM hi,h0,AY]
theorem Oh{t:TypeId}{f:Nat}{x:Operand}{fields:Array Field}{fd:Field}(bI:bR ev a)(ho:o.op= .field t x f)(ht:P.underlying t=some (.struct fields))
  (hf:fields[f]? =some fd)(hi:(P.info? fd.type).isSome=true)(hu:(P.underlying fd.type).isSome=true)
  (h:(de.field fd.offset (if fD P fd.type then some (P.cellsOf fd.type)else none) x).vc P ev H K):dX P o a H K:=by
 obtain⟨vs,hv,h⟩:=JJ (bf bI h)
 obtain⟨v,hp,h⟩:=aD h
 refine⟨v,fun w=>?_,h⟩
 have:=ye hi hu hp w
 simp only[anB]at this
 simp[execOp,ho,hv,Instr.field,ap ht,hf,asAgg,this]
theorem HD{t e:TypeId}{x i:Operand}(bI:bR ev a)(ho:o.op= .indexAddr t x i)(ht:P.underlying t=some (.slice e))(hi:(P.info? e).isSome=true)
  (h:(de.indexAddr (P.cellsOf e) x i).vc P ev H K):dX P o a H K:=by
 obtain⟨ad,n,c,hx,h⟩:=kM (bf bI (bf bI h))
 obtain⟨k,j,hj,h⟩:=kL h
 obtain⟨hb,h⟩:=h.out
 obtain⟨b,off,rfl,h⟩:=qQ h
 refine⟨_,fun w=>?_,h⟩
 simp[execOp,ho,hx,hj,Instr.indexAt,ap ht,asIntOf,hb.1,hb.2,bM hi,AY]
theorem Jh{t e:TypeId}{n:Nat}{x i:Operand}(bI:bR ev a)(ho:o.op= .indexAddr t x i)(ht:P.underlying t=some (.array n e))(hi:(P.info? e).isSome=true)
  (h:(de.gT n (P.cellsOf e) x i).vc P ev H K):dX P o a H K:=by
 obtain⟨b,off,hx,h⟩:=fN (bf bI (bf bI h))
 obtain⟨k,j,hj,h⟩:=kL h
 obtain⟨hb,h⟩:=h.out
 refine⟨_,fun w=>?_,h⟩
 simp[execOp,ho,hx,hj,Instr.indexAt,ap ht,asIntOf,hb.1,hb.2,bM hi,AY,Instr.sureAddr]
theorem Mu{t:TypeId}{x i:Operand}(bI:bR ev a)(ho:o.op= .index t x i)(ht:P.underlying t=some .string)
  (h:(de.KL x i).vc P ev H K):dX P o a H K:=by
 obtain⟨s,hx,h⟩:=pR (bf bI (bf bI h))
 obtain⟨k,j,hj,h⟩:=kL h
 obtain⟨h0,h⟩:=h.out
 obtain⟨b,hb,h⟩:=aD h
 refine⟨_,fun w=>?_,h⟩
 simp[execOp,ho,hx,hj,Instr.index,ap ht,asIntOf,h0,hb]
theorem od{x:Option Operand}{d:Nat}{F:Int→Prop}(bI:bR ev a)(h:sG ev x d F):
  ∃n,F n∧((x=none∧n=d)∨∃y k,x=some y∧a.eval y= .int k n):=by
 cases x with
 |none=>exact⟨d,h,.inl ⟨rfl,rfl⟩⟩
 |some y=>
  obtain⟨k,n,hy,h⟩:=kL (bf bI h)
  exact⟨n,h,.inr ⟨y,k,rfl,hy⟩⟩
theorem it{k:IntKind}{i:Int}{y:Nat}{code:BoundsCode}(h0:0≤i)(h1:i≤y)(w:World):(Instr.sliceBound (.int k i) y code).run P w= .ok i.toNat w:=by
 simp[Instr.sliceBound,asIntOf,h0,h1]
theorem HE{isS:Bool}{n c:Nat}{lo hi mx:Option Operand}{l h m:Int}(hl:(lo=none∧l=0)∨∃y k,lo=some y∧a.eval y= .int k l)
  (hh:(hi=none∧h=n)∨∃y k,hi=some y∧a.eval y= .int k h)(hm:(mx=none∧m=c)∨∃y k,mx=some y∧a.eval y= .int k m)
  (h3:mx.isSome=true→hi.isSome=true)(hb:0≤l∧l≤h∧h≤m∧m≤c)(w:World):
  (Instr.sliceBounds isS n c (lo.map a.eval) (hi.map a.eval) (mx.map a.eval)).run P w= .ok (l.toNat,h.toNat,m.toNat) w:=by
 obtain⟨h1,h2,h4,h5⟩:=hb
 unfold Instr.sliceBounds
 rcases hm with ⟨rfl,rfl⟩| ⟨ym,km,rfl,em⟩
 ·rcases hh with ⟨rfl,rfl⟩| ⟨yh,kh,rfl,eh⟩<;>rcases hl with ⟨rfl,rfl⟩| ⟨yl,kl,rfl,el⟩<;>
   simp only[Option.map_none,Option.map_some,Option.isSome_none,Sem.run_bind,Sem.run_pure,Result.andThen_ok, *]
  ·rfl
  ·rw[it h1 (by omega)];rfl
  ·rw[it (by omega) (by omega)];rfl
  ·rw[it (by omega) (by omega)];simp only[Result.andThen_ok];rw[it h1 (by omega)];rfl
 ·rcases hh with ⟨rfl,rfl⟩| ⟨yh,kh,rfl,eh⟩
  ·exact absurd (h3 rfl) (by simp)
  ·rcases hl with ⟨rfl,rfl⟩| ⟨yl,kl,rfl,el⟩<;>simp only[Option.map_none,Option.map_some,Option.isSome_some,Sem.run_bind,Sem.run_pure,Result.andThen_ok, *]
   ·rw[it (by omega) (by omega)];simp only[Result.andThen_ok];rw[it (by omega) (by omega)];rfl
   ·rw[it (by omega) (by omega)];simp only[Result.andThen_ok];rw[it (by omega) (by omega)];simp only[Result.andThen_ok];rw[it h1 (by omega)];rfl
theorem Oi{t e:TypeId}{x:Operand}{lo hi mx:Option Operand}(bI:bR ev a)(ho:o.op= .slice t x lo hi mx)(ht:P.underlying t=some (.slice e))(hie:(P.info? e).isSome=true)
  (h3:mx.isSome=true→hi.isSome=true)(h:(de.slice (P.cellsOf e) x lo hi mx).vc P ev H K):dX P o a H K:=by
 obtain⟨ad,n,c,hx,h⟩:=kM (bf bI h)
 obtain⟨m,h,hm⟩:=od bI h
 obtain⟨hh,h,hhi⟩:=od bI h
 obtain⟨l,h,Wm⟩:=od bI h
 obtain⟨hb,h⟩:=h.out
 refine⟨_,fun w=>?_,h⟩
 have hr:=HE (P:=P) (isS:=true) (n:=n) (c:=c) Wm hhi hm h3 hb w
 simp only[execOp,ho,Instr.sliceAt,Sem.run_bind,ap ht,Result.andThen_ok,Instr.slice,hx,hr,bM hie,Sem.run_pure]
 by_cases hml:m=l
 ·subst hml;simp
 ·rw[if_neg hml,if_neg (by omega)]
theorem Mv{t:TypeId}{x:Operand}{lo hi:Option Operand}(bI:bR ev a)(ho:o.op= .slice t x lo hi none)(ht:P.underlying t=some .string)
  (h:(de.KK x lo hi).vc P ev H K):dX P o a H K:=by
 obtain⟨s,hx,h⟩:=pR (bf bI h)
 obtain⟨hh,h,hhi⟩:=od bI h
 obtain⟨l,h,Wm⟩:=od bI h
 obtain⟨hb,h⟩:=h.out
 refine⟨_,fun w=>?_,h⟩
 have hr:=HE (P:=P) (isS:=false) (n:=s.size) (c:=s.size) (m:=s.size) (mx:=none) Wm hhi (.inl ⟨rfl,rfl⟩) (by simp) ⟨hb.1,hb.2.1,hb.2.2,anT _⟩ w
 simp only[Option.map_none]at hr
 simp only[execOp,ho,Instr.sliceAt,Sem.run_bind,ap ht,Result.andThen_ok,Instr.slice,hx,hr,Sem.run_pure,Option.map_none,Option.isSome_none,anb,if_false]
theorem KP(vs:List Value):∀ (n off:Nat) (z:Array Value),((vs.zipIdx n).foldl (fun cs (c,j)=>cs.setIfInBounds (off+j) c) z).toList=bq z.toList (off+n) vs:=by
 induction vs with
 |nil=>intro n off z;rfl
 |cons v vs ih=>
  intro n off z
  rw[List.zipIdx_cons,List.foldl_cons,rH]
  have:=ih (n+1) off (z.setIfInBounds (off+n) v)
  rw[this]
  simp[aol]
theorem fill_eq{place:Nat→Option (Nat×Nat)}:∀ (ps:List (Nat×Operand)) (qs:List (Nat×Nat×Operand)) (z:Array Value) (F:List Value→Prop),
  List.length ps=List.length qs→(∀ (j i:Nat) (x:Operand),ps[j]? =some (i,x)→∃off size:Nat,qs[j]? =some (off,size,x)∧place i=some (off,size)∧off+size≤z.size)→bR ev a→C5 ev z.toList qs F→
   ∃z':Array Value,Instr.fill place z (ps.map fun(i,x)=>(i,a.eval x))=some z'∧F z'.toList:=by
 intro ps
 induction ps with
 |nil=>
  intro qs z F hl hp bI h
  cases qs with
  |nil=>exact⟨z,rfl,h⟩
  |cons q qs=>simp at hl
 |cons p ps ih=>
  intro qs z F hl hp bI h
  obtain⟨i,x⟩:=p
  cases qs with
  |nil=>simp at hl
  |cons q qs=>
   obtain⟨off,size,hq,MX,zU⟩:=hp 0 i x rfl
   simp only[amz,ame]at hq
   subst hq
   obtain⟨hn,h⟩:=(bf bI h).out
   have PE:(a.eval x).cells.size=size:=by rw[←hn,←eW];simp
   rw[amL,Instr.fill]
   simp only[MX,PE,ne_eq,not_true_eq_false,decide_false,aoc,amQ]
   rw[if_neg (by omega)]
   have VR:((a.eval x).cells.zipIdx.foldl (fun cs (c,j)=>cs.setIfInBounds (off+j) c) z).toList=bq z.toList off (aJ (a.eval x)):=by
    have:=KP (a.eval x).cells.toList 0 off z
    rw[eW]at this
    rw[←Array.foldl_toList,Array.toList_zipIdx,eW]
    simpa using this
   refine ih qs _ F (by simpa using hl) (fun j i' x' hj=>?_) bI (by rw[VR];exact h)
   obtain⟨agb,abT,hq',agc,agd⟩:=hp (j+1) i' x' (by simpa using hj)
   refine⟨agb,abT,by simpa using hq',agc,?_⟩
   have:((a.eval x).cells.zipIdx.foldl (fun cs (c,j)=>cs.setIfInBounds (off+j) c) z).size=z.size:=by
    rw[←Array.length_toList,VR,nq,Array.length_toList]
   rw[this];exact agd
end
end Go.Vc

namespace Go.Vc
section
variable {P : Program} {o : Oper} {a : Act} {ev : Ev} {H : Hp} {K : Value → Hp → Prop}
theorem uO{place:Nat→Option (Nat×Nat)}{KN:Nat}:∀ (ps:List (Nat×Operand)) (qs:List (Nat×Nat×Operand)),nw place KN ps=some qs→
  ps.length=qs.length∧∀ (j i:Nat) (x:Operand),ps[j]? =some (i,x)→∃off size:Nat,qs[j]? =some (off,size,x)∧place i=some (off,size)∧off+size≤KN:=by
 intro ps
 induction ps with
 |nil=>intro qs h;simp only[nw,ame]at h;subst h;simp
 |cons p ps ih=>
  intro qs h
  obtain⟨i,x⟩:=p
  unfold nw at h
  split at h
  ·cases h
  ·rename_i off size MX
   split at h
   ·rename_i zU
    cases hr:nw place KN ps with
    |none=>rw[hr]at h;cases h
    |some qs'=>
     rw[hr]at h
     simp only[Option.map_some,ame]at h
     subst h
     obtain⟨h1,h2⟩:=ih qs' hr
     refine⟨by simp[h1],fun j i' x' hj=>?_⟩
     cases j with
     |zero=>
      simp only[amz,ame,Prod.mk.injEq]at hj
      obtain⟨rfl,rfl⟩:=hj
      exact⟨off,size,rfl,MX,zU⟩
     |succ j=>exact h2 j i' x' (by simpa using hj)
   ·cases h
theorem Mw(fs:List Field)(h:∀f∈fs,(P.info? f.type).isSome=true)(w:World):
  (fs.mapM fun f=>(do pure (f.offset,←sizeOf f.type):Sem (Nat×Nat))).run P w= .ok (fs.map fun f=>(f.offset,P.cellsOf f.type)) w:=by
 induction fs with
 |nil=>rfl
 |cons f fs ih=>
  rw[List.mapM_cons]
  simp only[Sem.run_bind,bM (h f amZ),Result.andThen_ok,Sem.run_pure,ih fun g hg=>h g (amK _ hg),amL]
theorem C8(ps:Array (Nat×Operand)):(ps.map fun(i,x)=>(i,a.eval x)).toList=ps.toList.map fun(i,x)=>(i,a.eval x):=by simp
theorem Oj{t:TypeId}{z:Value}{ps:Array (Nat×Operand)}{qs:List (Nat×Nat×Operand)}(bI:bR ev a)(ho:o.op= .build t ps)(hz:gC P t=some z)
  (hq:parts P t (aJ z).length ps.toList=some qs)(h:(de.build (aJ z) qs).vc P ev H K):dX P o a H K:=by
 have Ol:z.cells.toList=aJ z:=eW z
 have OO:z.cells.size=(aJ z).length:=by rw[←Ol];simp
 unfold parts at hq
 split at hq
 ·rename_i fields hu
  split at hq
  ·rename_i hk
   obtain⟨h1,h2⟩:=uO _ _ hq
   obtain⟨z',hf,PI⟩:=fill_eq (a:=a) (ev:=ev) (place:=((placeOf P fields)[·]?)) ps.toList qs z.cells (fun l=>K (.agg l.toArray) H) h1
    (fun j i x hj=>by obtain⟨off,size,e1,e2,e3⟩:=h2 j i x hj;exact⟨off,size,e1,e2,by omega⟩) bI (by rw[Ol];exact h)
   refine⟨.agg z',fun w=>?_,by simpa using PI⟩
   have MX:(fields.mapM fun f=>(do pure (f.offset,←sizeOf f.type):Sem (Nat×Nat))).run P w= .ok (placeOf P fields) w:=by
    rw[Array.mapM_eq_mapM_toList,Sem.run_map,Mw fields.toList (fun f hf=>by
     have:=(ant.1 hk) f (by simpa using hf);exact this) w]
    simp only[Result.andThen_ok]
    congr 1
    apply Array.ext'
    simp[placeOf]
   simp only[execOp,ho,Instr.build,Sem.run_bind,cP hz,ap hu,Result.andThen_ok,MX,C8,hf,Sem.run_pure]
  ·cases hq
 ·rename_i n e hu
  split at hq
  ·rename_i hi
   obtain⟨h1,h2⟩:=uO _ _ hq
   obtain⟨z',hf,PI⟩:=fill_eq (a:=a) (ev:=ev) (place:=fun i=>some (i*P.cellsOf e,P.cellsOf e)) ps.toList qs z.cells (fun l=>K (.agg l.toArray) H) h1
    (fun j i x hj=>by obtain⟨off,size,e1,e2,e3⟩:=h2 j i x hj;exact⟨off,size,e1,e2,by omega⟩) bI (by rw[Ol];exact h)
   refine⟨.agg z',fun w=>?_,by simpa using PI⟩
   simp only[execOp,ho,Instr.build,Sem.run_bind,cP hz,ap hu,Result.andThen_ok,bM hi,C8,hf,Sem.run_pure]
  ·cases hq
 ·cases hq
theorem C9{z:Array Value}{n size:Nat}(hs:z.size=size)(h0:size≠0):((Array.range (n*size)).map (z[· %z.size]!)).toList=cR z.toList n:=by
 subst hs
 induction n with
 |zero=>simp[cR]
 |succ n ih=>
  apply amN
  intro i
  have hp:cR z.toList (n+1)=cR z.toList n++z.toList:=by simp[cR,aob]
  have bm:(cR z.toList n).length=n*z.size:=by rw[←ih];simp
  rw[hp]
  by_cases hi:i<n*z.size
  ·rw[amn (by omega),←ih]
   have:i< (n+1)*z.size:=by rw[am6];omega
   simp[hi,this]
  ·rw[amw (by omega),bm]
   by_cases oq:i< (n+1)*z.size
   ·have uU:i - n*z.size<z.size:=by rw[am6]at oq;omega
    have TY:i%z.size=i - n*z.size:=by
     have e:i=(i - n*z.size)+z.size*n:=by rw[anI z.size n];omega
     rw[e,Nat.add_mul_mod_self_left,Nat.mod_eq_of_lt uU]
     rw[anI z.size n];omega
    simp[oq,TY,uU]
   ·have:z.size≤i - n*z.size:=by rw[am6]at oq;omega
    simp[oq,this]
theorem ET(z:List Value)(n:Nat):(cR z n).length=n*z.length:=by simp[cR]
theorem Tk{t e:TypeId}{n:Nat}{z:Value}{ps:Array (Nat×Operand)}{qs:List (Nat×Nat×Operand)}(bI:bR ev a)(ho:o.op= .buildSlice t n ps)(ht:P.underlying t=some (.slice e))
  (hz:gC P e=some z)(hi:(P.info? e).isSome=true)(h0:P.cellsOf e≠0)(hl:(aJ z).length=P.cellsOf e)(hm:n*P.cellsOf e≤2^24)
  (hq:nw (fun i=>some (i*P.cellsOf e,P.cellsOf e)) (n*P.cellsOf e) ps.toList=some qs)(h:(de.lit e n (cR (aJ z) n) qs).vc P ev H K):dV P o a H K:=by
 have Ol:z.cells.toList=aJ z:=eW z
 have OO:z.cells.size=P.cellsOf e:=by rw[←hl,←Ol];simp
 intro w hw
 subst hw
 obtain⟨h1,h2⟩:=uO _ _ hq
 have Qv:∀ (zz:Array Value),(n*P.cellsOf e=0∨zz=z.cells)→((Array.range (n*P.cellsOf e)).map (zz[· %zz.size]!)).toList=cR (aJ z) n:=by
  intro zz hzz
  rcases hzz with hzz|rfl
  ·have:n=0:=by
    rcases Nat.mul_eq_zero.1 hzz with h|h
    ·exact h
    ·exact absurd h h0
   subst this
   simp[cR]
  ·rw[C9 OO h0,Ol]
 have main:∀zz:Array Value,(n*P.cellsOf e=0∨zz=z.cells)→∃z':Array Value,Instr.fill (fun i=>some (i*P.cellsOf e,P.cellsOf e)) ((Array.range (n*P.cellsOf e)).map (zz[· %zz.size]!)) (ps.toList.map fun(i,x)=>(i,a.eval x))=some z'∧
   K (.slice (some ⟨w.heap.size,0,none⟩) n n) (Hp.new w.heap e z'.toList):=by
  intro zz hzz
  exact fill_eq (a:=a) (ev:=ev) ps.toList qs _ (fun l=>K (.slice (some ⟨w.heap.size,0,none⟩) n n) (Hp.new w.heap e l)) h1
   (fun j i x hj=>by obtain⟨off,size,e1,e2,e3⟩:=h2 j i x hj;exact⟨off,size,e1,e2,by simpa using e3⟩) bI (by rw[Qv zz hzz];exact h)
 by_cases hn:n*P.cellsOf e=0
 ·obtain⟨z',hf,hk⟩:=main #[] (.inl hn)
  refine .inl ⟨.slice (some ⟨w.heap.size,0,none⟩) n n,{w with heap:=Hp.new w.heap e z'.toList},?_,⟨rfl,rfl⟩,hk⟩
  simp only[execOp,ho,Instr.buildSlice,Sem.run_bind,ap ht,bM hi,Result.andThen_ok]
  rw[if_neg (by omega),if_pos hn]
  simp only[Sem.run_pure,Result.andThen_ok,Sem.run_bind,C8,hf,n9]
 ·obtain⟨z',hf,hk⟩:=main z.cells (.inr rfl)
  refine .inl ⟨.slice (some ⟨w.heap.size,0,none⟩) n n,{w with heap:=Hp.new w.heap e z'.toList},?_,⟨rfl,rfl⟩,hk⟩
  simp only[execOp,ho,Instr.buildSlice,Sem.run_bind,ap ht,bM hi,Result.andThen_ok]
  rw[if_neg (by omega),if_neg hn]
  simp only[Sem.run_pure,Result.andThen_ok,Sem.run_bind,cP hz,C8,hf,n9]
theorem Tl{t:TypeId}{x:Operand}(bI:bR ev a)(ho:o.op= .box t x)(h:(de.box t x).vc P ev H K):dV P o a H K:=by
 intro w hw
 subst hw
 have h:=bf bI h
 refine .inl ⟨_,{w with heap:=Hp.new w.heap t (aJ (a.eval x))},?_,⟨rfl,rfl⟩,h⟩
 simp[execOp,ho,Instr.box,EX]
theorem QM{t:TypeId}{z:Value}(hz:gC P t=some z)(ho:o.op= .alloc t)(h:(de.zero t (aJ z)).vc P ev H K):dV P o a H K:=by
 intro w hw
 subst hw
 refine .inl ⟨_,{w with heap:=Hp.new w.heap t (aJ z)},?_,⟨rfl,rfl⟩,h⟩
 simp[execOp,ho,Instr.alloc,EX,cP hz]
theorem Om{t:TypeId}{x:Operand}(bI:bR ev a)(ho:o.op= .load t x)(hi:(P.info? t).isSome=true)(hu:(P.underlying t).isSome=true)(hg:fD P t=false)
  (h:(de.gF x).vc P ev H K):dV P o a H K:=by
 intro w hw
 subst hw
 obtain⟨b,off,hx,h⟩:=fN (bf bI h)
 obtain⟨l,hl,h⟩:=aD h
 obtain⟨v,hv,h⟩:=aD h
 refine .inl ⟨v,w,?_,bZ.refl w,h⟩
 simp[execOp,ho,Instr.loadAt,hx,Instr.sureAddr,(mi hi hu hl).2 hg v hv]
theorem On{t:TypeId}{x:Operand}(bI:bR ev a)(ho:o.op= .load t x)(hi:(P.info? t).isSome=true)(hu:(P.underlying t).isSome=true)(hg:fD P t=true)
  (h:(de.kY (P.cellsOf t) x).vc P ev H K):dV P o a H K:=by
 intro w hw
 subst hw
 obtain⟨b,off,hx,h⟩:=fN (bf bI h)
 obtain⟨l,hl,h⟩:=aD h
 obtain⟨hn,h⟩:=h.out
 refine .inl ⟨_,w,?_,bZ.refl w,h⟩
 simp only[execOp,ho,Instr.loadAt,hx,Instr.sureAddr,Sem.run_bind,Sem.run_pure,Result.andThen_ok,(mi hi hu hl).1 hg hn]
theorem Oo{t:TypeId}{x y:Operand}(bI:bR ev a)(ho:o.op= .store t x y)(hi:(P.info? t).isSome=true)(h0:P.cellsOf t≠0)
  (h:(de.store (P.cellsOf t) x y).vc P ev H K):dV P o a H K:=by
 intro w hw
 subst hw
 obtain⟨b,off,hx,h⟩:=fN (bf bI h)
 obtain⟨l,hl,h⟩:=aD (bf bI h)
 obtain⟨h1,h⟩:=h.out
 obtain⟨h2,h⟩:=h.out
 obtain⟨h3,h⟩:=h.out
 obtain⟨w',hr,hs,hh⟩:=Jf (v:=a.eval y) hi h0 hl h1 (QF h2) h3
 refine .inr (.inl ⟨w',?_,hs,hh▸h⟩)
 simp[execOp,ho,Instr.storeAt,hx,Instr.sureAddr,hr]
theorem Mx{t:TypeId}(ho:o.op= .makeMap t none)(h:de.Ap.vc P ev H K):dV P o a H K:=by
 intro w hw
 subst hw
 refine .inl ⟨_,{w with heap:=Hp.fY w.heap},?_,⟨rfl,rfl⟩,h⟩
 simp only[execOp,ho,Option.map_none,Instr.makeMap,Sem.run_bind,Sem.run_pure,Result.andThen_ok,run_newObj,Hp.fY]
theorem wrap_i64{n:Int}(h0:0≤n)(h1:n≤2^62):IntKind.i64.wrap n=n:=by
 have e:(2^IntKind.i64.bits:Int)=18446744073709551616:=rfl
 have e':(2^ (IntKind.i64.bits - 1):Int)=9223372036854775808:=rfl
 unfold IntKind.wrap
 simp only[e,e',IntKind.signed,aom,amQ]
 split<;>omega
theorem HF{t e:TypeId}{z:Value}{x y:Operand}(bI:bR ev a)(ho:o.op= .makeSlice t x y)(ht:P.underlying t=some (.slice e))(hz:gC P e=some z)
  (hi:(P.info? e).isSome=true)(h0:P.cellsOf e≠0)(hl:(aJ z).length=P.cellsOf e)(h:(de.makeSlice e (P.bytesOf e) (P.cellsOf e) (aJ z) x y).vc P ev H K):dV P o a H K:=by
 intro w hw
 subst hw
 have h:=bf bI (bf bI h)
 obtain⟨k,n,hx,h⟩:=kL h
 obtain⟨k',c,hy,h⟩:=kL h
 obtain⟨⟨h1,h2,h3,h4⟩,h⟩:=h.out
 refine .inl ⟨_,{w with heap:=Hp.new w.heap e (cR (aJ z) c.toNat)},?_,⟨rfl,rfl⟩,h⟩
 obtain⟨i,hi'⟩:=Option.isSome_iff_exists.1 hi
 have hb:i.bytes=P.bytesOf e:=by simp[Program.bytesOf,hi']
 have Ol:z.cells.toList=aJ z:=eW z
 have OO:z.cells.size=P.cellsOf e:=by rw[←hl,←Ol];simp
 have w1:=wrap_i64 h1 (by omega:n≤2^62)
 have w2:=wrap_i64 (by omega:0≤c) (by omega:c≤2^62)
 simp only[execOp,ho,Instr.makeSlice,Sem.run_bind,ap ht,Result.andThen_ok,hx,hy,asInt,asIntOf,Sem.run_pure,et hi',hb,w1,w2,run_askRoom,bM hi]
 have t1:(decide (c<0) || decide ((P.bytesOf e:Int)*c>2^48))=false:=by simp;omega
 rw[if_neg (by simp only[t1,anb,false_or,Bool.or_eq_true,amQ];omega)]
 simp only[Sem.run_bind,run_askRoom,Result.andThen_ok,bM hi]
 by_cases hn:c.toNat*P.cellsOf e=0
 ·have rl:c.toNat=0:=by rcases Nat.mul_eq_zero.1 hn with h|h;exact h;exact absurd h h0
  rw[if_pos hn]
  simp only[rl,amH,Sem.run_bind,Sem.run_pure,Result.andThen_ok,n9]
  simp[cR]
 ·rw[if_neg hn]
  simp only[Sem.run_bind,cP hz,Sem.run_pure,Result.andThen_ok,n9,C9 OO h0,Ol]
theorem Gc{H:Hp}{b:Nat}{x:List MapEntry×Nat}(h:H.mp b=some x):∃es:Array MapEntry,H[b]? =some (.map es x.2)∧es.toList=x.1:=by
 unfold Hp.mp at h
 split at h
 ·rename_i es k hb;injection h with h;exact⟨es,by rw[hb,←h],by rw[←h]⟩
 ·cases h
theorem rI{w:World}{b:Nat}{es:Array MapEntry}{k:Nat}(h:w.heap[b]? =some (.map es k)):(getObj b).run P w= .ok (.map es k) w:=by simp[getObj,Sem.run,h]
theorem rJ{w:World}{b:Nat}{es VS:Array MapEntry}{k k':Nat}(h:w.heap[b]? =some (.map es k)):
  (setObj b (.map VS k')).run P w= .ok () {w with heap:=Hp.EH w.heap b VS.toList k'}:=by
 simp[setObj,Sem.run,h,Hp.EH]
theorem vq{t:TypeId}{s:Shape}(h:cD P t=some s)(hs:∀fs,s≠ .s fs):shapeOf P fE t=some s∧nu s=true:=by
 unfold cD at h
 split at h
 ·injection h with h;subst h;simp[shapeOf,fE, *,nu]
 ·injection h with h;subst h;simp[shapeOf,fE, *,nu]
 ·injection h with h;subst h;simp[shapeOf,fE, *,nu]
 ·split at h
  ·split at h
   ·injection h with h;exact absurd h.symm (hs _)
   ·cases h
  ·cases h
 ·cases h
theorem HG{t:TypeId}{s:Shape}(h:cD P t=some s):shapeOf P fE t=some s:=by
 by_cases hs:∃fs,s= .s fs
 ·obtain⟨fs,rfl⟩:=hs
  unfold cD at h
  split at h
  ·cases h
  ·cases h
  ·cases h
  ·split at h
   ·split at h
    ·injection h with h;injection h with h;subst h;assumption
    ·cases h
   ·cases h
  ·cases h
 ·exact(vq h fun fs e=>hs ⟨fs,e⟩).1
theorem vr{d:Nat}{t:TypeId}{s:Shape}(h:shapeOf P d t=some s)(hk:nu s=true)(v:Value)(e:Bool)(n:Nat)(w:World):(Instr.checkKey e (n+1) t v).run P w= .ok () w:=by
 cases d with
 |zero=>simp[shapeOf]at h
 |succ d=>
  rw[is]at h
  split at h
  ·injection h with h;subst h;simp[Instr.checkKey,ap ‹P.underlying t=_›]
  ·injection h with h;subst h;simp[Instr.checkKey,ap ‹P.underlying t=_›]
  ·injection h with h;subst h;simp[Instr.checkKey,ap ‹P.underlying t=_›]
  case h_9=>
   split at h
   ·cases h
   ·rename_i fs _ _
    cases hr:fK P d fs.toList with
    |none=>rw[hr]at h;cases h
    |some l=>rw[hr]at h;injection h with h;subst h;simp[nu]at hk
  all_goals first| (cases h;done)| (injection h with h;subst h;simp[nu]at hk)
theorem FV{d:Nat}(e:Bool)(n:Nat)(xs:List Value):∀ (fs:List Field) (l:List (Nat×Option Nat×Shape)),fK P d fs=some l→
  (l.all fun(off,agg,sh)=>agg.isNone && nu sh)=true→(∀q∈l,(xs[q.1]?).isSome=true)→∀w:World,
  (forIn fs PUnit.unit fun f (_:PUnit)=>(do
   if f.name≠ "_" then Instr.checkKey e (n+1) f.type (←part f.type xs.toArray f.offset)
   pure (ForInStep.yield PUnit.unit):Sem (ForInStep PUnit))).run P w= .ok PUnit.unit w:=by
 intro fs
 induction fs with
 |nil=>intro l _ _ _ w;simp
 |cons f fs ih=>
  intro l hl ha hx w
  rw[sE]at hl
  split at hl
  ·cases hl
  ·rename_i Th
   split at hl
   ·cases hl
   ·rename_i sh HW
    cases hr:fK P d fs with
    |none=>rw[hr]at hl;cases hl
    |some l'=>
     rw[hr]at hl
     simp only[Option.map_some,ame]at hl
     subst hl
     rw[List.all_cons]at ha
     simp only[amX]at ha
     obtain⟨⟨h1,h2⟩,h3⟩:=ha
     have age:fD P f.type=false:=by
      cases hb:fD P f.type
      ·rfl
      ·simp[hb]at h1
     obtain⟨v,hv⟩:=Option.isSome_iff_exists.1 (hx _ amZ)
     have hu:(P.underlying f.type).isSome=true:=by
      cases d with
      |zero=>simp[shapeOf]at HW
      |succ d=>rw[is]at HW;split at HW<;>first| (cases HW;done)|simp_all
     have hp:=ye (P:=P) (l:=xs) (t:=f.type) (off:=f.offset) (v:=v) (info_of_underlying hu) hu (by rw[age];simpa[xw]using hv) w
     simp only[List.forIn_cons,Th,ne_eq,not_false_eq_true,if_true,Sem.run_bind,hp,Result.andThen_ok,vr HW h2,Sem.run_pure]
     exact ih l' hr h3 (fun q hq=>hx q (amK _ hq)) w
theorem HH{t:TypeId}{s:Shape}{k:Value}(h:cD P t=some s)(hk:CM s k=true)(e:Bool)(n:Nat)(w:World):(Instr.checkKey e (n+1+1) t k).run P w= .ok () w:=by
 by_cases hs:∃fs,s= .s fs
 ·obtain⟨l,rfl⟩:=hs
  have h':=h
  unfold cD at h
  split at h
  ·cases h
  ·cases h
  ·cases h
  ·rename_i fs hu
   split at h
   ·split at h
    ·rename_i l' HW fZ
     injection h with h;injection h with h;subst h
     cases k with
     |agg xs=>
      simp only[show fE=7+1 from rfl,is,hu]at HW
      split at HW
      ·cases HW
      ·cases hr:fK P 7 fs.toList with
       |none=>rw[hr]at HW;cases HW
       |some l=>
        rw[hr]at HW
        simp only[Option.map_some,ame,Shape.s.injEq]at HW
        subst HW
        rw[Instr.checkKey]
        simp only[Sem.run_bind,ap hu,Result.andThen_ok]
        rw[←Array.forIn_toList]
        have:=FV (P:=P) e n xs.toList fs.toList l hr fZ (fun q hq=>by
         have h1:=(anl.1 hk) q hq
         obtain⟨off,agg,sh⟩:=q
         simp only[amX]at h1
         have h2:=h1.2
         cases hx:(xs.toList)[off]? with
         |none=>rw[show xs[off]? =none by simpa using hx]at h2;cases sh<;>simp at h2
         |some v=>rfl) w
        simp only[anB]at this
        rw[this]
        rfl
     |_=>simp[CM]at hk
    ·cases h
   ·cases h
  ·cases h
 ·obtain⟨h1,h2⟩:=vq h fun fs e=>hs ⟨fs,e⟩
  exact vr h1 h2 k e (n+1) w
theorem jx{t:TypeId}{s:Shape}{k:Value}(h:cD P t=some s)(hk:CM s k=true)(e:Bool)(w:World):(Instr.checkKey e 10000 t k).run P w= .ok () w:=
 HH h hk e 9998 w
theorem HI{t:TypeId}{s:Shape}{k:Value}(h:shapeOf P fE t=some s):∀ (es:List MapEntry) (i:Nat) (r:Option (Nat×Value)),ij s k es i=some r→∀w:World,
  (Instr.findAsking t k es i).run P w= .ok r w:=by
 intro es
 induction es with
 |nil=>intro i r hr w;simp only[ij,ame]at hr;subst hr;rfl
 |cons e es ih=>
  intro i r hr w
  unfold ij at hr
  have he:∀b,tq s k e.key=some b→(Op.equal t k e.key).run P w= .ok b w:=by
   intro b hb
   unfold Op.equal Op.maxDepth
   have:=(C7 (P:=P) fE).1 t s k e.key b h hb (10000 - fE) w
   simpa[fE]using this
  split at hr
  ·rename_i hb
   injection hr with hr;subst hr
   simp[Instr.findAsking,he true hb]
  ·rename_i hb
   simp[Instr.findAsking,he false hb,ih (i+1) r hr w]
  ·cases hr
theorem EC{d:TypeDesc}{s:Shape}{k:Value}(hd:(∃q,d= .int q∧s= .int)∨(d= .string∧s= .str)∨(d= .bool∧s= .bool)):∀ (es:List MapEntry) (i:Nat) (r:Option (Nat×Value)),
  ij s k es i=some r→Instr.findNow d k es i=some r:=by
 intro es
 induction es with
 |nil=>intro i r hr;simpa[ij,Instr.findNow]using hr
 |cons e es ih=>
  intro i r hr
  unfold ij at hr
  unfold Instr.findNow
  have O0:∀b,tq s k e.key=some b→Instr.sameNow d k e.key=some b:=by
   intro b hb
   rcases hd with ⟨q,rfl,rfl⟩| ⟨rfl,rfl⟩| ⟨rfl,rfl⟩
   ·cases k<;>cases hk:e.key<;>simp only[hk,tq,bB]at hb<;>first| (cases hb;done)|skip
    exact hb
   ·cases k<;>cases hk:e.key<;>simp only[hk,tq,bB]at hb<;>first| (cases hb;done)|skip
    simpa[Instr.sameNow,beq_toListBytes]using hb
   ·cases k<;>cases hk:e.key<;>simp only[hk,tq,bB]at hb<;>first| (cases hb;done)|skip
    simpa[Instr.sameNow]using hb
  split at hr
  ·rename_i hb;rw[O0 true hb];exact hr
  ·rename_i hb;rw[O0 false hb];exact ih _ _ hr
  ·cases hr
theorem mj{t:TypeId}{s:Shape}{k:Value}{es:List MapEntry}{r:Option (Nat×Value)}(h:cD P t=some s)(hr:ij s k es 0=some r)(w:World):
  (Instr.findKey t k es).run P w= .ok r w:=by
 have HW:=HG h
 unfold Instr.findKey
 have hu:∃d,P.underlying t=some d:=by
  unfold cD at h
  split at h<;>first|exact⟨_, ‹_›⟩|cases h
 obtain⟨d,hu⟩:=hu
 simp only[Sem.run_bind,ap hu,Result.andThen_ok]
 by_cases hs:∃fs,s= .s fs
 ·obtain⟨l,rfl⟩:=hs
  have hd:∃fs,d= .struct fs:=by
   unfold cD at h
   rw[hu]at h
   split at h
   ·cases h
   ·cases h
   ·cases h
   ·rename_i he;injection he with he;exact⟨_,he⟩
   ·cases h
  obtain⟨fs,rfl⟩:=hd
  cases es with
  |nil=>simp only[ij,ame]at hr;subst hr;rfl
  |cons e es=>
   have:Instr.findNow (.struct fs) k (e::es) 0=none:=by simp[Instr.findNow,Instr.sameNow]
   rw[this]
   exact HI HW _ _ _ hr w
 ·have hd:(∃q,d= .int q∧s= .int)∨(d= .string∧s= .str)∨(d= .bool∧s= .bool):=by
   unfold cD at h
   rw[hu]at h
   split at h
   ·rename_i q he;injection he with he;injection h with h;exact .inl ⟨q,he,h.symm⟩
   ·rename_i he;injection he with he;injection h with h;exact .inr (.inl ⟨he,h.symm⟩)
   ·rename_i he;injection he with he;injection h with h;exact .inr (.inr ⟨he,h.symm⟩)
   ·split at h
    ·split at h
     ·injection h with h;exact absurd ⟨_,h.symm⟩ hs
     ·cases h
    ·cases h
   ·cases h
  rw[EC hd es 0 r hr]
  rfl
end
end Go.Vc
