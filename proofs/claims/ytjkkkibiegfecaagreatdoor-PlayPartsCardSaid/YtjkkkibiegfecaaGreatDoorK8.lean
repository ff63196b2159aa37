/- Texts put behind each other. -/
import Derived.Test.YtjkkkibiegfecaaGreatDoorK98
import Derived.Test.YtjkkkibiegfecaaGreatDoorK7
set_option maxRecDepth 100000
set_option maxHeartbeats 8000000
set_option linter.unusedVariables false
namespace Go.Vc
def cF(P:Program)(t:TypeId):Option Shape:=
 match P.underlying t with
 |some (.int _)=>some .int
 |some .string=>some .str
 |some .bool=>some .bool
 |some (.struct _)=>
  match shapeOf P fY t with
  |some (.s l)=>if l.all (fun(off,agg,sh)=>agg.isNone && pM sh)then some (.s l)else none
  |_=>none
 |_=>none
def VU:Shape→Bool| .s _=>false|_=>true
def CM:TypeDesc→Bool| .slice _=>true| .string=>true|_=>false
def Jr(P:Program)(o:Oper):Option dD:=
 match o.op with
 | .move x=>some (.ax x)
 | .assign x=>some (.ax x)
 | .pick c a b=>some (.pick c a b)
 | .box T x=>some (.box T x)
 | .alloc T=>(fO P T).map fun z=>.zero T (aI z)
 | .build t ps=>(fO P t).bind fun z=>(parts P t (aI z).length ps.toList).map (.build (aI z))
 | .buildSlice t n ps=>
  match P.underlying t with
  |some (.slice e)=>(fO P e).bind fun z=>
   if(P.info? e).isSome∧P.cellsOf e≠0∧(aI z).length=P.cellsOf e∧n*P.cellsOf e≤2^24 then
    (lf (fun i=>some (i*P.cellsOf e,P.cellsOf e)) (n*P.cellsOf e) ps.toList).map (.lit e n (dE (aI z) n))
   else none
  |_=>none
 | .load t x=>if(P.info? t).isSome∧(P.underlying t).isSome then(if eI P t then some (.gO (P.cellsOf t) x)else some (.aq x))else none
 | .store t x v=>if(P.info? t).isSome∧P.cellsOf t≠0 then some (.store (P.cellsOf t) x v)else none
 | .nilCheck x=>some (.nilCheck x)
 | .binOp op t x y _=>
  match op with
  | .eql| .neq=>
   match P.underlying t,y with
   |some (.interface _),.const .nilIface=>some (.UN (match op with| .neq=>true|_=>false) x)
   |_,_=>(shapeOf P fY t).bind fun s=>if VU s=true∨P.eqGuardType P.depth t=false then some (.jY op s x y)else none
  |_=>some (.jY op .int x y)
 | .unOp op _ x=>some (.un op x)
 | .convert src dst x=>
  match P.underlying src,P.underlying dst with
  |some (.int _),some (.int k)=>some (.conv k x)
  |some (.slice e),some .string=>(match P.underlying e with|some (.int .u8)=>some (.Py x)|_=>none)
  |some .string,some (.slice e)=>(match P.underlying e with|some (.int .u8)=>some (.J6 e x)|_=>none)
  |_,_=>none
 | .makeInterface t x=>match P.underlying t with|some (.interface _)=>none|some _=>some (.iface t x)|none=>none
 | .makeFunc fn first captured=>some (.func fn first.toList captured.toList)
 | .makeMap t none=>some .Pq
 | .makeSlice t n c=>
  match P.underlying t with
  |some (.slice e)=>(fO P e).bind fun z=>if(P.info? e).isSome∧P.cellsOf e≠0∧(aI z).length=P.cellsOf e then some (.makeSlice e (P.bytesOf e) (P.cellsOf e) (aI z) n c)else none
  |_=>none
 | .slice t x lo hi mx=>
  match P.underlying t with
  |some (.slice e)=>if(P.info? e).isSome∧(mx.isNone∨hi.isSome)then some (.slice (P.cellsOf e) x lo hi mx)else none
  |some .string=>if mx.isNone then some (.J7 x lo hi)else none
  |_=>none
 | .fieldAddr s x f=>
  match P.underlying s with
  |some (.struct fields)=>(fields[f]?).bind fun fd=>if(P.info? fd.type).isSome∧P.cellsOf fd.type≠0 then some (.fieldAddr fd.offset x)else none
  |_=>none
 | .field t x f=>
  match P.underlying t with
  |some (.struct fields)=>(fields[f]?).bind fun fd=>if(P.info? fd.type).isSome∧(P.underlying fd.type).isSome then some (.field fd.offset (if eI P fd.type then some (P.cellsOf fd.type)else none) x)else none
  |_=>none
 | .indexAddr t x i=>
  match P.underlying t with
  |some (.slice e)=>if(P.info? e).isSome then some (.indexAddr (P.cellsOf e) x i)else none
  |some (.array n e)=>if(P.info? e).isSome then some (.AJ n (P.cellsOf e) x i)else none
  |_=>none
 | .index t x i=>
  match P.underlying t with
  |some .string=>some (.J8 x i)
  |some (.array n e)=>if(P.info? e).isSome∧(P.underlying e).isSome then some (.Ka n (P.cellsOf e) (if eI P e then some (P.cellsOf e)else none) x i)else none
  |_=>none
 | .lookup t x i ok=>
  match P.underlying t with
  |some (.map k e)=>(cF P k).bind fun s=>(fO P e).map fun z=>.lookup s z ok x i
  |_=>none
 | .mapUpdate t m k v=>match P.underlying t with|some (.map kt _)=>(cF P kt).map fun s=>.update s m k v|_=>none
 | .extract x i=>some (.extract i x)
 | .typeAssert x _ T false=>(match P.underlying T with|some (.interface _)=>none|some _=>some (.J9 T x)|none=>none)
 | .call c=>
  match c.callee with
  | .value (.func f)=>if eZ P f then some (.call f c.args.toList)else some (.ext f c.args.toList)
  | .value x=>some (.dyn x c.args.toList)
  | .invoke r name=>some (.invoke r name c.args.toList)
  | .builtin .len=>
   match c.args.toList,(c.argTypes[0]?).bind P.underlying with
   | [x],some (.slice _)=>some (.uN x)
   | [x],some .string=>some (.UG x)
   | [x],some (.map _ _)=>some (.UH x)
   |_,_=>none
  | .builtin .append=>
   match c.args.toList,(c.argTypes[0]?).bind P.underlying,(c.argTypes[1]?).bind P.underlying with
   | [x,y],some (.slice e),some d=>(fO P e).bind fun z=>
    if(P.info? e).isSome∧P.cellsOf e≠0∧(aI z).length=P.cellsOf e∧P.bytesOf e≠0∧CM d=true then
     some (.append e (P.cellsOf e) (P.bytesOf e) (aI z) x y)else none
   |_,_,_=>none
  | .builtin .delete=>
   match c.args.toList,(c.argTypes[0]?).bind P.underlying with
   | [m,k],some (.map kt _)=>(cF P kt).map fun s=>.delete s m k
   |_,_=>none
  | .builtin .clear=>
   match c.args.toList,(c.argTypes[0]?).bind P.underlying with
   | [x],some (.slice e)=>(fO P e).bind fun z=>if(aI z).length≠0 then some (.Ny (aI z) x)else none
   |_,_=>none
  | .builtin .min=>some (.UK c.args.toList)
  | .builtin .max=>some (.UL c.args.toList)
  |_=>none
 |_=>none
def LJ:Value→List Value→Option Value
 |v,[]=>some v
 |v,u::r=>match v,u with
  | .int k a,.int _ b=>LJ (.int k (if b<a then b else a)) r
  |_,_=>none
def acR(l:List Value):Option Value:=match l with| []=>none|v::r=>LJ v r
def LK:Value→List Value→Option Value
 |v,[]=>some v
 |v,u::r=>match v,u with
  | .int k a,.int _ b=>LK (.int k (if b>a then b else a)) r
  |_,_=>none
def acS(l:List Value):Option Value:=match l with| []=>none|v::r=>LK v r
@[go_sem] theorem aag(v:Value)(r:List Value):acR (v::r)=LJ v r:=(rfl)
@[go_sem] theorem acT(v:Value):LJ v []=some v:=(rfl)
@[go_sem] theorem aah(k k':IntKind)(a b:Int)(r:List Value):LJ (.int k a) (.int k' b::r)=LJ (.int k (if b<a then b else a)) r:=(rfl)
@[go_sem] theorem aai(v:Value)(r:List Value):acS (v::r)=LK v r:=(rfl)
@[go_sem] theorem acU(v:Value):LK v []=some v:=(rfl)
@[go_sem] theorem aaj(k k':IntKind)(a b:Int)(r:List Value):LK (.int k a) (.int k' b::r)=LK (.int k (if b>a then b else a)) r:=(rfl)
def pQ(ev:Ev)(x:Option Operand)(d:Nat)(F:Int→Prop):Prop:=
 match x with
 |none=>F d
 |some x=>aD (ev x) fun v=>AM v F
@[go_sem ↓] theorem WO(ev:Ev)(d:Nat)(F:Int→Prop):pQ ev none d F=F d:=(rfl)
@[go_sem ↓] theorem WP(ev:Ev)(x:Operand)(d:Nat)(F:Int→Prop):pQ ev (some x) d F=aD (ev x) fun v=>AM v F:=(rfl)
def LW(H:Hp)(r:Option Nat)(F:Nat→Prop):Prop:=
 match r with
 |none=>F 0
 |some b=>aD (H.mp b) fun m=>F m.1.length
@[go_sem ↓] theorem YS(H:Hp)(b:Nat)(F:Nat→Prop):LW H (some b) F=aD (H.mp b) fun m=>F m.1.length:=(rfl)
def iq(ok:Bool)(z:Value)(x:Option Value):Value:=
 bif ok then(match x with|some v=>.tuple [v,.bool true].toArray|none=>.tuple [z,.bool false].toArray)else x.getD z
@[go_sem] theorem RT(z v:Value):iq true z (some v)= .tuple [v,.bool true].toArray:=(rfl)
@[go_sem] theorem RU(z:Value):iq true z none= .tuple [z,.bool false].toArray:=(rfl)
@[go_sem] theorem VV(z v:Value):iq false z (some v)=v:=(rfl)
@[go_sem] theorem VW(z:Value):iq false z none=z:=(rfl)
def HL:Value→Bool
 | .pointer (some _)=>true
 | .iface .. =>true
 | .func (.func _) _ _=>true
 |_=>false
@[go_sem] theorem aak(a:Addr):HL (.pointer (some a))=true:=(rfl)
@[go_sem] theorem WQ(t:TypeId)(v:Value):HL (.iface t v)=true:=(rfl)
@[go_sem] theorem YT(f:FuncId)(a b:Array Value):HL (.func (.func f) a b)=true:=(rfl)
def Qz(P:Program)(v:Value):Prop:=
 HL v=true∨∃name t u cap,v= .func (.method name) #[.iface t u] cap∧∀w,(nilAhead (P.types.size+Made.depth) t u name).run P w= .ok (some false) w
@[go_sem] theorem acV(P:Program)(a:Addr):Qz P (.pointer (some a))=True:=eq_true (.inl rfl)
@[go_sem] theorem YU(P:Program)(t:TypeId)(v:Value):Qz P (.iface t v)=True:=eq_true (.inl rfl)
@[go_sem] theorem aal(P:Program)(f:FuncId)(a b:Array Value):Qz P (.func (.func f) a b)=True:=eq_true (.inl rfl)
def dD.vc(P:Program)(ev:Ev)(H:Hp)(K:Value→Hp→Prop):dD→Prop
 | .ax x=>aD (ev x) fun v=>K v H
 | .pick c a b=>aD (ev c) fun cv=>AK cv fun t=>aD (bif t then ev a else ev b) fun v=>K v H
 | .box T x=>aD (ev x) fun v=>now (H.new T (aI v)) fun H'=>K (.pointer (some ⟨H.size,0,none⟩)) H'
 | .zero T l=>now (H.new T l) fun H'=>K (.pointer (some ⟨H.size,0,none⟩)) H'
 | .build z ps=>AL ev z ps fun l=>now l fun l=>K (.agg l.toArray) H
 | .lit T n z ps=>AL ev z ps fun l=>now (H.new T l) fun H'=>K (.slice (some ⟨H.size,0,none⟩) n n) H'
 | .aq x=>aD (ev x) fun p=>wU p fun b o=>aD (H.rd b) fun l=>aD l[o]? fun v=>K v H
 | .gO n x=>aD (ev x) fun p=>wU p fun b o=>aD (H.rd b) fun l=>eo (o+n≤l.length) (K (.agg ((l.drop o).take n).toArray) H)
 | .store n x v=>aD (ev x) fun p=>wU p fun b o=>aD (ev v) fun v=>aD (Ie (H.own b) (H.Az b)) fun l=>
   eo ((aI v).length=n) (eo (tm (aI v)=true) (eo (o+n≤l.length) (now (H.wr b (aX l o (aI v))) fun H'=>K undef H')))
 | .nilCheck x=>aD (ev x) fun v=>eo (Qz P v) (K v H)
 | .jY op s x y=>aD (ev x) fun a=>aD (ev y) fun b=>aD (dJ op s a b) fun v=>K v H
 | .un op x=>aD (ev x) fun a=>aD (unF op a) fun v=>K v H
 | .conv k x=>aD (ev x) fun a=>AM a fun n=>K (.int k (k.wrap n)) H
 | .iface T x=>aD (ev x) fun v=>K (.iface T v) H
 | .func fn first captured=>NL ev first fun l=>NL ev captured fun c=>K (.func fn l.toArray c.toArray) H
 | .Pq=>K (.map (some H.size)) H.js
 | .makeSlice T bytes size z n c=>aD (ev n) fun nv=>aD (ev c) fun cv=>AM nv fun n=>AM cv fun c=>
   eo (0≤n∧n≤c∧c≤2^48∧bytes*c≤2^48) (now (H.new T (dE z c.toNat)) fun H'=>K (.slice (some ⟨H.size,0,none⟩) n.toNat c.toNat) H')
 | .slice size x lo hi mx=>aD (ev x) fun v=>pP v fun a n c=>pQ ev mx c fun m=>pQ ev hi n fun h=>pQ ev lo 0 fun l=>
   eo (0≤l∧l≤h∧h≤m∧m≤c) (K (.slice (if m=l then a else a.map (·.add (l.toNat*size))) (h.toNat - l.toNat) (m.toNat - l.toNat)) H)
 | .J7 x lo hi=>aD (ev x) fun v=>jp v fun s=>pQ ev hi s.size fun h=>pQ ev lo 0 fun l=>
   eo (0≤l∧l≤h∧h≤s.size) (K (.string (s.extract l.toNat h.toNat)) H)
 | .fieldAddr off x=>aD (ev x) fun p=>wU p fun b o=>K (.pointer (some ⟨b,o+off,none⟩)) H
 | .field off agg x=>aD (ev x) fun v=>NM v fun l=>aD (rE l off agg) fun v=>K v H
 | .indexAddr size x i=>aD (ev x) fun v=>aD (ev i) fun iv=>pP v fun a n _=>AM iv fun i=>eo (0≤i∧i<n) (tq a fun b o=>K (.pointer (some ⟨b,o+i.toNat*size,none⟩)) H)
 | .AJ aQ size x i=>aD (ev x) fun p=>aD (ev i) fun iv=>wU p fun b o=>AM iv fun i=>eo (0≤i∧i<aQ) (K (.pointer (some ⟨b,o+i.toNat*size,none⟩)) H)
 | .Ka aQ size agg x i=>aD (ev x) fun v=>aD (ev i) fun iv=>NM v fun l=>AM iv fun i=>eo (0≤i∧i<aQ) (aD (rE l (i.toNat*size) agg) fun v=>K v H)
 | .J8 x i=>aD (ev x) fun v=>aD (ev i) fun iv=>jp v fun s=>AM iv fun i=>eo (0≤i) (aD (s[i.toNat]?) fun b=>K (.int .u8 b.toNat) H)
 | .lookup s z ok m k=>aD (ev m) fun mv=>aD (ev k) fun kv=>CO mv fun r=>eo (Ek s kv=true) (D1 H s r kv fun x=>K (iq ok z x) H)
 | .update s m k v=>aD (ev m) fun mv=>aD (ev k) fun kv=>aD (ev v) fun vv=>CO mv fun r=>aD r fun b=>eo (Ek s kv=true) (Xb H s b kv vv fun H'=>K undef H')
 | .extract i x=>aD (ev x) fun v=>Qt v fun l=>aD l[i]? fun v=>K v H
 | .call f args=>NL ev args fun vs=>ag P f vs H K
 | .dyn f args=>aD (ev f) fun fv=>NL ev args fun vs=>WW P fv vs H K
 | .invoke r name args=>aD (ev r) fun rv=>NL ev args fun vs=>fW P rv name vs H K
 | .uN x=>aD (ev x) fun v=>pP v fun _ n _=>K (.int .i64 n) H
 | .UG x=>aD (ev x) fun v=>jp v fun s=>K (.int .i64 s.size) H
 | .UH x=>aD (ev x) fun v=>CO v fun r=>LW H r fun n=>K (.int .i64 n) H
 | .append T size bytes z x y=>aD (ev x) fun xv=>aD (ev y) fun yv=>gH T size bytes z xv yv H K
 | .delete s m k=>aD (ev m) fun mv=>aD (ev k) fun kv=>CO mv fun r=>aD r fun b=>eo (Ek s kv=true) (Xc H s b kv fun H'=>K (.tuple [].toArray) H')
 | .Ny z x=>aD (ev x) fun v=>pP v fun a n _=>YQ H z a n fun H'=>K (.tuple [].toArray) H'
 | .UK args=>NL ev args fun vs=>aD (acR vs) fun v=>K v H
 | .UL args=>NL ev args fun vs=>aD (acS vs) fun v=>K v H
 | .J9 T x=>aD (ev x) fun v=>wH T v fun u=>K u H
 | .UN neg x=>aD (ev x) fun v=>NN v fun b=>K (.bool (Pp neg b)) H
 | .Py x=>aD (ev x) fun v=>uO H v fun l=>K (.string ⟨l.toArray⟩) H
 | .J6 T x=>aD (ev x) fun v=>jp v fun s=>T0 T s H K
 | .ext f args=>NL ev args fun vs=>aho P f vs H K
attribute [go_sem ↓] dD.vc
section
variable {P : Program} {o : Oper} {a : Act} {ev : Ev} {H : Hp} {K : Value → Hp → Prop}
def dX(P:Program)(o:Oper)(a:Act)(H:Hp)(K:Value→Hp→Prop):Prop:=∃v,(∀w,(execOp a.eval o).run P w= .ok (.value v) w)∧K v H
theorem dX.aeJ(h:dX P o a H K):ef P o a H K:=by
 obtain⟨v,h1,h2⟩:=h
 exact fun w hw=>.inl ⟨v,w,h1 w,cz.refl w,hw▸h2⟩
theorem au{t:TypeId}{d:TypeDesc}(h:P.underlying t=some d)(w:World):(underlying t).run P w= .ok d w:=run_underlying h w
theorem eG{t:TypeId}{i:TypeInfo}(h:P.info? t=some i)(w:World):(typeInfo t).run P w= .ok i w:=by simp[typeInfo,h]
theorem bM{t:TypeId}(h:(P.info? t).isSome=true)(w:World):(sizeOf t).run P w= .ok (P.cellsOf t) w:=by
 obtain⟨i,hi⟩:=Option.isSome_iff_exists.1 h
 simp[sizeOf,eG hi,Program.cellsOf,hi]
theorem cJ{t:TypeId}{z:Value}(h:fO P t=some z)(w:World):(zeroValue t).run P w= .ok z w:=by
 unfold fO at h
 cases hi:P.info? t with
 |none=>grind
 |some i=>rw[hi]at h;simp only[Option.bind_some]at h;simp[zeroValue,eG hi,h]
theorem Aw{t:TypeId}(h:(P.underlying t).isSome=true)(w:World):(isAgg t).run P w= .ok (eI P t) w:=by
 obtain⟨d,hd⟩:=Option.isSome_iff_exists.1 h
 unfold isAgg eI
 simp only[Sem.run_bind,au hd,Result.andThen_ok,hd]
 cases d<;>rfl
theorem El(t:TypeId)(v:Value)(w:World):(newVar t v).run P w= .ok ⟨w.heap.size,0,none⟩ {w with heap:=Hp.new w.heap t (aI v)}:=by
 simp only[newVar,newRow,Sem.run_bind,run_newObj,Result.andThen_ok,Sem.run_pure,Hp.new,←eY,apn]
theorem lA(t:TypeId)(c:Array Value)(w:World):(newRow t c).run P w= .ok ⟨w.heap.size,0,none⟩ {w with heap:=Hp.new w.heap t c.toList}:=by
 rfl
theorem jr{t:TypeId}{w:World}{b o:Nat}{l:List Value}(hi:(P.info? t).isSome=true)(hu:(P.underlying t).isSome=true)(h:Hp.rd w.heap b=some l):
  (eI P t=true→o+P.cellsOf t≤l.length→(loadVar t ⟨b,o,none⟩).run P w= .ok (.agg ((l.drop o).take (P.cellsOf t)).toArray) w)∧
  (eI P t=false→∀v,l[o]? =some v→(loadVar t ⟨b,o,none⟩).run P w= .ok v w):=by
 refine⟨fun ha hn=>?_,fun ha v hv=>?_⟩
 ·simp[loadVar,Aw hu,ha,bM hi,qw (P:=P) (a:=⟨b,o,none⟩) rfl h hn]
 ·have hc:w.cell? ⟨b,o,none⟩=some v:=(oC rfl h).trans hv
  simp[loadVar,Aw hu,ha,hc]
theorem Jn{t:TypeId}{w:World}{b o:Nat}{l:List Value}{v:Value}(hi:(P.info? t).isSome=true)(h0:P.cellsOf t≠0)(h:Ie (Hp.own w.heap b) (Hp.Az w.heap b)=some l)
  (hl:(aI v).length=P.cellsOf t)(h1:fK (aI v))(hn:o+P.cellsOf t≤l.length):
  ∃w',(storeVar t ⟨b,o,none⟩ v).run P w= .ok () w'∧cz w w'∧w'.heap=Hp.wr w.heap b (aX l o (aI v)):=by
 obtain⟨w',hr,hs,hk,_⟩:=iB (P:=P) (b:=b) (o:=o) (aI v) 0 w l h (by omega) h1
 refine⟨w',?_,hs,by grind⟩
 have e:v.cells.size=P.cellsOf t:=by rw[←hl,←eY];simp
 simp only[storeVar,Sem.run_bind,bM hi,Result.andThen_ok,e,ne_eq,not_true_eq_false,if_false,eY]
 exact hr
end
end Go.Vc

set_option linter.unusedSimpArgs false
namespace Go.Vc
section
variable {P : Program} {o : Oper} {a : Act} {ev : Ev} {H : Hp} {K : Value → Hp → Prop}
theorem eo.out{c F:Prop}(h:eo c F):c∧F:=h
theorem yW{v:Value}{F:Bool→Prop}(h:AK v F):∃b,v= .bool b∧F b:=by
 unfold AK at h;split at h
 ·exact⟨_,rfl,h⟩
 grind
theorem rQ{l:List Value}{t:TypeId}{off:Nat}{v:Value}(hi:(P.info? t).isSome=true)(hu:(P.underlying t).isSome=true)
  (h:rE l off (if eI P t then some (P.cellsOf t)else none)=some v)(w:World):(part t l.toArray off).run P w= .ok v w:=by
 unfold part
 simp only[Sem.run_bind,Aw hu,Result.andThen_ok]
 cases hb:eI P t
 ·rw[hb]at h
  simp only[ao6,if_false,rE]at h ⊢
  simp[h]
 ·rw[hb]at h
  simp only[if_true,rE]at h ⊢
  split at h
  ·injection h with h
   subst h
   simp only[Sem.run_bind,bM hi,Result.andThen_ok,Sem.run_pure]
   grind
  grind
theorem info_of_underlying{t:TypeId}(h:(P.underlying t).isSome=true):(P.info? t).isSome=true:=by
 unfold Program.underlying at h
 grind
theorem Nd(m:Nat){t:TypeId}{s:Shape}{x y:Value}{b:Bool}{d:Nat}(ht:shapeOf P d t=some s)(hs:∀fs,s≠ .s fs)(h:dI s x y=some b)(w:World):
  (Op.equalIn (m+1) t x y).run P w= .ok b w:=by
 cases d with
 |zero=>simp[shapeOf]at ht
 |succ d=>
  rw[gM]at ht
  split at ht
  case h_9=>
   split at ht
   ·cases ht
   ·rename_i fs hu hp
    cases hsf:fF P d fs.toList with
    |none=>grind
    |some l=>grind
  case h_10=>cases ht
  all_goals(injection ht with ht;subst ht)
  all_goals(unfold dI at h;split at h<;>rename_i hu<;>first| (cases hu;done)| (cases h;done)|skip)
  all_goals(try(split at h<;>first| (cases h;done)|skip))
  all_goals(injection h with h;subst h)
  all_goals(simp only[Op.equalIn,Sem.run_bind,au ‹P.underlying t=_›,Result.andThen_ok])
  all_goals first|rfl| (rw[if_pos (by omega)];rfl)| (simp[*,beq_toListBytes];done)| (simp_all;done)|skip
theorem CE:∀ (d:Nat),
  (∀ (t:TypeId) (s:Shape) (x y:Value) (b:Bool),shapeOf P d t=some s→CH s x y=some b→∀ (m:Nat) (w:World),(Op.equalIn (m+d) t x y).run P w= .ok b w)∧
  (∀ (fs:List Field) (l:List (Nat×Option Nat×Shape)) (xs ys:List Value) (b:Bool),fF P d fs=some l→BX l xs ys=some b→
   ∀ (m:Nat) (w:World),(Op.eqFields (m+d) xs.toArray ys.toArray fs).run P w= .ok b w):=by
 intro d
 induction d with
 |zero=>
  refine⟨fun t s x y b ht=>(by simp[shapeOf]at ht),fun fs l xs ys b hl h m w=>?_⟩
  cases fs with
  |nil=>simp only[CD,aoq]at hl;subst hl;simp only[BX,aoq]at h;subst h;rfl
  |cons f fs=>simp[qm,shapeOf]at hl
 |succ d ih=>
  have first:∀ (t:TypeId) (s:Shape) (x y:Value) (b:Bool),shapeOf P (d+1) t=some s→CH s x y=some b→∀ (m:Nat) (w:World),(Op.equalIn (m+(d+1)) t x y).run P w= .ok b w:=by
   intro t s x y b ht h m w
   by_cases hs:∃fs,s= .s fs
   ·obtain⟨l,rfl⟩:=hs
    cases x with
    |agg xs=>
     cases y with
     |agg ys=>
      simp only[CH]at h
      rw[gM]at ht
      split at ht
      case h_9=>
       split at ht
       ·cases ht
       ·rename_i fs hu hp
        cases hsf:fF P d fs.toList with
        |none=>grind
        |some l'=>
         rw[hsf]at ht
         simp only[Option.map_some,aoq,Shape.s.injEq]at ht
         subst ht
         have hf:P.fieldsOf t=fs:=by simp[Program.fieldsOf,hu]
         rw[show m+(d+1)=(m+d)+1 by omega,run_equalIn_struct w (m+d) t xs ys (by grind) (by grind),hf]
         cases xs;cases ys;grind
      all_goals cases ht
     |_=>simp[CH,dI]at h
    |_=>cases y<;>simp[CH,dI]at h
   ·have h':dI s x y=some b:=by
     cases s<;>first|exact h|grind
    grind [Nd]
  refine⟨first,fun fs=>?_⟩
  induction fs with
  |nil=>intro l xs ys b hl h m w;simp only[CD,aoq]at hl;subst hl;simp only[BX,aoq]at h;subst h;rfl
  |cons f fs ihf=>
   intro l xs ys b hl h m w
   rw[qm]at hl
   split at hl
   ·cases hl
   ·rename_i T1
    split at hl
    ·cases hl
    ·rename_i sh FA
     cases hr:fF P (d+1) fs with
     |none=>grind
     |some l'=>
      rw[hr]at hl
      simp only[Option.map_some,aoq]at hl
      subst hl
      unfold BX at h
      split at h
      ·cases h
      ·rename_i x hx
       split at h
       ·cases h
       ·rename_i y hy
        have hu:(P.underlying f.type).isSome=true:=by
         rw[gM]at FA
         grind
        have hi:=info_of_underlying hu
        simp only[Op.eqFields,T1,ne_eq,not_false_eq_true,if_true,Sem.run_bind,rQ hi hu hx,rQ hi hu hy,Result.andThen_ok]
        split at h
        ·rename_i he
         rw[first f.type sh x y true FA he m w]
         simpa using ihf l' xs ys b hr h m w
        ·simp_all
        grind
end
end Go.Vc

namespace Go.Vc
section
variable {P : Program} {o : Oper} {a : Act} {ev : Ev} {H : Hp} {K : Value → Hp → Prop}
abbrev bT(ev:Ev)(a:Act):Prop:=∀x v,ev x=some v→a.eval x=v
theorem aV{x:Operand}{F:Value→Prop}(bO:bT ev a)(h:aD (ev x) F):F (a.eval x):=by
 obtain⟨v,hv,h⟩:=aB h
 grind
theorem LO{x:Operand}(bO:bT ev a)(ho:o.op= .move x∨o.op= .assign x)(h:(dD.ax x).vc P ev H K):dX P o a H K:=by
 have h:=aV bO h
 refine⟨_,fun w=>?_,h⟩
 rcases ho with ho|ho<;>simp[execOp,ho]
theorem Qo{c x y:Operand}(bO:bT ev a)(ho:o.op= .pick c x y)(h:(dD.pick c x y).vc P ev H K):dX P o a H K:=by
 obtain⟨b,hb,h⟩:=yW (aV bO h)
 have h2:aD (ev (bif b then x else y)) fun v=>K v H:=by cases b<;>exact h
 have h:=aV bO h2
 refine⟨_,fun w=>?_,h⟩
 simp only[execOp,ho,hb,asBool]
 cases b<;>simp
theorem Ia{x:Operand}(bO:bT ev a)(ho:o.op= .nilCheck x)(h:(dD.nilCheck x).vc P ev H K):dX P o a H K:=by
 obtain⟨hn,h⟩:=(aV bO h).out
 refine⟨_,fun w=>?_,h⟩
 simp only[execOp,ho]
 rcases hn with hn| ⟨name,t,u,cap,hv,hn⟩
 ·revert hn
  generalize a.eval x=v
  cases v with
  |pointer q=>cases q<;>simp[HL]
  |func fn x y=>cases fn<;>simp[HL]
  |_=>simp[HL]
 ·rw[hv]
  have hz:(#[Value.iface t u]:Array Value)[0]? =some (.iface t u):=rfl
  simp[hz,hn w]
theorem UO{op:UnOp}{t:TypeId}{x:Operand}(bO:bT ev a)(ho:o.op= .unOp op t x)(h:(dD.un op x).vc P ev H K):dX P o a H K:=by
 obtain⟨v,hv,h⟩:=aB (aV bO h)
 refine⟨v,fun w=>?_,h⟩
 simp only[execOp,ho]
 revert hv
 generalize a.eval x=u
 intro hv
 unfold unF at hv
 split at hv<;>first| (cases hv;done)|skip
 all_goals(injection hv with hv;subst hv;rfl)
theorem Qq{s t:TypeId}{k k':IntKind}{x:Operand}(bO:bT ev a)(ho:o.op= .convert s t x)(hs:P.underlying s=some (.int k'))(ht:P.underlying t=some (.int k))
  (h:(dD.conv k x).vc P ev H K):dX P o a H K:=by
 obtain⟨k1,n,hn,h⟩:=gG (aV bO h)
 refine⟨_,fun w=>?_,h⟩
 simp only[execOp,ho,convert,hn,Sem.run_bind,au hs,au ht,Result.andThen_ok,Conv.intToInt]
 rfl
theorem T2{t:TypeId}{ms:Array (String×TypeId)}(hu:P.underlying t=some (.interface ms))(v:Value)(b:Bool)(hv:(v= .nilIface∧b=true)∨∃t' u,v= .iface t' u∧b=false)(w:World):(Op.equal t v .nilIface).run P w= .ok b w:=by
 have h:∀m:Nat,(Op.equalIn (m+1) t v .nilIface).run P w= .ok b w:=fun m=>by
  rcases hv with ⟨rfl,rfl⟩| ⟨t',u,rfl,rfl⟩<;>simp only[Op.equalIn,Sem.run_bind,au hu,Result.andThen_ok]<;>rfl
 exact h 9999
theorem Js{op:BinOp}{neg:Bool}{t t':TypeId}{ms:Array (String×TypeId)}{x:Operand}(bO:bT ev a)(ho:o.op= .binOp op t x (.const .nilIface) t')(hu:P.underlying t=some (.interface ms))
  (Ic:(op= .eql∧neg=false)∨(op= .neq∧neg=true))(h:(dD.UN neg x).vc P ev H K):dX P o a H K:=by
 obtain⟨b,hv,h⟩:∃b,((a.eval x= .nilIface∧b=true)∨∃t' u,a.eval x= .iface t' u∧b=false)∧K (.bool (Pp neg b)) H:=by
  rcases Jv (aV bO h)with ⟨e,h⟩| ⟨t',u,e,h⟩
  ·grind
  grind
 refine⟨_,fun w=>?_,h⟩
 have hr:=T2 (P:=P) hu (a.eval x) b hv w
 have hc:a.eval (.const .nilIface)= .nilIface:=rfl
 simp only[execOp,ho,Sem.run_bind,hc]
 generalize a.eval x=u at hv hr ⊢
 have hg:(eqGuard op t x (.const .nilIface) u .nilIface).run P w= .ok () w:=by
  unfold eqGuard
  rcases Ic with ⟨rfl,_⟩| ⟨rfl,_⟩<;>rcases hv with ⟨rfl,_⟩| ⟨t',u',rfl,_⟩<;>simp
 rw[hg]
 simp only[Result.andThen_ok]
 rcases Ic with ⟨rfl,rfl⟩| ⟨rfl,rfl⟩<;>rcases hv with ⟨rfl,rfl⟩| ⟨t',u',rfl,rfl⟩<;>simp[binOp,hr,Pp]
theorem LU{s t:TypeId}{d:TypeDesc}{x:Operand}(bO:bT ev a)(ho:o.op= .typeAssert x s t false)(hs:P.underlying t=some d)(hd:∀ms,d≠ .interface ms)
  (h:(dD.J9 t x).vc P ev H K):dX P o a H K:=by
 obtain⟨u,hx,h⟩:=AN (aV bO h)
 refine⟨_,fun w=>?_,h⟩
 simp only[execOp,ho,hx,Instr.typeAssert,Sem.run_bind,au hs,Result.andThen_ok]
 rfl
theorem NI{t:TypeId}{d:TypeDesc}{x:Operand}(bO:bT ev a)(ho:o.op= .makeInterface t x)(hs:P.underlying t=some d)(hd:∀ms,d≠ .interface ms)
  (h:(dD.iface t x).vc P ev H K):dX P o a H K:=by
 have h:=aV bO h
 refine⟨_,fun w=>?_,h⟩
 simp only[execOp,ho,Instr.makeInterface,Sem.run_bind,au hs,Result.andThen_ok]
 rfl
theorem Qr{fn:Fn}{first captured:Array Operand}(bO:bT ev a)(ho:o.op= .makeFunc fn first captured)(h:(dD.func fn first.toList captured.toList).vc P ev H K):dX P o a H K:=by
 have h:=lz bO (lz bO h)
 refine⟨_,fun w=>?_,h⟩
 simp only[execOp,ho,Instr.makeFunc,Sem.run_bind,Sem.run_pure,Result.andThen_ok]
 congr 3
 ·grind
 grind
theorem tn{c:Bool}{m:Sem Unit}{w:World}(h:m.run P w= .ok () w):(if(!c)=true then(pure ():Sem Unit)else m).run P w= .ok () w:=by
 simp_all
theorem wE{op:BinOp}{t:TypeId}{s:Shape}{x y:Operand}{u v:Value}{b:Bool}(h:CH s u v=some b)(hg:VU s=true∨P.eqGuardType P.depth t=false)(w:World):
  (eqGuard op t x y u v).run P w= .ok () w:=by
 unfold eqGuard
 refine tn ?_
 cases u with
 |nilIface=>
  cases v with
  |nilIface=>cases s<;>simp[CH,dI]at h
  |_=>rfl
 |agg xs=>
  cases v with
  |agg ys=>
   rcases hg with hg|hg
   ·cases s<;>simp_all[CH,dI,VU]
   simp_all
  |_=>rfl
 |_=>rfl
theorem HM{t:TypeId}{s:Shape}{u v:Value}{b:Bool}(hs:shapeOf P fY t=some s)(h:CH s u v=some b)(hu:∀k n,u≠ .int k n∨∀k' m,v≠ .int k' m)
  (yQ:∀x,u≠ .string x∨∀y,v≠ .string y)(w:World):
  (binOp .eql t u v).run P w= .ok (.bool b) w∧(binOp .neq t u v).run P w= .ok (.bool (!b)) w:=by
 have he:(Op.equal t u v).run P w= .ok b w:=by
  unfold Op.equal Op.maxDepth
  have:=(CE (P:=P) fY).1 t s u v b hs h (10000 - fY) w
  simpa[fY]using this
 have bN:∀ {op},op=BinOp.eql∨op=BinOp.neq→binOp op t u v=(if op=BinOp.eql then(do pure (.bool (←Op.equal t u v)))else(do pure (.bool (!(←Op.equal t u v))))):=by
  intro op Ic
  cases u<;>cases v<;>rcases Ic with rfl|rfl<;>first
   |rfl
   | (rcases hu _ _ with h1|h1<;>first|exact absurd rfl h1|exact absurd rfl (h1 _ _))
   | (rcases yQ _ with h1|h1<;>first|exact absurd rfl h1|exact absurd rfl (h1 _))
   | (cases s<;>simp[CH,dI]at h)
 simp_all
def T3(op:BinOp)(s:Shape)(u z:Value):Option Value:=match op with| .eql=>(CH s u z).map .bool| .neq=>(CH s u z).map fun b=>.bool (!b)|_=>none
theorem RD{op:BinOp}{s:Shape}{u z:Value}(h1:∀k n,u≠ .int k n∨∀k' m,z≠ .int k' m)(h2:∀p,u≠ .string p∨∀q,z≠ .string q):dJ op s u z=T3 op s u z:=by
 unfold dJ T3
 grind
theorem FQ{op:BinOp}{t t':TypeId}{s:Shape}{x y:Operand}(bO:bT ev a)(ho:o.op= .binOp op t x y t')
  (hs:(op= .eql∨op= .neq)→shapeOf P fY t=some s∧(VU s=true∨P.eqGuardType P.depth t=false))
  (h:(dD.jY op s x y).vc P ev H K):dX P o a H K:=by
 obtain⟨v,hv,h⟩:=aB (aV bO (aV bO h))
 refine⟨v,fun w=>?_,h⟩
 simp only[execOp,ho,Sem.run_bind]
 generalize hx:a.eval x=u at hv ⊢
 generalize hy:a.eval y=z at hv ⊢
 have ahp:∀k n k' m,u= .int k n→z= .int k' m→(eqGuard op t x y u z).run P w= .ok () w∧(binOp op t u z).run P w= .ok v w:=by
  intro k n k' m e1 e2
  subst e1;subst e2
  refine⟨tn rfl,?_⟩
  ·unfold dJ at hv
   by_cases hk:k=k'
   ·subst hk
    cases op<;>simp only[binOp,Op.shift,Op.intArith,Op.intDiv,Op.intBits,Op.intCmp]at hv ⊢ <;>simp at hv ⊢ <;>first
     | (subst hv;rfl)
     | (split at hv<;>first| (cases hv;done)| (injection hv with hv;subst hv;rename_i hc;simp[hc];done)|skip)
     | (obtain⟨h1,rfl⟩:=hv;simp[show¬m<0 by omega])
     | (obtain⟨h1,rfl⟩:=hv;simp[h1])
     |skip
   ·cases op<;>simp[hk]at hv<;>simp only[binOp,Op.shift]<;>first
     | (obtain⟨h1,rfl⟩:=hv;simp[show¬m<0 by omega])
     |skip
 have ahq:∀p q,u= .string p→z= .string q→(eqGuard op t x y u z).run P w= .ok () w∧(binOp op t u z).run P w= .ok v w:=by
  intro p q e1 e2
  subst e1;subst e2
  refine⟨tn rfl,?_⟩
  ·unfold dJ at hv
   cases op<;>simp only[binOp,Op.stringOp]at hv ⊢ <;>simp at hv ⊢ <;>first
    | (subst hv;rfl)
    | (obtain⟨h1,rfl⟩:=hv;simp[show¬ (9223372036854775807:Int)< (p.size:Int)+q.size by omega])
    | (obtain⟨h1,rfl⟩:=hv;rw[if_neg (by omega)])
    | (cases hv;done)
    |skip
 have acW:(∀k n,u≠ .int k n∨∀k' m,z≠ .int k' m)→(∀p,u≠ .string p∨∀q,z≠ .string q)→(eqGuard op t x y u z).run P w= .ok () w∧(binOp op t u z).run P w= .ok v w:=by
  intro h1 h2
  have hb:=RD (op:=op) (s:=s) h1 h2
  rw[hb]at hv
  cases op<;>simp only[T3]at hv<;>first| (cases hv;done)|skip
  ·obtain⟨iY,PJ⟩:=hs (.inl rfl)
   cases he:CH s u z with
   |none=>rw[he]at hv;cases hv
   |some b=>rw[he]at hv;injection hv with hv;subst hv;exact⟨wE he PJ w,(HM iY he h1 h2 w).1⟩
  ·obtain⟨iY,PJ⟩:=hs (.inr rfl)
   cases he:CH s u z with
   |none=>rw[he]at hv;cases hv
   |some b=>rw[he]at hv;injection hv with hv;subst hv;exact⟨wE he PJ w,(HM iY he h1 h2 w).2⟩
 have key:(eqGuard op t x y u z).run P w= .ok () w∧(binOp op t u z).run P w= .ok v w:=by
  by_cases h1:∃k n k' m,u= .int k n∧z= .int k' m
  ·obtain⟨k,n,k',m,e1,e2⟩:=h1;exact ahp k n k' m e1 e2
  ·by_cases h2:∃p q,u= .string p∧z= .string q
   ·obtain⟨p,q,e1,e2⟩:=h2;exact ahq p q e1 e2
   ·refine acW (fun k n=>?_) (fun p=>?_)
    ·by_cases e:u= .int k n
     ·exact .inr fun k' m e'=>h1 ⟨k,n,k',m,e,e'⟩
     ·exact .inl e
    ·by_cases e:u= .string p
     ·exact .inr fun q e'=>h2 ⟨p,q,e,e'⟩
     ·exact .inl e
 simp[key.1,key.2]
end
end Go.Vc

namespace Go.Vc
section
variable {P : Program} {o : Oper} {a : Act} {ev : Ev} {H : Hp} {K : Value → Hp → Prop}
theorem Kb{i:Nat}{x:Operand}(bO:bT ev a)(ho:o.op= .extract x i)(h:(dD.extract i x).vc P ev H K):dX P o a H K:=by
 obtain⟨vs,hv,h⟩:=Jt (aV bO h)
 obtain⟨v,hi,h⟩:=aB h
 refine⟨v,fun w=>?_,h⟩
 have hi':vs[i]? =some v:=by simpa using hi
 simp[execOp,ho,hv,Instr.extract,hi']
theorem FS{t:TypeId}{f:Nat}{x:Operand}{fields:Array Field}{fd:Field}(bO:bT ev a)(ho:o.op= .fieldAddr t x f)(ht:P.underlying t=some (.struct fields))
  (hf:fields[f]? =some fd)(hi:(P.info? fd.type).isSome=true)(h0:P.cellsOf fd.type≠0)(h:(dD.fieldAddr fd.offset x).vc P ev H K):dX P o a H K:=by
 obtain⟨b,off,hv,h⟩:=fG (aV bO h)
 refine⟨_,fun w=>?_,h⟩
 simp[execOp,ho,hv,Instr.fieldAt,au ht,hf,Instr.sureAddr,fieldPlace,bM hi,h0,yT]
theorem NK{t:TypeId}{f:Nat}{x:Operand}{fields:Array Field}{fd:Field}(bO:bT ev a)(ho:o.op= .field t x f)(ht:P.underlying t=some (.struct fields))
  (hf:fields[f]? =some fd)(hi:(P.info? fd.type).isSome=true)(hu:(P.underlying fd.type).isSome=true)
  (h:(dD.field fd.offset (if eI P fd.type then some (P.cellsOf fd.type)else none) x).vc P ev H K):dX P o a H K:=by
 obtain⟨vs,hv,h⟩:=CN (aV bO h)
 obtain⟨v,hp,h⟩:=aB h
 refine⟨v,fun w=>?_,h⟩
 have:=rQ hi hu hp w
 simp only[apn]at this
 simp[execOp,ho,hv,Instr.field,au ht,hf,asAgg,this]
theorem FT{t e:TypeId}{x i:Operand}(bO:bT ev a)(ho:o.op= .indexAddr t x i)(ht:P.underlying t=some (.slice e))(hi:(P.info? e).isSome=true)
  (h:(dD.indexAddr (P.cellsOf e) x i).vc P ev H K):dX P o a H K:=by
 obtain⟨ad,n,c,hx,h⟩:=iM (aV bO (aV bO h))
 obtain⟨k,j,hj,h⟩:=gG h
 obtain⟨hb,h⟩:=h.out
 obtain⟨b,off,rfl,h⟩:=nR h
 refine⟨_,fun w=>?_,h⟩
 simp[execOp,ho,hx,hj,Instr.indexAt,au ht,asIntOf,hb.1,hb.2,bM hi,yT]
theorem Ib{t e:TypeId}{n:Nat}{x i:Operand}(bO:bT ev a)(ho:o.op= .indexAddr t x i)(ht:P.underlying t=some (.array n e))(hi:(P.info? e).isSome=true)
  (h:(dD.AJ n (P.cellsOf e) x i).vc P ev H K):dX P o a H K:=by
 obtain⟨b,off,hx,h⟩:=fG (aV bO (aV bO h))
 obtain⟨k,j,hj,h⟩:=gG h
 obtain⟨hb,h⟩:=h.out
 refine⟨_,fun w=>?_,h⟩
 simp[execOp,ho,hx,hj,Instr.indexAt,au ht,asIntOf,hb.1,hb.2,bM hi,yT,Instr.sureAddr]
theorem LR{t:TypeId}{x i:Operand}(bO:bT ev a)(ho:o.op= .index t x i)(ht:P.underlying t=some .string)
  (h:(dD.J8 x i).vc P ev H K):dX P o a H K:=by
 obtain⟨s,hx,h⟩:=nu (aV bO (aV bO h))
 obtain⟨k,j,hj,h⟩:=gG h
 obtain⟨h0,h⟩:=h.out
 obtain⟨b,hb,h⟩:=aB h
 refine⟨_,fun w=>?_,h⟩
 simp[execOp,ho,hx,hj,Instr.index,au ht,asIntOf,h0,hb]
theorem LS{t e:TypeId}{n:Nat}{x i:Operand}(bO:bT ev a)(ho:o.op= .index t x i)(ht:P.underlying t=some (.array n e))(hi:(P.info? e).isSome=true)(hu:(P.underlying e).isSome=true)
  (h:(dD.Ka n (P.cellsOf e) (if eI P e then some (P.cellsOf e)else none) x i).vc P ev H K):dX P o a H K:=by
 obtain⟨vs,hv,h⟩:=CN (aV bO (aV bO h))
 obtain⟨k,j,hj,h⟩:=gG h
 obtain⟨hb,h⟩:=h.out
 obtain⟨v,hp,h⟩:=aB h
 refine⟨v,fun w=>?_,h⟩
 have:=rQ hi hu hp w
 simp only[apn]at this
 simp[execOp,ho,hv,hj,Instr.index,au ht,asIntOf,hb.1,hb.2,bM hi,this]
theorem mh{x:Option Operand}{d:Nat}{F:Int→Prop}(bO:bT ev a)(h:pQ ev x d F):
  ∃n,F n∧((x=none∧n=d)∨∃y k,x=some y∧a.eval y= .int k n):=by
 cases x with
 |none=>exact⟨d,h,.inl ⟨rfl,rfl⟩⟩
 |some y=>
  obtain⟨k,n,hy,h⟩:=gG (aV bO h)
  grind
theorem gN{k:IntKind}{i:Int}{y:Nat}{code:BoundsCode}(h0:0≤i)(h1:i≤y)(w:World):(Instr.sliceBound (.int k i) y code).run P w= .ok i.toNat w:=by
 simp[Instr.sliceBound,asIntOf,h0,h1]
theorem HN{isS:Bool}{n c:Nat}{lo hi mx:Option Operand}{l h m:Int}(hl:(lo=none∧l=0)∨∃y k,lo=some y∧a.eval y= .int k l)
  (hh:(hi=none∧h=n)∨∃y k,hi=some y∧a.eval y= .int k h)(hm:(mx=none∧m=c)∨∃y k,mx=some y∧a.eval y= .int k m)
  (h3:mx.isSome=true→hi.isSome=true)(hb:0≤l∧l≤h∧h≤m∧m≤c)(w:World):
  (Instr.sliceBounds isS n c (lo.map a.eval) (hi.map a.eval) (mx.map a.eval)).run P w= .ok (l.toNat,h.toNat,m.toNat) w:=by
 obtain⟨h1,h2,h4,h5⟩:=hb
 unfold Instr.sliceBounds
 rcases hm with ⟨rfl,rfl⟩| ⟨ym,km,rfl,em⟩
 ·rcases hh with ⟨rfl,rfl⟩| ⟨yh,kh,rfl,eh⟩<;>rcases hl with ⟨rfl,rfl⟩| ⟨yl,kl,rfl,el⟩<;>
   simp only[Option.map_none,Option.map_some,Option.isSome_none,Sem.run_bind,Sem.run_pure,Result.andThen_ok, *]
  ·rfl
  ·rw[gN h1 (by omega)];rfl
  ·rw[gN (by omega) (by omega)];rfl
  ·rw[gN (by omega) (by omega)];simp only[Result.andThen_ok];rw[gN h1 (by omega)];rfl
 ·rcases hh with ⟨rfl,rfl⟩| ⟨yh,kh,rfl,eh⟩
  ·grind
  ·rcases hl with ⟨rfl,rfl⟩| ⟨yl,kl,rfl,el⟩<;>simp only[Option.map_none,Option.map_some,Option.isSome_some,Sem.run_bind,Sem.run_pure,Result.andThen_ok, *]
   ·rw[gN (by omega) (by omega)];simp only[Result.andThen_ok];rw[gN (by omega) (by omega)];rfl
   ·rw[gN (by omega) (by omega)];simp only[Result.andThen_ok];rw[gN (by omega) (by omega)];simp only[Result.andThen_ok];rw[gN h1 (by omega)];rfl
theorem NJ{t e:TypeId}{x:Operand}{lo hi mx:Option Operand}(bO:bT ev a)(ho:o.op= .slice t x lo hi mx)(ht:P.underlying t=some (.slice e))(hie:(P.info? e).isSome=true)
  (h3:mx.isSome=true→hi.isSome=true)(h:(dD.slice (P.cellsOf e) x lo hi mx).vc P ev H K):dX P o a H K:=by
 obtain⟨ad,n,c,hx,h⟩:=iM (aV bO h)
 obtain⟨m,h,hm⟩:=mh bO h
 obtain⟨hh,h,hhi⟩:=mh bO h
 obtain⟨l,h,hlo⟩:=mh bO h
 obtain⟨hb,h⟩:=h.out
 refine⟨_,fun w=>?_,h⟩
 have hr:=HN (P:=P) (isS:=true) (n:=n) (c:=c) hlo hhi hm h3 hb w
 simp only[execOp,ho,Instr.sliceAt,Sem.run_bind,au ht,Result.andThen_ok,Instr.slice,hx,hr,bM hie,Sem.run_pure]
 grind
theorem LQ{t:TypeId}{x:Operand}{lo hi:Option Operand}(bO:bT ev a)(ho:o.op= .slice t x lo hi none)(ht:P.underlying t=some .string)
  (h:(dD.J7 x lo hi).vc P ev H K):dX P o a H K:=by
 obtain⟨s,hx,h⟩:=nu (aV bO h)
 obtain⟨hh,h,hhi⟩:=mh bO h
 obtain⟨l,h,hlo⟩:=mh bO h
 obtain⟨hb,h⟩:=h.out
 refine⟨_,fun w=>?_,h⟩
 have hr:=HN (P:=P) (isS:=false) (n:=s.size) (c:=s.size) (m:=s.size) (mx:=none) hlo hhi (by grind) (by simp) (by omega) w
 simp only[Option.map_none]at hr
 simp only[execOp,ho,Instr.sliceAt,Sem.run_bind,au ht,Result.andThen_ok,Instr.slice,hx,hr,Sem.run_pure,Option.map_none,Option.isSome_none,ao6,if_false]
theorem Lm(vs:List Value):∀ (n off:Nat) (z:Array Value),((vs.zipIdx n).foldl (fun cs (c,j)=>cs.setIfInBounds (off+j) c) z).toList=aX z.toList (off+n) vs:=by
 induction vs with
 |nil=>intro n off z;rfl
 |cons v vs ih=>
  intro n off z
  rw[List.zipIdx_cons,List.foldl_cons,pL]
  have:=ih (n+1) off (z.setIfInBounds (off+n) v)
  grind
theorem fill_eq{place:Nat→Option (Nat×Nat)}:∀ (ps:List (Nat×Operand)) (qs:List (Nat×Nat×Operand)) (z:Array Value) (F:List Value→Prop),
  List.length ps=List.length qs→(∀ (j i:Nat) (x:Operand),ps[j]? =some (i,x)→∃off size:Nat,qs[j]? =some (off,size,x)∧place i=some (off,size)∧off+size≤z.size)→bT ev a→AL ev z.toList qs F→
   ∃z':Array Value,Instr.fill place z (ps.map fun(i,x)=>(i,a.eval x))=some z'∧F z'.toList:=by
 intro ps
 induction ps with
 |nil=>
  intro qs z F hl hp bO h
  cases qs with
  |nil=>exact⟨z,rfl,h⟩
  |cons q qs=>grind
 |cons p ps ih=>
  intro qs z F hl hp bO h
  obtain⟨i,x⟩:=p
  cases qs with
  |nil=>grind
  |cons q qs=>
   obtain⟨off,size,hq,Vh,AB⟩:=hp 0 i x rfl
   simp only[ao7,aoq]at hq
   subst hq
   obtain⟨hn,h⟩:=(aV bO h).out
   have QJ:(a.eval x).cells.size=size:=by rw[←hn,←eY];simp
   rw[apd,Instr.fill]
   simp only[Vh,QJ,ne_eq,not_true_eq_false,decide_false,Bool.false_or,apx]
   rw[if_neg (by omega)]
   have acX:((a.eval x).cells.zipIdx.foldl (fun cs (c,j)=>cs.setIfInBounds (off+j) c) z).toList=aX z.toList off (aI (a.eval x)):=by
    have:=Lm (a.eval x).cells.toList 0 off z
    rw[eY]at this
    rw[←Array.foldl_toList,Array.toList_zipIdx,eY]
    simpa using this
   refine ih qs _ F (by grind) (fun j i' x' hj=>?_) bO (by grind)
   obtain⟨ahs,acY,hq',aht,amJ⟩:=hp (j+1) i' x' (by grind)
   refine⟨ahs,acY,by grind,aht,?_⟩
   have:((a.eval x).cells.zipIdx.foldl (fun cs (c,j)=>cs.setIfInBounds (off+j) c) z).size=z.size:=by
    rw[←Array.length_toList,acX,gZ,Array.length_toList]
   grind
end
end Go.Vc

namespace Go.Vc
section
variable {P : Program} {o : Oper} {a : Act} {ev : Ev} {H : Hp} {K : Value → Hp → Prop}
theorem to{place:Nat→Option (Nat×Nat)}{Ll:Nat}:∀ (ps:List (Nat×Operand)) (qs:List (Nat×Nat×Operand)),lf place Ll ps=some qs→
  ps.length=qs.length∧∀ (j i:Nat) (x:Operand),ps[j]? =some (i,x)→∃off size:Nat,qs[j]? =some (off,size,x)∧place i=some (off,size)∧off+size≤Ll:=by
 intro ps
 induction ps with
 |nil=>grind [lf]
 |cons p ps ih=>
  intro qs h
  obtain⟨i,x⟩:=p
  unfold lf at h
  split at h
  ·cases h
  ·rename_i off size Vh
   split at h
   ·rename_i AB
    cases hr:lf place Ll ps with
    |none=>grind
    |some qs'=>
     grind
   grind
theorem Nf(fs:List Field)(h:∀f∈fs,(P.info? f.type).isSome=true)(w:World):
  (fs.mapM fun f=>(do pure (f.offset,←sizeOf f.type):Sem (Nat×Nat))).run P w= .ok (fs.map fun f=>(f.offset,P.cellsOf f.type)) w:=by
 induction fs with
 |nil=>rfl
 |cons f fs ih=>
  rw[List.mapM_cons]
  simp only[Sem.run_bind,bM (h f aoQ),Result.andThen_ok,Sem.run_pure,ih fun g hg=>h g (aoU _ hg),apd]
theorem CF(ps:Array (Nat×Operand)):(ps.map fun(i,x)=>(i,a.eval x)).toList=ps.toList.map fun(i,x)=>(i,a.eval x):=by simp
theorem NE{t:TypeId}{z:Value}{ps:Array (Nat×Operand)}{qs:List (Nat×Nat×Operand)}(bO:bT ev a)(ho:o.op= .build t ps)(hz:fO P t=some z)
  (hq:parts P t (aI z).length ps.toList=some qs)(h:(dD.build (aI z) qs).vc P ev H K):dX P o a H K:=by
 have RE:z.cells.toList=aI z:=eY z
 have UM:z.cells.size=(aI z).length:=by rw[←RE];simp
 unfold parts at hq
 split at hq
 ·rename_i fields hu
  split at hq
  ·rename_i hk
   obtain⟨h1,h2⟩:=to _ _ hq
   obtain⟨z',hf,Ub⟩:=fill_eq (a:=a) (ev:=ev) (place:=((placeOf P fields)[·]?)) ps.toList qs z.cells (fun l=>K (.agg l.toArray) H) h1
    (by grind) bO (by rw[RE];exact h)
   refine⟨.agg z',fun w=>?_,by omega⟩
   have Vh:(fields.mapM fun f=>(do pure (f.offset,←sizeOf f.type):Sem (Nat×Nat))).run P w= .ok (placeOf P fields) w:=by
    rw[Array.mapM_eq_mapM_toList,Sem.run_map,Nf fields.toList (fun f hf=>by
     have:=(apg.1 hk) f (by grind);omega) w]
    simp only[Result.andThen_ok]
    congr 1
    apply Array.ext'
    simp[placeOf]
   simp only[execOp,ho,Instr.build,Sem.run_bind,cJ hz,au hu,Result.andThen_ok,Vh,CF,hf,Sem.run_pure]
  grind
 ·rename_i n e hu
  split at hq
  ·rename_i hi
   obtain⟨h1,h2⟩:=to _ _ hq
   obtain⟨z',hf,Ub⟩:=fill_eq (a:=a) (ev:=ev) (place:=fun i=>some (i*P.cellsOf e,P.cellsOf e)) ps.toList qs z.cells (fun l=>K (.agg l.toArray) H) h1
    (by grind) bO (by rw[RE];exact h)
   refine⟨.agg z',fun w=>?_,by omega⟩
   simp only[execOp,ho,Instr.build,Sem.run_bind,cJ hz,au hu,Result.andThen_ok,bM hi,CF,hf,Sem.run_pure]
  grind
 grind
theorem AI{z:Array Value}{n size:Nat}(hs:z.size=size)(h0:size≠0):((Array.range (n*size)).map (z[· %z.size]!)).toList=dE z.toList n:=by
 subst hs
 induction n with
 |zero=>simp[dE]
 |succ n ih=>
  apply aoM
  intro i
  have hp:dE z.toList (n+1)=dE z.toList n++z.toList:=by simp[dE,apC]
  have bu:(dE z.toList n).length=n*z.size:=by rw[←ih];simp
  rw[hp]
  by_cases hi:i<n*z.size
  ·grind
  ·rw[List.getElem?_append_right (by omega),bu]
   by_cases xZ:i< (n+1)*z.size
   ·have PQ:i - n*z.size<z.size:=by rw[api]at xZ;omega
    have Xh:i%z.size=i - n*z.size:=by
     have e:i=(i - n*z.size)+z.size*n:=by rw[Nat.mul_comm z.size n];omega
     rw[e,Nat.add_mul_mod_self_left,Nat.mod_eq_of_lt PQ]
     rw[Nat.mul_comm z.size n];omega
    grind
   grind
theorem uS(z:List Value)(n:Nat):(dE z n).length=n*z.length:=by simp[dE]
theorem Sa{t e:TypeId}{n:Nat}{z:Value}{ps:Array (Nat×Operand)}{qs:List (Nat×Nat×Operand)}(bO:bT ev a)(ho:o.op= .buildSlice t n ps)(ht:P.underlying t=some (.slice e))
  (hz:fO P e=some z)(hi:(P.info? e).isSome=true)(h0:P.cellsOf e≠0)(hl:(aI z).length=P.cellsOf e)(hm:n*P.cellsOf e≤2^24)
  (hq:lf (fun i=>some (i*P.cellsOf e,P.cellsOf e)) (n*P.cellsOf e) ps.toList=some qs)(h:(dD.lit e n (dE (aI z) n) qs).vc P ev H K):ef P o a H K:=by
 have RE:z.cells.toList=aI z:=eY z
 have UM:z.cells.size=P.cellsOf e:=by rw[←hl,←RE];simp
 intro w hw
 subst hw
 obtain⟨h1,h2⟩:=to _ _ hq
 have VA:∀ (zz:Array Value),(n*P.cellsOf e=0∨zz=z.cells)→((Array.range (n*P.cellsOf e)).map (zz[· %zz.size]!)).toList=dE (aI z) n:=by
  intro zz hzz
  rcases hzz with hzz|rfl
  ·have:n=0:=by
    rcases Nat.mul_eq_zero.1 hzz with h|h
    ·exact h
    ·omega
   subst this
   simp[dE]
  ·rw[AI UM h0,RE]
 have main:∀zz:Array Value,(n*P.cellsOf e=0∨zz=z.cells)→∃z':Array Value,Instr.fill (fun i=>some (i*P.cellsOf e,P.cellsOf e)) ((Array.range (n*P.cellsOf e)).map (zz[· %zz.size]!)) (ps.toList.map fun(i,x)=>(i,a.eval x))=some z'∧
   K (.slice (some ⟨w.heap.size,0,none⟩) n n) (Hp.new w.heap e z'.toList):=by
  intro zz hzz
  exact fill_eq (a:=a) (ev:=ev) ps.toList qs _ (fun l=>K (.slice (some ⟨w.heap.size,0,none⟩) n n) (Hp.new w.heap e l)) h1
   (by grind) bO (by rw[VA zz hzz];exact h)
 by_cases hn:n*P.cellsOf e=0
 ·obtain⟨z',hf,hk⟩:=main #[] (.inl hn)
  refine .inl ⟨.slice (some ⟨w.heap.size,0,none⟩) n n,{w with heap:=Hp.new w.heap e z'.toList},?_,⟨rfl,rfl⟩,hk⟩
  simp only[execOp,ho,Instr.buildSlice,Sem.run_bind,au ht,bM hi,Result.andThen_ok]
  rw[if_neg (by omega),if_pos hn]
  simp only[Sem.run_pure,Result.andThen_ok,Sem.run_bind,CF,hf,lA]
 ·obtain⟨z',hf,hk⟩:=main z.cells (.inr rfl)
  refine .inl ⟨.slice (some ⟨w.heap.size,0,none⟩) n n,{w with heap:=Hp.new w.heap e z'.toList},?_,⟨rfl,rfl⟩,hk⟩
  simp only[execOp,ho,Instr.buildSlice,Sem.run_bind,au ht,bM hi,Result.andThen_ok]
  rw[if_neg (by omega),if_neg hn]
  simp only[Sem.run_pure,Result.andThen_ok,Sem.run_bind,cJ hz,CF,hf,lA]
theorem R9{t:TypeId}{x:Operand}(bO:bT ev a)(ho:o.op= .box t x)(h:(dD.box t x).vc P ev H K):ef P o a H K:=by
 intro w hw
 subst hw
 have h:=aV bO h
 refine .inl ⟨_,{w with heap:=Hp.new w.heap t (aI (a.eval x))},?_,⟨rfl,rfl⟩,h⟩
 simp[execOp,ho,Instr.box,El]
theorem Qp{t:TypeId}{z:Value}(hz:fO P t=some z)(ho:o.op= .alloc t)(h:(dD.zero t (aI z)).vc P ev H K):ef P o a H K:=by
 intro w hw
 subst hw
 refine .inl ⟨_,{w with heap:=Hp.new w.heap t (aI z)},?_,⟨rfl,rfl⟩,h⟩
 simp[execOp,ho,Instr.alloc,El,cJ hz]
theorem NG{t:TypeId}{x:Operand}(bO:bT ev a)(ho:o.op= .load t x)(hi:(P.info? t).isSome=true)(hu:(P.underlying t).isSome=true)(hg:eI P t=false)
  (h:(dD.aq x).vc P ev H K):ef P o a H K:=by
 intro w hw
 subst hw
 obtain⟨b,off,hx,h⟩:=fG (aV bO h)
 obtain⟨l,hl,h⟩:=aB h
 obtain⟨v,hv,h⟩:=aB h
 refine .inl ⟨v,w,?_,cz.refl w,h⟩
 simp[execOp,ho,Instr.loadAt,hx,Instr.sureAddr,(jr hi hu hl).2 hg v hv]
theorem NF{t:TypeId}{x:Operand}(bO:bT ev a)(ho:o.op= .load t x)(hi:(P.info? t).isSome=true)(hu:(P.underlying t).isSome=true)(hg:eI P t=true)
  (h:(dD.gO (P.cellsOf t) x).vc P ev H K):ef P o a H K:=by
 intro w hw
 subst hw
 obtain⟨b,off,hx,h⟩:=fG (aV bO h)
 obtain⟨l,hl,h⟩:=aB h
 obtain⟨hn,h⟩:=h.out
 refine .inl ⟨_,w,?_,cz.refl w,h⟩
 simp only[execOp,ho,Instr.loadAt,hx,Instr.sureAddr,Sem.run_bind,Sem.run_pure,Result.andThen_ok,(jr hi hu hl).1 hg hn]
theorem NH{t:TypeId}{x y:Operand}(bO:bT ev a)(ho:o.op= .store t x y)(hi:(P.info? t).isSome=true)(h0:P.cellsOf t≠0)
  (h:(dD.store (P.cellsOf t) x y).vc P ev H K):ef P o a H K:=by
 intro w hw
 subst hw
 obtain⟨b,off,hx,h⟩:=fG (aV bO h)
 obtain⟨l,hl,h⟩:=aB (aV bO h)
 obtain⟨h1,h⟩:=h.out
 obtain⟨h2,h⟩:=h.out
 obtain⟨h3,h⟩:=h.out
 obtain⟨w',hr,hs,hh⟩:=Jn (v:=a.eval y) hi h0 hl h1 (RB h2) h3
 refine .inr (.inl ⟨w',?_,hs,hh▸h⟩)
 simp[execOp,ho,Instr.storeAt,hx,Instr.sureAddr,hr]
theorem LP{t:TypeId}(ho:o.op= .makeMap t none)(h:dD.Pq.vc P ev H K):ef P o a H K:=by
 intro w hw
 subst hw
 refine .inl ⟨_,{w with heap:=Hp.js w.heap},?_,⟨rfl,rfl⟩,h⟩
 simp only[execOp,ho,Option.map_none,Instr.makeMap,Sem.run_bind,Sem.run_pure,Result.andThen_ok,run_newObj,Hp.js]
theorem wrap_i64{n:Int}(h0:0≤n)(h1:n≤2^62):IntKind.i64.wrap n=n:=by
 have e:(2^IntKind.i64.bits:Int)=18446744073709551616:=rfl
 have e':(2^ (IntKind.i64.bits - 1):Int)=9223372036854775808:=rfl
 unfold IntKind.wrap
 grind
theorem FR{t e:TypeId}{z:Value}{x y:Operand}(bO:bT ev a)(ho:o.op= .makeSlice t x y)(ht:P.underlying t=some (.slice e))(hz:fO P e=some z)
  (hi:(P.info? e).isSome=true)(h0:P.cellsOf e≠0)(hl:(aI z).length=P.cellsOf e)(h:(dD.makeSlice e (P.bytesOf e) (P.cellsOf e) (aI z) x y).vc P ev H K):ef P o a H K:=by
 intro w hw
 subst hw
 have h:=aV bO (aV bO h)
 obtain⟨k,n,hx,h⟩:=gG h
 obtain⟨k',c,hy,h⟩:=gG h
 obtain⟨⟨h1,h2,h3,h4⟩,h⟩:=h.out
 refine .inl ⟨_,{w with heap:=Hp.new w.heap e (dE (aI z) c.toNat)},?_,⟨rfl,rfl⟩,h⟩
 obtain⟨i,hi'⟩:=Option.isSome_iff_exists.1 hi
 have hb:i.bytes=P.bytesOf e:=by simp[Program.bytesOf,hi']
 have RE:z.cells.toList=aI z:=eY z
 have UM:z.cells.size=P.cellsOf e:=by rw[←hl,←RE];simp
 have w1:=wrap_i64 h1 (by omega:n≤2^62)
 have w2:=wrap_i64 (by omega:0≤c) (by omega:c≤2^62)
 simp only[execOp,ho,Instr.makeSlice,Sem.run_bind,au ht,Result.andThen_ok,hx,hy,asInt,asIntOf,Sem.run_pure,eG hi',hb,w1,w2,run_askRoom,bM hi]
 have t1:(decide (c<0) || decide ((P.bytesOf e:Int)*c>2^48))=false:=by simp;omega
 rw[if_neg (by grind)]
 simp only[Sem.run_bind,run_askRoom,Result.andThen_ok,bM hi]
 by_cases hn:c.toNat*P.cellsOf e=0
 ·have DZ:c.toNat=0:=by rcases Nat.mul_eq_zero.1 hn with h|h;exact h;exact absurd h h0
  rw[if_pos hn]
  simp only[DZ,aoG,Sem.run_bind,Sem.run_pure,Result.andThen_ok,lA]
  simp[dE]
 ·rw[if_neg hn]
  simp only[Sem.run_bind,cJ hz,Sem.run_pure,Result.andThen_ok,lA,AI UM h0,RE]
theorem Fv{H:Hp}{b:Nat}{x:List MapEntry×Nat}(h:H.mp b=some x):∃es:Array MapEntry,H[b]? =some (.map es x.2)∧es.toList=x.1:=by
 unfold Hp.mp at h
 grind
theorem pj{w:World}{b:Nat}{es:Array MapEntry}{k:Nat}(h:w.heap[b]? =some (.map es k)):(getObj b).run P w= .ok (.map es k) w:=by simp[getObj,Sem.run,h]
theorem pk{w:World}{b:Nat}{es Wf:Array MapEntry}{k k':Nat}(h:w.heap[b]? =some (.map es k)):
  (setObj b (.map Wf k')).run P w= .ok () {w with heap:=Hp.Eo w.heap b Wf.toList k'}:=by
 simp[setObj,Sem.run,h,Hp.Eo]
theorem tT{t:TypeId}{s:Shape}(h:cF P t=some s)(hs:∀fs,s≠ .s fs):shapeOf P fY t=some s∧pM s=true:=by
 grind [fY,cF,shapeOf,pM]
theorem HO{t:TypeId}{s:Shape}(h:cF P t=some s):shapeOf P fY t=some s:=by
 grind [cF,tT]
theorem tU{d:Nat}{t:TypeId}{s:Shape}(h:shapeOf P d t=some s)(hk:pM s=true)(v:Value)(e:Bool)(n:Nat)(w:World):(Instr.checkKey e (n+1) t v).run P w= .ok () w:=by
 cases d with
 |zero=>simp[shapeOf]at h
 |succ d=>
  rw[gM]at h
  split at h
  ·injection h with h;subst h;simp[Instr.checkKey,au ‹P.underlying t=_›]
  ·injection h with h;subst h;simp[Instr.checkKey,au ‹P.underlying t=_›]
  ·injection h with h;subst h;simp[Instr.checkKey,au ‹P.underlying t=_›]
  case h_9=>
   split at h
   ·cases h
   ·rename_i fs _ _
    cases hr:fF P d fs.toList with
    |none=>grind
    |some l=>grind [pM]
  all_goals grind [pM]
theorem Fq{d:Nat}(e:Bool)(n:Nat)(xs:List Value):∀ (fs:List Field) (l:List (Nat×Option Nat×Shape)),fF P d fs=some l→
  (l.all fun(off,agg,sh)=>agg.isNone && pM sh)=true→(∀q∈l,(xs[q.1]?).isSome=true)→∀w:World,
  (forIn fs PUnit.unit fun f (_:PUnit)=>(do
   if f.name≠ "_" then Instr.checkKey e (n+1) f.type (←part f.type xs.toArray f.offset)
   pure (ForInStep.yield PUnit.unit):Sem (ForInStep PUnit))).run P w= .ok PUnit.unit w:=by
 intro fs
 induction fs with
 |nil=>simp_all
 |cons f fs ih=>
  intro l hl ha hx w
  rw[qm]at hl
  split at hl
  ·cases hl
  ·rename_i T1
   split at hl
   ·cases hl
   ·rename_i sh FA
    cases hr:fF P d fs with
    |none=>grind
    |some l'=>
     rw[hr]at hl
     simp only[Option.map_some,aoq]at hl
     subst hl
     rw[List.all_cons]at ha
     simp only[aoW]at ha
     obtain⟨⟨h1,h2⟩,h3⟩:=ha
     have ahu:eI P f.type=false:=by
      cases hb:eI P f.type
      ·rfl
      ·grind
     obtain⟨v,hv⟩:=Option.isSome_iff_exists.1 (hx _ aoQ)
     have hu:(P.underlying f.type).isSome=true:=by
      cases d with
      |zero=>simp[shapeOf]at FA
      |succ d=>rw[gM]at FA;grind
     have hp:=rQ (P:=P) (l:=xs) (t:=f.type) (off:=f.offset) (v:=v) (info_of_underlying hu) hu (by rw[ahu];simpa[rE]using hv) w
     simp only[List.forIn_cons,T1,ne_eq,not_false_eq_true,if_true,Sem.run_bind,hp,Result.andThen_ok,tU FA h2,Sem.run_pure]
     grind
theorem HP{t:TypeId}{s:Shape}{k:Value}(h:cF P t=some s)(hk:Ek s k=true)(e:Bool)(n:Nat)(w:World):(Instr.checkKey e (n+1+1) t k).run P w= .ok () w:=by
 by_cases hs:∃fs,s= .s fs
 ·obtain⟨l,rfl⟩:=hs
  have h':=h
  unfold cF at h
  split at h
  ·cases h
  ·cases h
  ·cases h
  ·rename_i fs hu
   split at h
   ·split at h
    ·rename_i l' FA jZ
     injection h with h;injection h with h;subst h
     cases k with
     |agg xs=>
      simp only[show fY=7+1 from rfl,gM,hu]at FA
      split at FA
      ·cases FA
      ·cases hr:fF P 7 fs.toList with
       |none=>grind
       |some l=>
        rw[hr]at FA
        simp only[Option.map_some,aoq,Shape.s.injEq]at FA
        subst FA
        rw[Instr.checkKey]
        simp only[Sem.run_bind,au hu,Result.andThen_ok]
        rw[←Array.forIn_toList]
        have:=Fq (P:=P) e n xs.toList fs.toList l hr jZ (fun q hq=>by
         have h1:=(apq.1 hk) q hq
         grind) w
        simp_all
     |_=>simp[Ek]at hk
    grind
   grind
  grind
 ·obtain⟨h1,h2⟩:=tT h (by grind)
  exact tU h1 h2 k e (n+1) w
theorem ir{t:TypeId}{s:Shape}{k:Value}(h:cF P t=some s)(hk:Ek s k=true)(e:Bool)(w:World):(Instr.checkKey e 10000 t k).run P w= .ok () w:=
 HP h hk e 9998 w
theorem HQ{t:TypeId}{s:Shape}{k:Value}(h:shapeOf P fY t=some s):∀ (es:List MapEntry) (i:Nat) (r:Option (Nat×Value)),jt s k es i=some r→∀w:World,
  (Instr.findAsking t k es i).run P w= .ok r w:=by
 intro es
 induction es with
 |nil=>intro i r hr w;simp only[jt,aoq]at hr;subst hr;rfl
 |cons e es ih=>
  intro i r hr w
  unfold jt at hr
  have he:∀b,CH s k e.key=some b→(Op.equal t k e.key).run P w= .ok b w:=by
   intro b hb
   unfold Op.equal Op.maxDepth
   have:=(CE (P:=P) fY).1 t s k e.key b h hb (10000 - fY) w
   simpa[fY]using this
  split at hr
  ·rename_i hb
   injection hr with hr;subst hr
   simp[Instr.findAsking,he true hb]
  ·rename_i hb
   simp[Instr.findAsking,he false hb,ih (i+1) r hr w]
  grind
theorem DY{d:TypeDesc}{s:Shape}{k:Value}(hd:(∃q,d= .int q∧s= .int)∨(d= .string∧s= .str)∨(d= .bool∧s= .bool)):∀ (es:List MapEntry) (i:Nat) (r:Option (Nat×Value)),
  jt s k es i=some r→Instr.findNow d k es i=some r:=by
 intro es
 induction es with
 |nil=>intro i r hr;simpa[jt,Instr.findNow]using hr
 |cons e es ih=>
  intro i r hr
  unfold jt at hr
  unfold Instr.findNow
  have aby:∀b,CH s k e.key=some b→Instr.sameNow d k e.key=some b:=by
   intro b hb
   rcases hd with ⟨q,rfl,rfl⟩| ⟨rfl,rfl⟩| ⟨rfl,rfl⟩
   ·cases k<;>cases hk:e.key<;>simp only[hk,CH,dI]at hb<;>first| (cases hb;done)|skip
    exact hb
   ·cases k<;>cases hk:e.key<;>simp only[hk,CH,dI]at hb<;>first| (cases hb;done)|skip
    simpa[Instr.sameNow,beq_toListBytes]using hb
   ·cases k<;>cases hk:e.key<;>simp only[hk,CH,dI]at hb<;>first| (cases hb;done)|skip
    simpa[Instr.sameNow]using hb
  grind
theorem jo{t:TypeId}{s:Shape}{k:Value}{es:List MapEntry}{r:Option (Nat×Value)}(h:cF P t=some s)(hr:jt s k es 0=some r)(w:World):
  (Instr.findKey t k es).run P w= .ok r w:=by
 have FA:=HO h
 unfold Instr.findKey
 have hu:∃d,P.underlying t=some d:=by
  unfold cF at h
  grind
 obtain⟨d,hu⟩:=hu
 simp only[Sem.run_bind,au hu,Result.andThen_ok]
 by_cases hs:∃fs,s= .s fs
 ·obtain⟨l,rfl⟩:=hs
  have hd:∃fs,d= .struct fs:=by
   unfold cF at h
   rw[hu]at h
   split at h
   ·cases h
   ·cases h
   ·cases h
   ·grind
   ·cases h
  obtain⟨fs,rfl⟩:=hd
  cases es with
  |nil=>simp only[jt,aoq]at hr;subst hr;rfl
  |cons e es=>
   have:Instr.findNow (.struct fs) k (e::es) 0=none:=by simp[Instr.findNow,Instr.sameNow]
   rw[this]
   exact HQ FA _ _ _ hr w
 ·have hd:(∃q,d= .int q∧s= .int)∨(d= .string∧s= .str)∨(d= .bool∧s= .bool):=by
   unfold cF at h
   rw[hu]at h
   split at h
   ·grind
   ·grind
   ·grind
   ·grind
   ·cases h
  rw[DY hd es 0 r hr]
  rfl
end
end Go.Vc
