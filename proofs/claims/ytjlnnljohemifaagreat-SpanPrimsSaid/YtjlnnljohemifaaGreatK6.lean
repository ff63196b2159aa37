/- Texts put behind each other. -/
import Derived.Test.YtjlnnljohemifaaGreatK98
import Derived.Test.YtjlnnljohemifaaGreatK5
set_option maxRecDepth 100000
set_option maxHeartbeats 8000000
set_option linter.unusedVariables false
namespace Go.Vc
def cC(P:Program)(t:TypeId):Option Shape:=
 match P.underlying t with
 |some (.int _)=>some .int
 |some .string=>some .str
 |some .bool=>some .bool
 |some (.struct _)=>
  match shapeOf P eV t with
  |some (.s l)=>if l.all (fun(off,agg,sh)=>agg.isNone && kA sh)then some (.s l)else none
  |_=>none
 |_=>none
def U4:Shape→Bool| .s _=>false|_=>true
def Gw:TypeDesc→Bool| .slice _=>true| .string=>true|_=>false
def I1(P:Program)(o:Oper):Option dh:=
 match o.op with
 | .move x=>some (.aq x)
 | .assign x=>some (.aq x)
 | .pick c a b=>some (.pick c a b)
 | .box T x=>some (.box T x)
 | .alloc T=>(fF P T).map fun z=>.zero T (aI z)
 | .build t ps=>(fF P t).bind fun z=>(parts P t (aI z).length ps.toList).map (.build (aI z))
 | .buildSlice t n ps=>
  match P.underlying t with
  |some (.slice e)=>(fF P e).bind fun z=>
   if(P.info? e).isSome∧P.cellsOf e≠0∧(aI z).length=P.cellsOf e∧n*P.cellsOf e≤2^24 then
    (kB (fun i=>some (i*P.cellsOf e,P.cellsOf e)) (n*P.cellsOf e) ps.toList).map (.lit e n (cE (aI z) n))
   else none
  |_=>none
 | .load t x=>if(P.info? t).isSome∧(P.underlying t).isSome then(if eU P t then some (.da (P.cellsOf t) x)else some (.aj x))else none
 | .store t x v=>if(P.info? t).isSome∧P.cellsOf t≠0 then some (.store (P.cellsOf t) x v)else none
 | .nilCheck x=>some (.nilCheck x)
 | .binOp op t x y _=>
  match op with
  | .eql| .neq=>
   match P.underlying t,y with
   |some (.interface _),.const .nilIface=>some (.UZ (match op with| .neq=>true|_=>false) x)
   |_,_=>(shapeOf P eV t).bind fun s=>if U4 s=true∨P.eqGuardType P.depth t=false then some (.gI op s x y)else none
  |_=>some (.gI op .int x y)
 | .unOp op _ x=>some (.un op x)
 | .convert src dst x=>
  match P.underlying src,P.underlying dst with
  |some (.int _),some (.int k)=>some (.conv k x)
  |some (.slice e),some .string=>(match P.underlying e with|some (.int .u8)=>some (.Pb x)|_=>none)
  |some .string,some (.slice e)=>(match P.underlying e with|some (.int .u8)=>some (.J7 e x)|_=>none)
  |_,_=>none
 | .makeInterface t x=>match P.underlying t with|some (.interface _)=>none|some _=>some (.iface t x)|none=>none
 | .makeFunc fn first captured=>some (.func fn first.toList captured.toList)
 | .makeMap t none=>some .ni
 | .makeSlice t n c=>
  match P.underlying t with
  |some (.slice e)=>(fF P e).bind fun z=>if(P.info? e).isSome∧P.cellsOf e≠0∧(aI z).length=P.cellsOf e then some (.makeSlice e (P.bytesOf e) (P.cellsOf e) (aI z) n c)else none
  |_=>none
 | .slice t x lo hi mx=>
  match P.underlying t with
  |some (.slice e)=>if(P.info? e).isSome∧(mx.isNone∨hi.isSome)then some (.slice (P.cellsOf e) x lo hi mx)else none
  |some .string=>if mx.isNone then some (.J4 x lo hi)else none
  |_=>none
 | .fieldAddr s x f=>
  match P.underlying s with
  |some (.struct fields)=>(fields[f]?).bind fun fd=>if(P.info? fd.type).isSome∧P.cellsOf fd.type≠0 then some (.fieldAddr fd.offset x)else none
  |_=>none
 | .field t x f=>
  match P.underlying t with
  |some (.struct fields)=>(fields[f]?).bind fun fd=>if(P.info? fd.type).isSome∧(P.underlying fd.type).isSome then some (.field fd.offset (if eU P fd.type then some (P.cellsOf fd.type)else none) x)else none
  |_=>none
 | .indexAddr t x i=>
  match P.underlying t with
  |some (.slice e)=>if(P.info? e).isSome then some (.indexAddr (P.cellsOf e) x i)else none
  |some (.array n e)=>if(P.info? e).isSome then some (.BR n (P.cellsOf e) x i)else none
  |_=>none
 | .index t x i=>match P.underlying t with|some .string=>some (.J5 x i)|_=>none
 | .lookup t x i ok=>
  match P.underlying t with
  |some (.map k e)=>(cC P k).bind fun s=>(fF P e).map fun z=>.lookup s z ok x i
  |_=>none
 | .mapUpdate t m k v=>match P.underlying t with|some (.map kt _)=>(cC P kt).map fun s=>.update s m k v|_=>none
 | .extract x i=>some (.extract i x)
 | .typeAssert x _ T false=>(match P.underlying T with|some (.interface _)=>none|some _=>some (.J6 T x)|none=>none)
 | .call c=>
  match c.callee with
  | .value (.func f)=>if eF P f then some (.call f c.args.toList)else some (.ext f c.args.toList)
  | .value x=>some (.dyn x c.args.toList)
  | .invoke r name=>some (.invoke r name c.args.toList)
  | .builtin .len=>
   match c.args.toList,(c.argTypes[0]?).bind P.underlying with
   | [x],some (.slice _)=>some (.tq x)
   | [x],some .string=>some (.UV x)
   | [x],some (.map _ _)=>some (.UW x)
   |_,_=>none
  | .builtin .append=>
   match c.args.toList,(c.argTypes[0]?).bind P.underlying,(c.argTypes[1]?).bind P.underlying with
   | [x,y],some (.slice e),some d=>(fF P e).bind fun z=>
    if(P.info? e).isSome∧P.cellsOf e≠0∧(aI z).length=P.cellsOf e∧P.bytesOf e≠0∧Gw d=true then
     some (.append e (P.cellsOf e) (P.bytesOf e) (aI z) x y)else none
   |_,_,_=>none
  | .builtin .delete=>
   match c.args.toList,(c.argTypes[0]?).bind P.underlying with
   | [m,k],some (.map kt _)=>(cC P kt).map fun s=>.delete s m k
   |_,_=>none
  | .builtin .clear=>
   match c.args.toList,(c.argTypes[0]?).bind P.underlying with
   | [x],some (.slice e)=>(fF P e).bind fun z=>if(aI z).length≠0 then some (.Ob (aI z) x)else none
   |_,_=>none
  | .builtin .min=>some (.UX c.args.toList)
  | .builtin .max=>some (.UY c.args.toList)
  |_=>none
 |_=>none
def Mb:Value→List Value→Option Value
 |v,[]=>some v
 |v,u::r=>match v,u with
  | .int k a,.int _ b=>Mb (.int k (if b<a then b else a)) r
  |_,_=>none
def acH(l:List Value):Option Value:=match l with| []=>none|v::r=>Mb v r
def Mc:Value→List Value→Option Value
 |v,[]=>some v
 |v,u::r=>match v,u with
  | .int k a,.int _ b=>Mc (.int k (if b>a then b else a)) r
  |_,_=>none
def acI(l:List Value):Option Value:=match l with| []=>none|v::r=>Mc v r
@[go_sem] theorem Z0(v:Value)(r:List Value):acH (v::r)=Mb v r:=(rfl)
@[go_sem] theorem acJ(v:Value):Mb v []=some v:=(rfl)
@[go_sem] theorem Z1(k k':IntKind)(a b:Int)(r:List Value):Mb (.int k a) (.int k' b::r)=Mb (.int k (if b<a then b else a)) r:=(rfl)
@[go_sem] theorem Z2(v:Value)(r:List Value):acI (v::r)=Mc v r:=(rfl)
@[go_sem] theorem acK(v:Value):Mc v []=some v:=(rfl)
@[go_sem] theorem Z3(k k':IntKind)(a b:Int)(r:List Value):Mc (.int k a) (.int k' b::r)=Mc (.int k (if b>a then b else a)) r:=(rfl)
def pC(ev:Ev)(x:Option Operand)(d:Nat)(F:Int→Prop):Prop:=
 match x with
 |none=>F d
 |some x=>aC (ev x) fun v=>Dl v F
@[go_sem ↓] theorem VV(ev:Ev)(d:Nat)(F:Int→Prop):pC ev none d F=F d:=(rfl)
@[go_sem ↓] theorem VW(ev:Ev)(x:Operand)(d:Nat)(F:Int→Prop):pC ev (some x) d F=aC (ev x) fun v=>Dl v F:=(rfl)
def Md(H:Hp)(r:Option Nat)(F:Nat→Prop):Prop:=
 match r with
 |none=>F 0
 |some b=>aC (H.mp b) fun m=>F m.1.length
@[go_sem ↓] theorem Ym(H:Hp)(b:Nat)(F:Nat→Prop):Md H (some b) F=aC (H.mp b) fun m=>F m.1.length:=(rfl)
def gZ(ok:Bool)(z:Value)(x:Option Value):Value:=
 bif ok then(match x with|some v=>.tuple [v,.bool true].toArray|none=>.tuple [z,.bool false].toArray)else x.getD z
@[go_sem] theorem QZ(z v:Value):gZ true z (some v)= .tuple [v,.bool true].toArray:=(rfl)
@[go_sem] theorem Q0(z:Value):gZ true z none= .tuple [z,.bool false].toArray:=(rfl)
@[go_sem] theorem U5(z v:Value):gZ false z (some v)=v:=(rfl)
@[go_sem] theorem U6(z:Value):gZ false z none=z:=(rfl)
def Gx:Value→Bool
 | .pointer (some _)=>true
 | .iface .. =>true
 | .func (.func _) _ _=>true
 |_=>false
@[go_sem] theorem Z4(a:Addr):Gx (.pointer (some a))=true:=(rfl)
@[go_sem] theorem VX(t:TypeId)(v:Value):Gx (.iface t v)=true:=(rfl)
@[go_sem] theorem Yn(f:FuncId)(a b:Array Value):Gx (.func (.func f) a b)=true:=(rfl)
def PP(P:Program)(v:Value):Prop:=
 Gx v=true∨∃name t u cap,v= .func (.method name) #[.iface t u] cap∧∀w,(nilAhead (P.types.size+Made.depth) t u name).run P w= .ok (some false) w
@[go_sem] theorem acL(P:Program)(a:Addr):PP P (.pointer (some a))=True:=eq_true (.inl rfl)
@[go_sem] theorem Yo(P:Program)(t:TypeId)(v:Value):PP P (.iface t v)=True:=eq_true (.inl rfl)
@[go_sem] theorem Z5(P:Program)(f:FuncId)(a b:Array Value):PP P (.func (.func f) a b)=True:=eq_true (.inl rfl)
def dh.vc(P:Program)(ev:Ev)(H:Hp)(K:Value→Hp→Prop):dh→Prop
 | .aq x=>aC (ev x) fun v=>K v H
 | .pick c a b=>aC (ev c) fun cv=>BN cv fun t=>aC (bif t then ev a else ev b) fun v=>K v H
 | .box T x=>aC (ev x) fun v=>now (H.new T (aI v)) fun H'=>K (.pointer (some ⟨H.size,0,none⟩)) H'
 | .zero T l=>now (H.new T l) fun H'=>K (.pointer (some ⟨H.size,0,none⟩)) H'
 | .build z ps=>BP ev z ps fun l=>now l fun l=>K (.agg l.toArray) H
 | .lit T n z ps=>BP ev z ps fun l=>now (H.new T l) fun H'=>K (.slice (some ⟨H.size,0,none⟩) n n) H'
 | .aj x=>aC (ev x) fun p=>xL p fun b o=>aC (H.rd b) fun l=>aC l[o]? fun v=>K v H
 | .da n x=>aC (ev x) fun p=>xL p fun b o=>aC (H.rd b) fun l=>dD (o+n≤l.length) (K (.agg ((l.drop o).take n).toArray) H)
 | .store n x v=>aC (ev x) fun p=>xL p fun b o=>aC (ev v) fun v=>aC (JU (H.own b) (H.B5 b)) fun l=>
   dD ((aI v).length=n) (dD (sm (aI v)=true) (dD (o+n≤l.length) (now (H.wr b (bk l o (aI v))) fun H'=>K undef H')))
 | .nilCheck x=>aC (ev x) fun v=>dD (PP P v) (K v H)
 | .gI op s x y=>aC (ev x) fun a=>aC (ev y) fun b=>aC (cr op s a b) fun v=>K v H
 | .un op x=>aC (ev x) fun a=>aC (unF op a) fun v=>K v H
 | .conv k x=>aC (ev x) fun a=>Dl a fun n=>K (.int k (k.wrap n)) H
 | .iface T x=>aC (ev x) fun v=>K (.iface T v) H
 | .func fn first captured=>N0 ev first fun l=>N0 ev captured fun c=>K (.func fn l.toArray c.toArray) H
 | .ni=>K (.map (some H.size)) H.im
 | .makeSlice T bytes size z n c=>aC (ev n) fun nv=>aC (ev c) fun cv=>Dl nv fun n=>Dl cv fun c=>
   dD (0≤n∧n≤c∧c≤2^48∧bytes*c≤2^48) (now (H.new T (cE z c.toNat)) fun H'=>K (.slice (some ⟨H.size,0,none⟩) n.toNat c.toNat) H')
 | .slice size x lo hi mx=>aC (ev x) fun v=>pq v fun a n c=>pC ev mx c fun m=>pC ev hi n fun h=>pC ev lo 0 fun l=>
   dD (0≤l∧l≤h∧h≤m∧m≤c) (K (.slice (if m=l then a else a.map (·.add (l.toNat*size))) (h.toNat - l.toNat) (m.toNat - l.toNat)) H)
 | .J4 x lo hi=>aC (ev x) fun v=>jv v fun s=>pC ev hi s.size fun h=>pC ev lo 0 fun l=>
   dD (0≤l∧l≤h∧h≤s.size) (K (.string (s.extract l.toNat h.toNat)) H)
 | .fieldAddr off x=>aC (ev x) fun p=>xL p fun b o=>K (.pointer (some ⟨b,o+off,none⟩)) H
 | .field off agg x=>aC (ev x) fun v=>Qz v fun l=>aC (ee l off agg) fun v=>K v H
 | .indexAddr size x i=>aC (ev x) fun v=>aC (ev i) fun iv=>pq v fun a n _=>Dl iv fun i=>dD (0≤i∧i<n) (uZ a fun b o=>K (.pointer (some ⟨b,o+i.toNat*size,none⟩)) H)
 | .BR aS size x i=>aC (ev x) fun p=>aC (ev i) fun iv=>xL p fun b o=>Dl iv fun i=>dD (0≤i∧i<aS) (K (.pointer (some ⟨b,o+i.toNat*size,none⟩)) H)
 | .J5 x i=>aC (ev x) fun v=>aC (ev i) fun iv=>jv v fun s=>Dl iv fun i=>dD (0≤i) (aC (s[i.toNat]?) fun b=>K (.int .u8 b.toNat) H)
 | .lookup s z ok m k=>aC (ev m) fun mv=>aC (ev k) fun kv=>Dm mv fun r=>dD (Bz s kv=true) (yq H s r kv fun x=>K (gZ ok z x) H)
 | .update s m k v=>aC (ev m) fun mv=>aC (ev k) fun kv=>aC (ev v) fun vv=>Dm mv fun r=>aC r fun b=>dD (Bz s kv=true) (Sc H s b kv vv fun H'=>K undef H')
 | .extract i x=>aC (ev x) fun v=>Qy v fun l=>aC l[i]? fun v=>K v H
 | .call f args=>N0 ev args fun vs=>af P f vs H K
 | .dyn f args=>aC (ev f) fun fv=>N0 ev args fun vs=>Yk P fv vs H K
 | .invoke r name args=>aC (ev r) fun rv=>N0 ev args fun vs=>gP P rv name vs H K
 | .tq x=>aC (ev x) fun v=>pq v fun _ n _=>K (.int .i64 n) H
 | .UV x=>aC (ev x) fun v=>jv v fun s=>K (.int .i64 s.size) H
 | .UW x=>aC (ev x) fun v=>Dm v fun r=>Md H r fun n=>K (.int .i64 n) H
 | .append T size bytes z x y=>aC (ev x) fun xv=>aC (ev y) fun yv=>gk T size bytes z xv yv H K
 | .delete s m k=>aC (ev m) fun mv=>aC (ev k) fun kv=>Dm mv fun r=>aC r fun b=>dD (Bz s kv=true) (Yi H s b kv fun H'=>K (.tuple [].toArray) H')
 | .Ob z x=>aC (ev x) fun v=>pq v fun a n _=>Yj H z a n fun H'=>K (.tuple [].toArray) H'
 | .UX args=>N0 ev args fun vs=>aC (acH vs) fun v=>K v H
 | .UY args=>N0 ev args fun vs=>aC (acI vs) fun v=>K v H
 | .J6 T x=>aC (ev x) fun v=>vQ T v fun u=>K u H
 | .UZ neg x=>aC (ev x) fun v=>N9 v fun b=>K (.bool (Oa neg b)) H
 | .Pb x=>aC (ev x) fun v=>vi H v fun l=>K (.string ⟨l.toArray⟩) H
 | .J7 T x=>aC (ev x) fun v=>jv v fun s=>ST T s H K
 | .ext f args=>N0 ev args fun vs=>ahl P f vs H K
attribute [go_sem ↓] dh.vc
section
variable {P : Program} {o : Oper} {a : Act} {ev : Ev} {H : Hp} {K : Value → Hp → Prop}
def dY(P:Program)(o:Oper)(a:Act)(H:Hp)(K:Value→Hp→Prop):Prop:=∃v,(∀w,(execOp a.eval o).run P w= .ok (.value v) w)∧K v H
theorem dY.ahm(h:dY P o a H K):dU P o a H K:=by
 obtain⟨v,h1,h2⟩:=h
 exact fun w hw=>.inl ⟨v,w,h1 w,cf.refl w,hw▸h2⟩
theorem ar{t:TypeId}{d:TypeDesc}(h:P.underlying t=some d)(w:World):(underlying t).run P w= .ok d w:=run_underlying h w
theorem ed{t:TypeId}{i:TypeInfo}(h:P.info? t=some i)(w:World):(typeInfo t).run P w= .ok i w:=by simp[typeInfo,h]
theorem bL{t:TypeId}(h:(P.info? t).isSome=true)(w:World):(sizeOf t).run P w= .ok (P.cellsOf t) w:=by
 obtain⟨i,hi⟩:=Option.isSome_iff_exists.1 h
 simp[sizeOf,ed hi,Program.cellsOf,hi]
theorem cK{t:TypeId}{z:Value}(h:fF P t=some z)(w:World):(zeroValue t).run P w= .ok z w:=by
 unfold fF at h
 cases hi:P.info? t with
 |none=>rw[hi]at h;cases h
 |some i=>rw[hi]at h;simp only[Option.bind_some]at h;simp[zeroValue,ed hi,h]
theorem zT{t:TypeId}(h:(P.underlying t).isSome=true)(w:World):(isAgg t).run P w= .ok (eU P t) w:=by
 obtain⟨d,hd⟩:=Option.isSome_iff_exists.1 h
 unfold isAgg eU
 simp only[Sem.run_bind,ar hd,Result.andThen_ok,hd]
 cases d<;>rfl
theorem DM(t:TypeId)(v:Value)(w:World):(newVar t v).run P w= .ok ⟨w.heap.size,0,none⟩ {w with heap:=Hp.new w.heap t (aI v)}:=by
 simp only[newVar,newRow,Sem.run_bind,run_newObj,Result.andThen_ok,Sem.run_pure,Hp.new,←eI,apT]
theorem lu(t:TypeId)(c:Array Value)(w:World):(newRow t c).run P w= .ok ⟨w.heap.size,0,none⟩ {w with heap:=Hp.new w.heap t c.toList}:=by
 simp only[newRow,Sem.run_bind,run_newObj,Result.andThen_ok,Sem.run_pure,Hp.new,apT]
theorem jw{t:TypeId}{w:World}{b o:Nat}{l:List Value}(hi:(P.info? t).isSome=true)(hu:(P.underlying t).isSome=true)(h:Hp.rd w.heap b=some l):
  (eU P t=true→o+P.cellsOf t≤l.length→(loadVar t ⟨b,o,none⟩).run P w= .ok (.agg ((l.drop o).take (P.cellsOf t)).toArray) w)∧
  (eU P t=false→∀v,l[o]? =some v→(loadVar t ⟨b,o,none⟩).run P w= .ok v w):=by
 refine⟨fun ha hn=>?_,fun ha v hv=>?_⟩
 ·simp[loadVar,zT hu,ha,bL hi,qI (P:=P) (a:=⟨b,o,none⟩) rfl h hn]
 ·have hc:w.cell? ⟨b,o,none⟩=some v:=(nA rfl h).trans hv
  simp[loadVar,zT hu,ha,hc]
theorem Iq{t:TypeId}{w:World}{b o:Nat}{l:List Value}{v:Value}(hi:(P.info? t).isSome=true)(h0:P.cellsOf t≠0)(h:JU (Hp.own w.heap b) (Hp.B5 w.heap b)=some l)
  (hl:(aI v).length=P.cellsOf t)(h1:gK (aI v))(hn:o+P.cellsOf t≤l.length):
  ∃w',(storeVar t ⟨b,o,none⟩ v).run P w= .ok () w'∧cf w w'∧w'.heap=Hp.wr w.heap b (bk l o (aI v)):=by
 obtain⟨w',hr,hs,hk,_⟩:=is (P:=P) (b:=b) (o:=o) (aI v) 0 w l h (by omega) h1
 refine⟨w',?_,hs,hk (fun e=>by rw[e]at hl;exact h0 hl.symm)⟩
 have e:v.cells.size=P.cellsOf t:=by rw[←hl,←eI];simp
 simp only[storeVar,Sem.run_bind,bL hi,Result.andThen_ok,e,ne_eq,not_true_eq_false,if_false,eI]
 exact hr
end
end Go.Vc

set_option linter.unusedSimpArgs false
namespace Go.Vc
section
variable {P : Program} {o : Oper} {a : Act} {ev : Ev} {H : Hp} {K : Value → Hp → Prop}
theorem dD.out{c F:Prop}(h:dD c F):c∧F:=h
theorem zU{v:Value}{F:Bool→Prop}(h:BN v F):∃b,v= .bool b∧F b:=by
 unfold BN at h;split at h
 ·exact⟨_,rfl,h⟩
 ·exact h.elim
theorem vR{l:List Value}{t:TypeId}{off:Nat}{v:Value}(hi:(P.info? t).isSome=true)(hu:(P.underlying t).isSome=true)
  (h:ee l off (if eU P t then some (P.cellsOf t)else none)=some v)(w:World):(part t l.toArray off).run P w= .ok v w:=by
 unfold part
 simp only[Sem.run_bind,zT hu,Result.andThen_ok]
 cases hb:eU P t
 ·rw[hb]at h
  simp only[api,if_false,ee]at h ⊢
  simp[h]
 ·rw[hb]at h
  simp only[if_true,ee]at h ⊢
  split at h
  ·injection h with h
   subst h
   simp only[Sem.run_bind,bL hi,Result.andThen_ok,Sem.run_pure]
   congr 2
   apply Array.ext'
   simp[List.take_drop]
  ·cases h
theorem info_of_underlying{t:TypeId}(h:(P.underlying t).isSome=true):(P.info? t).isSome=true:=by
 unfold Program.underlying at h
 cases hi:P.info? t with
 |none=>rw[hi]at h;simp at h
 |some i=>rfl
theorem Me(m:Nat){t:TypeId}{s:Shape}{x y:Value}{b:Bool}{d:Nat}(ht:shapeOf P d t=some s)(hs:∀fs,s≠ .s fs)(h:bj s x y=some b)(w:World):
  (Op.equalIn (m+1) t x y).run P w= .ok b w:=by
 cases d with
 |zero=>simp[shapeOf]at ht
 |succ d=>
  rw[gv]at ht
  split at ht
  case h_9=>
   split at ht
   ·cases ht
   ·rename_i fs hu hp
    cases Z6:fg P d fs.toList with
    |none=>rw[Z6]at ht;cases ht
    |some l=>rw[Z6]at ht;injection ht with ht;exact absurd ht.symm (hs l)
  case h_10=>cases ht
  all_goals(injection ht with ht;subst ht)
  all_goals(unfold bj at h;split at h<;>rename_i hu<;>first| (cases hu;done)| (cases h;done)|skip)
  all_goals(try(split at h<;>first| (cases h;done)|skip))
  all_goals(injection h with h;subst h)
  all_goals(simp only[Op.equalIn,Sem.run_bind,ar ‹P.underlying t=_›,Result.andThen_ok])
  all_goals first|rfl| (rw[if_pos (by assumption)];rfl)| (simp[*,beq_toListBytes];done)| (simp_all;done)|skip
theorem BS:∀ (d:Nat),
  (∀ (t:TypeId) (s:Shape) (x y:Value) (b:Bool),shapeOf P d t=some s→nZ s x y=some b→∀ (m:Nat) (w:World),(Op.equalIn (m+d) t x y).run P w= .ok b w)∧
  (∀ (fs:List Field) (l:List (Nat×Option Nat×Shape)) (xs ys:List Value) (b:Bool),fg P d fs=some l→xx l xs ys=some b→
   ∀ (m:Nat) (w:World),(Op.eqFields (m+d) xs.toArray ys.toArray fs).run P w= .ok b w):=by
 intro d
 induction d with
 |zero=>
  refine⟨fun t s x y b ht=>(by simp[shapeOf]at ht),fun fs l xs ys b hl h m w=>?_⟩
  cases fs with
  |nil=>simp only[BO,aos]at hl;subst hl;simp only[xx,aos]at h;subst h;rfl
  |cons f fs=>simp[pk,shapeOf]at hl
 |succ d ih=>
  have first:∀ (t:TypeId) (s:Shape) (x y:Value) (b:Bool),shapeOf P (d+1) t=some s→nZ s x y=some b→∀ (m:Nat) (w:World),(Op.equalIn (m+(d+1)) t x y).run P w= .ok b w:=by
   intro t s x y b ht h m w
   by_cases hs:∃fs,s= .s fs
   ·obtain⟨l,rfl⟩:=hs
    cases x with
    |agg xs=>
     cases y with
     |agg ys=>
      simp only[nZ]at h
      rw[gv]at ht
      split at ht
      case h_9=>
       split at ht
       ·cases ht
       ·rename_i fs hu hp
        cases Z6:fg P d fs.toList with
        |none=>rw[Z6]at ht;cases ht
        |some l'=>
         rw[Z6]at ht
         simp only[Option.map_some,aos,Shape.s.injEq]at ht
         subst ht
         have hf:P.fieldsOf t=fs:=by simp[Program.fieldsOf,hu]
         rw[show m+(d+1)=(m+d)+1 by omega,run_equalIn_struct w (m+d) t xs ys (by rw[hf];exact hu) (by simpa using hp),hf]
         have:=(ih.2 fs.toList l' xs.toList ys.toList b Z6 h m w)
         simpa using this
      all_goals cases ht
     |_=>simp[nZ,bj]at h
    |_=>cases y<;>simp[nZ,bj]at h
   ·have h':bj s x y=some b:=by
     cases s<;>first|exact h| (exact absurd ⟨_,rfl⟩ hs)
    exact Me (m+d) ht (fun fs e=>hs ⟨fs,e⟩) h' w
  refine⟨first,fun fs=>?_⟩
  induction fs with
  |nil=>intro l xs ys b hl h m w;simp only[BO,aos]at hl;subst hl;simp only[xx,aos]at h;subst h;rfl
  |cons f fs ihf=>
   intro l xs ys b hl h m w
   rw[pk]at hl
   split at hl
   ·cases hl
   ·rename_i SU
    split at hl
    ·cases hl
    ·rename_i sh Gs
     cases hr:fg P (d+1) fs with
     |none=>rw[hr]at hl;cases hl
     |some l'=>
      rw[hr]at hl
      simp only[Option.map_some,aos]at hl
      subst hl
      unfold xx at h
      split at h
      ·cases h
      ·rename_i x hx
       split at h
       ·cases h
       ·rename_i y hy
        have hu:(P.underlying f.type).isSome=true:=by
         rw[gv]at Gs
         split at Gs<;>first| (cases Gs;done)|simp_all
        have hi:=info_of_underlying hu
        simp only[Op.eqFields,SU,ne_eq,not_false_eq_true,if_true,Sem.run_bind,vR hi hu hx,vR hi hu hy,Result.andThen_ok]
        split at h
        ·rename_i he
         rw[first f.type sh x y true Gs he m w]
         simpa using ihf l' xs ys b hr h m w
        ·rename_i he
         injection h with h
         subst h
         rw[first f.type sh x y false Gs he m w]
         simp
        ·cases h
end
end Go.Vc

namespace Go.Vc
section
variable {P : Program} {o : Oper} {a : Act} {ev : Ev} {H : Hp} {K : Value → Hp → Prop}
abbrev bR(ev:Ev)(a:Act):Prop:=∀x v,ev x=some v→a.eval x=v
theorem aW{x:Operand}{F:Value→Prop}(bH:bR ev a)(h:aC (ev x) F):F (a.eval x):=by
 obtain⟨v,hv,h⟩:=aA h
 rw[bH x v hv];exact h
theorem Mf{x:Operand}(bH:bR ev a)(ho:o.op= .move x∨o.op= .assign x)(h:(dh.aq x).vc P ev H K):dY P o a H K:=by
 have h:=aW bH h
 refine⟨_,fun w=>?_,h⟩
 rcases ho with ho|ho<;>simp[execOp,ho]
theorem QA{c x y:Operand}(bH:bR ev a)(ho:o.op= .pick c x y)(h:(dh.pick c x y).vc P ev H K):dY P o a H K:=by
 obtain⟨b,hb,h⟩:=zU (aW bH h)
 have h2:aC (ev (bif b then x else y)) fun v=>K v H:=by cases b<;>exact h
 have h:=aW bH h2
 refine⟨_,fun w=>?_,h⟩
 simp only[execOp,ho,hb,asBool]
 cases b<;>simp
theorem Ir{x:Operand}(bH:bR ev a)(ho:o.op= .nilCheck x)(h:(dh.nilCheck x).vc P ev H K):dY P o a H K:=by
 obtain⟨hn,h⟩:=(aW bH h).out
 refine⟨_,fun w=>?_,h⟩
 simp only[execOp,ho]
 rcases hn with hn| ⟨name,t,u,cap,hv,hn⟩
 ·revert hn
  generalize a.eval x=v
  cases v with
  |pointer q=>cases q<;>simp[Gx]
  |func fn x y=>cases fn<;>simp[Gx]
  |_=>simp[Gx]
 ·rw[hv]
  have hz:(#[Value.iface t u]:Array Value)[0]? =some (.iface t u):=rfl
  simp[hz,hn w]
theorem U7{op:UnOp}{t:TypeId}{x:Operand}(bH:bR ev a)(ho:o.op= .unOp op t x)(h:(dh.un op x).vc P ev H K):dY P o a H K:=by
 obtain⟨v,hv,h⟩:=aA (aW bH h)
 refine⟨v,fun w=>?_,h⟩
 simp only[execOp,ho]
 revert hv
 generalize a.eval x=u
 intro hv
 unfold unF at hv
 split at hv<;>first| (cases hv;done)|skip
 all_goals(injection hv with hv;subst hv;simp[Op.unary,Op.intArith,Op.intBits])
theorem QB{s t:TypeId}{k k':IntKind}{x:Operand}(bH:bR ev a)(ho:o.op= .convert s t x)(hs:P.underlying s=some (.int k'))(ht:P.underlying t=some (.int k))
  (h:(dh.conv k x).vc P ev H K):dY P o a H K:=by
 obtain⟨k1,n,hn,h⟩:=iL (aW bH h)
 refine⟨_,fun w=>?_,h⟩
 simp only[execOp,ho,convert,hn,Sem.run_bind,ar hs,ar ht,Result.andThen_ok,Conv.intToInt]
 rfl
theorem SV{t:TypeId}{ms:Array (String×TypeId)}(hu:P.underlying t=some (.interface ms))(v:Value)(b:Bool)(hv:(v= .nilIface∧b=true)∨∃t' u,v= .iface t' u∧b=false)(w:World):(Op.equal t v .nilIface).run P w= .ok b w:=by
 have h:∀m:Nat,(Op.equalIn (m+1) t v .nilIface).run P w= .ok b w:=fun m=>by
  rcases hv with ⟨rfl,rfl⟩| ⟨t',u,rfl,rfl⟩<;>simp only[Op.equalIn,Sem.run_bind,ar hu,Result.andThen_ok]<;>rfl
 exact h 9999
theorem I2{op:BinOp}{neg:Bool}{t t':TypeId}{ms:Array (String×TypeId)}{x:Operand}(bH:bR ev a)(ho:o.op= .binOp op t x (.const .nilIface) t')(hu:P.underlying t=some (.interface ms))
  (Aa:(op= .eql∧neg=false)∨(op= .neq∧neg=true))(h:(dh.UZ neg x).vc P ev H K):dY P o a H K:=by
 obtain⟨b,hv,h⟩:∃b,((a.eval x= .nilIface∧b=true)∨∃t' u,a.eval x= .iface t' u∧b=false)∧K (.bool (Oa neg b)) H:=by
  rcases I0 (aW bH h)with ⟨e,h⟩| ⟨t',u,e,h⟩
  ·exact⟨true,.inl ⟨e,rfl⟩,h⟩
  ·exact⟨false,.inr ⟨t',u,e,rfl⟩,h⟩
 refine⟨_,fun w=>?_,h⟩
 have hr:=SV (P:=P) hu (a.eval x) b hv w
 have hc:a.eval (.const .nilIface)= .nilIface:=rfl
 simp only[execOp,ho,Sem.run_bind,hc]
 generalize a.eval x=u at hv hr ⊢
 have hg:(eqGuard op t x (.const .nilIface) u .nilIface).run P w= .ok () w:=by
  unfold eqGuard
  rcases Aa with ⟨rfl,_⟩| ⟨rfl,_⟩<;>rcases hv with ⟨rfl,_⟩| ⟨t',u',rfl,_⟩<;>simp
 rw[hg]
 simp only[Result.andThen_ok]
 rcases Aa with ⟨rfl,rfl⟩| ⟨rfl,rfl⟩<;>rcases hv with ⟨rfl,rfl⟩| ⟨t',u',rfl,rfl⟩<;>simp[binOp,hr,Oa]
theorem Mh{s t:TypeId}{d:TypeDesc}{x:Operand}(bH:bR ev a)(ho:o.op= .typeAssert x s t false)(hs:P.underlying t=some d)(hd:∀ms,d≠ .interface ms)
  (h:(dh.J6 t x).vc P ev H K):dY P o a H K:=by
 obtain⟨u,hx,h⟩:=BQ (aW bH h)
 refine⟨_,fun w=>?_,h⟩
 simp only[execOp,ho,hx,Instr.typeAssert,Sem.run_bind,ar hs,Result.andThen_ok]
 cases d<;>first| (exact absurd rfl (hd _))|simp
theorem Oc{t:TypeId}{d:TypeDesc}{x:Operand}(bH:bR ev a)(ho:o.op= .makeInterface t x)(hs:P.underlying t=some d)(hd:∀ms,d≠ .interface ms)
  (h:(dh.iface t x).vc P ev H K):dY P o a H K:=by
 have h:=aW bH h
 refine⟨_,fun w=>?_,h⟩
 simp only[execOp,ho,Instr.makeInterface,Sem.run_bind,ar hs,Result.andThen_ok]
 cases d<;>first| (exact absurd rfl (hd _))|simp
theorem QC{fn:Fn}{first captured:Array Operand}(bH:bR ev a)(ho:o.op= .makeFunc fn first captured)(h:(dh.func fn first.toList captured.toList).vc P ev H K):dY P o a H K:=by
 have h:=lq bH (lq bH h)
 refine⟨_,fun w=>?_,h⟩
 simp only[execOp,ho,Instr.makeFunc,Sem.run_bind,Sem.run_pure,Result.andThen_ok]
 congr 3
 ·apply Array.ext';simp
 ·apply Array.ext';simp
theorem sn{c:Bool}{m:Sem Unit}{w:World}(h:m.run P w= .ok () w):(if(!c)=true then(pure ():Sem Unit)else m).run P w= .ok () w:=by
 cases c
 ·rfl
 ·simpa using h
theorem vj{op:BinOp}{t:TypeId}{s:Shape}{x y:Operand}{u v:Value}{b:Bool}(h:nZ s u v=some b)(hg:U4 s=true∨P.eqGuardType P.depth t=false)(w:World):
  (eqGuard op t x y u v).run P w= .ok () w:=by
 unfold eqGuard
 refine sn ?_
 cases u with
 |nilIface=>
  cases v with
  |nilIface=>cases s<;>simp[nZ,bj]at h
  |_=>rfl
 |agg xs=>
  cases v with
  |agg ys=>
   rcases hg with hg|hg
   ·cases s<;>simp_all[nZ,bj,U4]
   ·simp[hg]
  |_=>rfl
 |_=>cases v<;>rfl
theorem Gy{t:TypeId}{s:Shape}{u v:Value}{b:Bool}(hs:shapeOf P eV t=some s)(h:nZ s u v=some b)(hu:∀k n,u≠ .int k n∨∀k' m,v≠ .int k' m)
  (uE:∀x,u≠ .string x∨∀y,v≠ .string y)(w:World):
  (binOp .eql t u v).run P w= .ok (.bool b) w∧(binOp .neq t u v).run P w= .ok (.bool (!b)) w:=by
 have he:(Op.equal t u v).run P w= .ok b w:=by
  unfold Op.equal Op.maxDepth
  have:=(BS (P:=P) eV).1 t s u v b hs h (10000 - eV) w
  simpa[eV]using this
 have aP:∀ {op},op=BinOp.eql∨op=BinOp.neq→binOp op t u v=(if op=BinOp.eql then(do pure (.bool (←Op.equal t u v)))else(do pure (.bool (!(←Op.equal t u v))))):=by
  intro op Aa
  cases u<;>cases v<;>rcases Aa with rfl|rfl<;>first
   |rfl
   | (rcases hu _ _ with h1|h1<;>first|exact absurd rfl h1|exact absurd rfl (h1 _ _))
   | (rcases uE _ with h1|h1<;>first|exact absurd rfl h1|exact absurd rfl (h1 _))
   | (cases s<;>simp[nZ,bj]at h)
 rw[aP (.inl rfl),aP (.inr rfl)]
 simp[he]
def SW(op:BinOp)(s:Shape)(u z:Value):Option Value:=match op with| .eql=>(nZ s u z).map .bool| .neq=>(nZ s u z).map fun b=>.bool (!b)|_=>none
theorem QD{op:BinOp}{s:Shape}{u z:Value}(h1:∀k n,u≠ .int k n∨∀k' m,z≠ .int k' m)(h2:∀p,u≠ .string p∨∀q,z≠ .string q):cr op s u z=SW op s u z:=by
 unfold cr SW
 split
 ·rcases h1 _ _ with h|h<;>first|exact absurd rfl h|exact absurd rfl (h _ _)
 ·rcases h2 _ with h|h<;>first|exact absurd rfl h|exact absurd rfl (h _)
 ·rfl
theorem Gz{op:BinOp}{t t':TypeId}{s:Shape}{x y:Operand}(bH:bR ev a)(ho:o.op= .binOp op t x y t')
  (hs:(op= .eql∨op= .neq)→shapeOf P eV t=some s∧(U4 s=true∨P.eqGuardType P.depth t=false))
  (h:(dh.gI op s x y).vc P ev H K):dY P o a H K:=by
 obtain⟨v,hv,h⟩:=aA (aW bH (aW bH h))
 refine⟨v,fun w=>?_,h⟩
 simp only[execOp,ho,Sem.run_bind]
 generalize hx:a.eval x=u at hv ⊢
 generalize hy:a.eval y=z at hv ⊢
 have hint:∀k n k' m,u= .int k n→z= .int k' m→(eqGuard op t x y u z).run P w= .ok () w∧(binOp op t u z).run P w= .ok v w:=by
  intro k n k' m e1 e2
  subst e1;subst e2
  refine⟨sn rfl,?_⟩
  ·unfold cr at hv
   by_cases hk:k=k'
   ·subst hk
    cases op<;>simp only[binOp,Op.shift,Op.intArith,Op.intDiv,Op.intBits,Op.intCmp]at hv ⊢ <;>simp at hv ⊢ <;>first
     | (subst hv;rfl)
     | (split at hv<;>first| (cases hv;done)| (injection hv with hv;subst hv;rename_i hc;simp[hc];done)|skip)
     | (obtain⟨h1,rfl⟩:=hv;simp[show¬m<0 by omega])
     | (obtain⟨h1,rfl⟩:=hv;simp[h1])
     |skip
   ·cases op<;>simp[hk]at hv<;>simp only[binOp,Op.shift]<;>first
     | (obtain⟨h1,rfl⟩:=hv;simp[show¬m<0 by omega])
     |skip
 have ahn:∀p q,u= .string p→z= .string q→(eqGuard op t x y u z).run P w= .ok () w∧(binOp op t u z).run P w= .ok v w:=by
  intro p q e1 e2
  subst e1;subst e2
  refine⟨sn rfl,?_⟩
  ·unfold cr at hv
   cases op<;>simp only[binOp,Op.stringOp]at hv ⊢ <;>simp at hv ⊢ <;>first
    | (subst hv;rfl)
    | (obtain⟨h1,rfl⟩:=hv;simp[show¬ (9223372036854775807:Int)< (p.size:Int)+q.size by omega])
    | (obtain⟨h1,rfl⟩:=hv;rw[if_neg (by omega)])
    | (cases hv;done)
    |skip
 have acM:(∀k n,u≠ .int k n∨∀k' m,z≠ .int k' m)→(∀p,u≠ .string p∨∀q,z≠ .string q)→(eqGuard op t x y u z).run P w= .ok () w∧(binOp op t u z).run P w= .ok v w:=by
  intro h1 h2
  have hb:=QD (op:=op) (s:=s) h1 h2
  rw[hb]at hv
  cases op<;>simp only[SW]at hv<;>first| (cases hv;done)|skip
  ·obtain⟨eK,Kk⟩:=hs (.inl rfl)
   cases he:nZ s u z with
   |none=>rw[he]at hv;cases hv
   |some b=>rw[he]at hv;injection hv with hv;subst hv;exact⟨vj he Kk w,(Gy eK he h1 h2 w).1⟩
  ·obtain⟨eK,Kk⟩:=hs (.inr rfl)
   cases he:nZ s u z with
   |none=>rw[he]at hv;cases hv
   |some b=>rw[he]at hv;injection hv with hv;subst hv;exact⟨vj he Kk w,(Gy eK he h1 h2 w).2⟩
 have key:(eqGuard op t x y u z).run P w= .ok () w∧(binOp op t u z).run P w= .ok v w:=by
  by_cases h1:∃k n k' m,u= .int k n∧z= .int k' m
  ·obtain⟨k,n,k',m,e1,e2⟩:=h1;exact hint k n k' m e1 e2
  ·by_cases h2:∃p q,u= .string p∧z= .string q
   ·obtain⟨p,q,e1,e2⟩:=h2;exact ahn p q e1 e2
   ·refine acM (fun k n=>?_) (fun p=>?_)
    ·by_cases e:u= .int k n
     ·exact .inr fun k' m e'=>h1 ⟨k,n,k',m,e,e'⟩
     ·exact .inl e
    ·by_cases e:u= .string p
     ·exact .inr fun q e'=>h2 ⟨p,q,e,e'⟩
     ·exact .inl e
 simp[key.1,key.2]
end
end Go.Vc

namespace Go.Vc
section
variable {P : Program} {o : Oper} {a : Act} {ev : Ev} {H : Hp} {K : Value → Hp → Prop}
theorem J9{i:Nat}{x:Operand}(bH:bR ev a)(ho:o.op= .extract x i)(h:(dh.extract i x).vc P ev H K):dY P o a H K:=by
 obtain⟨vs,hv,h⟩:=IY (aW bH h)
 obtain⟨v,hi,h⟩:=aA h
 refine⟨v,fun w=>?_,h⟩
 have hi':vs[i]? =some v:=by simpa using hi
 simp[execOp,ho,hv,Instr.extract,hi']
theorem GA{t:TypeId}{f:Nat}{x:Operand}{fields:Array Field}{fd:Field}(bH:bR ev a)(ho:o.op= .fieldAddr t x f)(ht:P.underlying t=some (.struct fields))
  (hf:fields[f]? =some fd)(hi:(P.info? fd.type).isSome=true)(h0:P.cellsOf fd.type≠0)(h:(dh.fieldAddr fd.offset x).vc P ev H K):dY P o a H K:=by
 obtain⟨b,off,hv,h⟩:=fi (aW bH h)
 refine⟨_,fun w=>?_,h⟩
 simp[execOp,ho,hv,Instr.fieldAt,ar ht,hf,Instr.sureAddr,fieldPlace,bL hi,h0,zw]
theorem Od{t:TypeId}{f:Nat}{x:Operand}{fields:Array Field}{fd:Field}(bH:bR ev a)(ho:o.op= .field t x f)(ht:P.underlying t=some (.struct fields))
  (hf:fields[f]? =some fd)(hi:(P.info? fd.type).isSome=true)(hu:(P.underlying fd.type).isSome=true)
  (h:(dh.field fd.offset (if eU P fd.type then some (P.cellsOf fd.type)else none) x).vc P ev H K):dY P o a H K:=by
 obtain⟨vs,hv,h⟩:=IZ (aW bH h)
 obtain⟨v,hp,h⟩:=aA h
 refine⟨v,fun w=>?_,h⟩
 have:=vR hi hu hp w
 simp only[apT]at this
 simp[execOp,ho,hv,Instr.field,ar ht,hf,asAgg,this]
theorem GB{t e:TypeId}{x i:Operand}(bH:bR ev a)(ho:o.op= .indexAddr t x i)(ht:P.underlying t=some (.slice e))(hi:(P.info? e).isSome=true)
  (h:(dh.indexAddr (P.cellsOf e) x i).vc P ev H K):dY P o a H K:=by
 obtain⟨ad,n,c,hx,h⟩:=iM (aW bH (aW bH h))
 obtain⟨k,j,hj,h⟩:=iL h
 obtain⟨hb,h⟩:=h.out
 obtain⟨b,off,rfl,h⟩:=nQ h
 refine⟨_,fun w=>?_,h⟩
 simp[execOp,ho,hx,hj,Instr.indexAt,ar ht,asIntOf,hb.1,hb.2,bL hi,zw]
theorem Is{t e:TypeId}{n:Nat}{x i:Operand}(bH:bR ev a)(ho:o.op= .indexAddr t x i)(ht:P.underlying t=some (.array n e))(hi:(P.info? e).isSome=true)
  (h:(dh.BR n (P.cellsOf e) x i).vc P ev H K):dY P o a H K:=by
 obtain⟨b,off,hx,h⟩:=fi (aW bH (aW bH h))
 obtain⟨k,j,hj,h⟩:=iL h
 obtain⟨hb,h⟩:=h.out
 refine⟨_,fun w=>?_,h⟩
 simp[execOp,ho,hx,hj,Instr.indexAt,ar ht,asIntOf,hb.1,hb.2,bL hi,zw,Instr.sureAddr]
theorem Mi{t:TypeId}{x i:Operand}(bH:bR ev a)(ho:o.op= .index t x i)(ht:P.underlying t=some .string)
  (h:(dh.J5 x i).vc P ev H K):dY P o a H K:=by
 obtain⟨s,hx,h⟩:=mL (aW bH (aW bH h))
 obtain⟨k,j,hj,h⟩:=iL h
 obtain⟨h0,h⟩:=h.out
 obtain⟨b,hb,h⟩:=aA h
 refine⟨_,fun w=>?_,h⟩
 simp[execOp,ho,hx,hj,Instr.index,ar ht,asIntOf,h0,hb]
theorem ly{x:Option Operand}{d:Nat}{F:Int→Prop}(bH:bR ev a)(h:pC ev x d F):
  ∃n,F n∧((x=none∧n=d)∨∃y k,x=some y∧a.eval y= .int k n):=by
 cases x with
 |none=>exact⟨d,h,.inl ⟨rfl,rfl⟩⟩
 |some y=>
  obtain⟨k,n,hy,h⟩:=iL (aW bH h)
  exact⟨n,h,.inr ⟨y,k,rfl,hy⟩⟩
theorem gw{k:IntKind}{i:Int}{y:Nat}{code:BoundsCode}(h0:0≤i)(h1:i≤y)(w:World):(Instr.sliceBound (.int k i) y code).run P w= .ok i.toNat w:=by
 simp[Instr.sliceBound,asIntOf,h0,h1]
theorem GC{isS:Bool}{n c:Nat}{lo hi mx:Option Operand}{l h m:Int}(hl:(lo=none∧l=0)∨∃y k,lo=some y∧a.eval y= .int k l)
  (hh:(hi=none∧h=n)∨∃y k,hi=some y∧a.eval y= .int k h)(hm:(mx=none∧m=c)∨∃y k,mx=some y∧a.eval y= .int k m)
  (h3:mx.isSome=true→hi.isSome=true)(hb:0≤l∧l≤h∧h≤m∧m≤c)(w:World):
  (Instr.sliceBounds isS n c (lo.map a.eval) (hi.map a.eval) (mx.map a.eval)).run P w= .ok (l.toNat,h.toNat,m.toNat) w:=by
 obtain⟨h1,h2,h4,h5⟩:=hb
 unfold Instr.sliceBounds
 rcases hm with ⟨rfl,rfl⟩| ⟨ym,km,rfl,em⟩
 ·rcases hh with ⟨rfl,rfl⟩| ⟨yh,kh,rfl,eh⟩<;>rcases hl with ⟨rfl,rfl⟩| ⟨yl,kl,rfl,el⟩<;>
   simp only[Option.map_none,Option.map_some,Option.isSome_none,Sem.run_bind,Sem.run_pure,Result.andThen_ok, *]
  ·rfl
  ·rw[gw h1 (by omega)];rfl
  ·rw[gw (by omega) (by omega)];rfl
  ·rw[gw (by omega) (by omega)];simp only[Result.andThen_ok];rw[gw h1 (by omega)];rfl
 ·rcases hh with ⟨rfl,rfl⟩| ⟨yh,kh,rfl,eh⟩
  ·exact absurd (h3 rfl) (by simp)
  ·rcases hl with ⟨rfl,rfl⟩| ⟨yl,kl,rfl,el⟩<;>simp only[Option.map_none,Option.map_some,Option.isSome_some,Sem.run_bind,Sem.run_pure,Result.andThen_ok, *]
   ·rw[gw (by omega) (by omega)];simp only[Result.andThen_ok];rw[gw (by omega) (by omega)];rfl
   ·rw[gw (by omega) (by omega)];simp only[Result.andThen_ok];rw[gw (by omega) (by omega)];simp only[Result.andThen_ok];rw[gw h1 (by omega)];rfl
theorem Oe{t e:TypeId}{x:Operand}{lo hi mx:Option Operand}(bH:bR ev a)(ho:o.op= .slice t x lo hi mx)(ht:P.underlying t=some (.slice e))(hie:(P.info? e).isSome=true)
  (h3:mx.isSome=true→hi.isSome=true)(h:(dh.slice (P.cellsOf e) x lo hi mx).vc P ev H K):dY P o a H K:=by
 obtain⟨ad,n,c,hx,h⟩:=iM (aW bH h)
 obtain⟨m,h,hm⟩:=ly bH h
 obtain⟨hh,h,Uz⟩:=ly bH h
 obtain⟨l,h,Jx⟩:=ly bH h
 obtain⟨hb,h⟩:=h.out
 refine⟨_,fun w=>?_,h⟩
 have hr:=GC (P:=P) (isS:=true) (n:=n) (c:=c) Jx Uz hm h3 hb w
 simp only[execOp,ho,Instr.sliceAt,Sem.run_bind,ar ht,Result.andThen_ok,Instr.slice,hx,hr,bL hie,Sem.run_pure]
 by_cases hml:m=l
 ·subst hml;simp
 ·rw[if_neg hml,if_neg (by omega)]
theorem Mj{t:TypeId}{x:Operand}{lo hi:Option Operand}(bH:bR ev a)(ho:o.op= .slice t x lo hi none)(ht:P.underlying t=some .string)
  (h:(dh.J4 x lo hi).vc P ev H K):dY P o a H K:=by
 obtain⟨s,hx,h⟩:=mL (aW bH h)
 obtain⟨hh,h,Uz⟩:=ly bH h
 obtain⟨l,h,Jx⟩:=ly bH h
 obtain⟨hb,h⟩:=h.out
 refine⟨_,fun w=>?_,h⟩
 have hr:=GC (P:=P) (isS:=false) (n:=s.size) (c:=s.size) (m:=s.size) (mx:=none) Jx Uz (.inl ⟨rfl,rfl⟩) (by simp) ⟨hb.1,hb.2.1,hb.2.2,apI _⟩ w
 simp only[Option.map_none]at hr
 simp only[execOp,ho,Instr.sliceAt,Sem.run_bind,ar ht,Result.andThen_ok,Instr.slice,hx,hr,Sem.run_pure,Option.map_none,Option.isSome_none,api,if_false]
theorem Ka(vs:List Value):∀ (n off:Nat) (z:Array Value),((vs.zipIdx n).foldl (fun cs (c,j)=>cs.setIfInBounds (off+j) c) z).toList=bk z.toList (off+n) vs:=by
 induction vs with
 |nil=>intro n off z;rfl
 |cons v vs ih=>
  intro n off z
  rw[List.zipIdx_cons,List.foldl_cons,oF]
  have:=ih (n+1) off (z.setIfInBounds (off+n) v)
  rw[this]
  simp[aqt]
theorem fill_eq{place:Nat→Option (Nat×Nat)}:∀ (ps:List (Nat×Operand)) (qs:List (Nat×Nat×Operand)) (z:Array Value) (F:List Value→Prop),
  List.length ps=List.length qs→(∀ (j i:Nat) (x:Operand),ps[j]? =some (i,x)→∃off size:Nat,qs[j]? =some (off,size,x)∧place i=some (off,size)∧off+size≤z.size)→bR ev a→BP ev z.toList qs F→
   ∃z':Array Value,Instr.fill place z (ps.map fun(i,x)=>(i,a.eval x))=some z'∧F z'.toList:=by
 intro ps
 induction ps with
 |nil=>
  intro qs z F hl hp bH h
  cases qs with
  |nil=>exact⟨z,rfl,h⟩
  |cons q qs=>simp at hl
 |cons p ps ih=>
  intro qs z F hl hp bH h
  obtain⟨i,x⟩:=p
  cases qs with
  |nil=>simp at hl
  |cons q qs=>
   obtain⟨off,size,hq,OV,nT⟩:=hp 0 i x rfl
   simp only[aoM,aos]at hq
   subst hq
   obtain⟨hn,h⟩:=(aW bH h).out
   have PD:(a.eval x).cells.size=size:=by rw[←hn,←eI];simp
   rw[ao6,Instr.fill]
   simp only[OV,PD,ne_eq,not_true_eq_false,decide_false,aqs,aoL]
   rw[if_neg (by omega)]
   have VY:((a.eval x).cells.zipIdx.foldl (fun cs (c,j)=>cs.setIfInBounds (off+j) c) z).toList=bk z.toList off (aI (a.eval x)):=by
    have:=Ka (a.eval x).cells.toList 0 off z
    rw[eI]at this
    rw[←Array.foldl_toList,Array.toList_zipIdx,eI]
    simpa using this
   refine ih qs _ F (by simpa using hl) (fun j i' x' hj=>?_) bH (by rw[VY];exact h)
   obtain⟨aho,acN,hq',ahp,ahq⟩:=hp (j+1) i' x' (by simpa using hj)
   refine⟨aho,acN,by simpa using hq',ahp,?_⟩
   have:((a.eval x).cells.zipIdx.foldl (fun cs (c,j)=>cs.setIfInBounds (off+j) c) z).size=z.size:=by
    rw[←Array.length_toList,VY,kw,Array.length_toList]
   rw[this];exact ahq
end
end Go.Vc

namespace Go.Vc
section
variable {P : Program} {o : Oper} {a : Act} {ev : Ev} {H : Hp} {K : Value → Hp → Prop}
theorem sr{place:Nat→Option (Nat×Nat)}{J8:Nat}:∀ (ps:List (Nat×Operand)) (qs:List (Nat×Nat×Operand)),kB place J8 ps=some qs→
  ps.length=qs.length∧∀ (j i:Nat) (x:Operand),ps[j]? =some (i,x)→∃off size:Nat,qs[j]? =some (off,size,x)∧place i=some (off,size)∧off+size≤J8:=by
 intro ps
 induction ps with
 |nil=>intro qs h;simp only[kB,aos]at h;subst h;simp
 |cons p ps ih=>
  intro qs h
  obtain⟨i,x⟩:=p
  unfold kB at h
  split at h
  ·cases h
  ·rename_i off size OV
   split at h
   ·rename_i nT
    cases hr:kB place J8 ps with
    |none=>rw[hr]at h;cases h
    |some qs'=>
     rw[hr]at h
     simp only[Option.map_some,aos]at h
     subst h
     obtain⟨h1,h2⟩:=ih qs' hr
     refine⟨by simp[h1],fun j i' x' hj=>?_⟩
     cases j with
     |zero=>
      simp only[aoM,aos,Prod.mk.injEq]at hj
      obtain⟨rfl,rfl⟩:=hj
      exact⟨off,size,rfl,OV,nT⟩
     |succ j=>exact h2 j i' x' (by simpa using hj)
   ·cases h
theorem Mk(fs:List Field)(h:∀f∈fs,(P.info? f.type).isSome=true)(w:World):
  (fs.mapM fun f=>(do pure (f.offset,←sizeOf f.type):Sem (Nat×Nat))).run P w= .ok (fs.map fun f=>(f.offset,P.cellsOf f.type)) w:=by
 induction fs with
 |nil=>rfl
 |cons f fs ih=>
  rw[List.mapM_cons]
  simp only[Sem.run_bind,bL (h f ao5),Result.andThen_ok,Sem.run_pure,ih fun g hg=>h g (aoQ _ hg),ao6]
theorem BT(ps:Array (Nat×Operand)):(ps.map fun(i,x)=>(i,a.eval x)).toList=ps.toList.map fun(i,x)=>(i,a.eval x):=by simp
theorem Of{t:TypeId}{z:Value}{ps:Array (Nat×Operand)}{qs:List (Nat×Nat×Operand)}(bH:bR ev a)(ho:o.op= .build t ps)(hz:fF P t=some z)
  (hq:parts P t (aI z).length ps.toList=some qs)(h:(dh.build (aI z) qs).vc P ev H K):dY P o a H K:=by
 have Og:z.cells.toList=aI z:=eI z
 have OI:z.cells.size=(aI z).length:=by rw[←Og];simp
 unfold parts at hq
 split at hq
 ·rename_i fields hu
  split at hq
  ·rename_i hk
   obtain⟨h1,h2⟩:=sr _ _ hq
   obtain⟨z',hf,Lc⟩:=fill_eq (a:=a) (ev:=ev) (place:=((placeOf P fields)[·]?)) ps.toList qs z.cells (fun l=>K (.agg l.toArray) H) h1
    (fun j i x hj=>by obtain⟨off,size,e1,e2,e3⟩:=h2 j i x hj;exact⟨off,size,e1,e2,by omega⟩) bH (by rw[Og];exact h)
   refine⟨.agg z',fun w=>?_,by simpa using Lc⟩
   have OV:(fields.mapM fun f=>(do pure (f.offset,←sizeOf f.type):Sem (Nat×Nat))).run P w= .ok (placeOf P fields) w:=by
    rw[Array.mapM_eq_mapM_toList,Sem.run_map,Mk fields.toList (fun f hf=>by
     have:=(apO.1 hk) f (by simpa using hf);exact this) w]
    simp only[Result.andThen_ok]
    congr 1
    apply Array.ext'
    simp[placeOf]
   simp only[execOp,ho,Instr.build,Sem.run_bind,cK hz,ar hu,Result.andThen_ok,OV,BT,hf,Sem.run_pure]
  ·cases hq
 ·rename_i n e hu
  split at hq
  ·rename_i hi
   obtain⟨h1,h2⟩:=sr _ _ hq
   obtain⟨z',hf,Lc⟩:=fill_eq (a:=a) (ev:=ev) (place:=fun i=>some (i*P.cellsOf e,P.cellsOf e)) ps.toList qs z.cells (fun l=>K (.agg l.toArray) H) h1
    (fun j i x hj=>by obtain⟨off,size,e1,e2,e3⟩:=h2 j i x hj;exact⟨off,size,e1,e2,by omega⟩) bH (by rw[Og];exact h)
   refine⟨.agg z',fun w=>?_,by simpa using Lc⟩
   simp only[execOp,ho,Instr.build,Sem.run_bind,cK hz,ar hu,Result.andThen_ok,bL hi,BT,hf,Sem.run_pure]
  ·cases hq
 ·cases hq
theorem BU{z:Array Value}{n size:Nat}(hs:z.size=size)(h0:size≠0):((Array.range (n*size)).map (z[· %z.size]!)).toList=cE z.toList n:=by
 subst hs
 induction n with
 |zero=>simp[cE]
 |succ n ih=>
  apply ao8
  intro i
  have hp:cE z.toList (n+1)=cE z.toList n++z.toList:=by simp[cE,aqn]
  have aZ:(cE z.toList n).length=n*z.size:=by rw[←ih];simp
  rw[hp]
  by_cases hi:i<n*z.size
  ·rw[aox (by omega),←ih]
   have:i< (n+1)*z.size:=by rw[apB];omega
   simp[hi,this]
  ·rw[aoK (by omega),aZ]
   by_cases my:i< (n+1)*z.size
   ·have qN:i - n*z.size<z.size:=by rw[apB]at my;omega
    have TQ:i%z.size=i - n*z.size:=by
     have e:i=(i - n*z.size)+z.size*n:=by rw[Nat.mul_comm z.size n];omega
     rw[e,Nat.add_mul_mod_self_left,Nat.mod_eq_of_lt qN]
     rw[Nat.mul_comm z.size n];omega
    simp[my,TQ,qN]
   ·have:z.size≤i - n*z.size:=by rw[apB]at my;omega
    simp[my,this]
theorem DH(z:List Value)(n:Nat):(cE z n).length=n*z.length:=by simp[cE]
theorem SX{t e:TypeId}{n:Nat}{z:Value}{ps:Array (Nat×Operand)}{qs:List (Nat×Nat×Operand)}(bH:bR ev a)(ho:o.op= .buildSlice t n ps)(ht:P.underlying t=some (.slice e))
  (hz:fF P e=some z)(hi:(P.info? e).isSome=true)(h0:P.cellsOf e≠0)(hl:(aI z).length=P.cellsOf e)(hm:n*P.cellsOf e≤2^24)
  (hq:kB (fun i=>some (i*P.cellsOf e,P.cellsOf e)) (n*P.cellsOf e) ps.toList=some qs)(h:(dh.lit e n (cE (aI z) n) qs).vc P ev H K):dU P o a H K:=by
 have Og:z.cells.toList=aI z:=eI z
 have OI:z.cells.size=P.cellsOf e:=by rw[←hl,←Og];simp
 intro w hw
 subst hw
 obtain⟨h1,h2⟩:=sr _ _ hq
 have JX:∀ (zz:Array Value),(n*P.cellsOf e=0∨zz=z.cells)→((Array.range (n*P.cellsOf e)).map (zz[· %zz.size]!)).toList=cE (aI z) n:=by
  intro zz ZD
  rcases ZD with ZD|rfl
  ·have:n=0:=by
    rcases Nat.mul_eq_zero.1 ZD with h|h
    ·exact h
    ·exact absurd h h0
   subst this
   simp[cE]
  ·rw[BU OI h0,Og]
 have main:∀zz:Array Value,(n*P.cellsOf e=0∨zz=z.cells)→∃z':Array Value,Instr.fill (fun i=>some (i*P.cellsOf e,P.cellsOf e)) ((Array.range (n*P.cellsOf e)).map (zz[· %zz.size]!)) (ps.toList.map fun(i,x)=>(i,a.eval x))=some z'∧
   K (.slice (some ⟨w.heap.size,0,none⟩) n n) (Hp.new w.heap e z'.toList):=by
  intro zz ZD
  exact fill_eq (a:=a) (ev:=ev) ps.toList qs _ (fun l=>K (.slice (some ⟨w.heap.size,0,none⟩) n n) (Hp.new w.heap e l)) h1
   (fun j i x hj=>by obtain⟨off,size,e1,e2,e3⟩:=h2 j i x hj;exact⟨off,size,e1,e2,by simpa using e3⟩) bH (by rw[JX zz ZD];exact h)
 by_cases hn:n*P.cellsOf e=0
 ·obtain⟨z',hf,hk⟩:=main #[] (.inl hn)
  refine .inl ⟨.slice (some ⟨w.heap.size,0,none⟩) n n,{w with heap:=Hp.new w.heap e z'.toList},?_,⟨rfl,rfl⟩,hk⟩
  simp only[execOp,ho,Instr.buildSlice,Sem.run_bind,ar ht,bL hi,Result.andThen_ok]
  rw[if_neg (by omega),if_pos hn]
  simp only[Sem.run_pure,Result.andThen_ok,Sem.run_bind,BT,hf,lu]
 ·obtain⟨z',hf,hk⟩:=main z.cells (.inr rfl)
  refine .inl ⟨.slice (some ⟨w.heap.size,0,none⟩) n n,{w with heap:=Hp.new w.heap e z'.toList},?_,⟨rfl,rfl⟩,hk⟩
  simp only[execOp,ho,Instr.buildSlice,Sem.run_bind,ar ht,bL hi,Result.andThen_ok]
  rw[if_neg (by omega),if_neg hn]
  simp only[Sem.run_pure,Result.andThen_ok,Sem.run_bind,cK hz,BT,hf,lu]
theorem SY{t:TypeId}{x:Operand}(bH:bR ev a)(ho:o.op= .box t x)(h:(dh.box t x).vc P ev H K):dU P o a H K:=by
 intro w hw
 subst hw
 have h:=aW bH h
 refine .inl ⟨_,{w with heap:=Hp.new w.heap t (aI (a.eval x))},?_,⟨rfl,rfl⟩,h⟩
 simp[execOp,ho,Instr.box,DM]
theorem QE{t:TypeId}{z:Value}(hz:fF P t=some z)(ho:o.op= .alloc t)(h:(dh.zero t (aI z)).vc P ev H K):dU P o a H K:=by
 intro w hw
 subst hw
 refine .inl ⟨_,{w with heap:=Hp.new w.heap t (aI z)},?_,⟨rfl,rfl⟩,h⟩
 simp[execOp,ho,Instr.alloc,DM,cK hz]
theorem Oh{t:TypeId}{x:Operand}(bH:bR ev a)(ho:o.op= .load t x)(hi:(P.info? t).isSome=true)(hu:(P.underlying t).isSome=true)(hg:eU P t=false)
  (h:(dh.aj x).vc P ev H K):dU P o a H K:=by
 intro w hw
 subst hw
 obtain⟨b,off,hx,h⟩:=fi (aW bH h)
 obtain⟨l,hl,h⟩:=aA h
 obtain⟨v,hv,h⟩:=aA h
 refine .inl ⟨v,w,?_,cf.refl w,h⟩
 simp[execOp,ho,Instr.loadAt,hx,Instr.sureAddr,(jw hi hu hl).2 hg v hv]
theorem Oi{t:TypeId}{x:Operand}(bH:bR ev a)(ho:o.op= .load t x)(hi:(P.info? t).isSome=true)(hu:(P.underlying t).isSome=true)(hg:eU P t=true)
  (h:(dh.da (P.cellsOf t) x).vc P ev H K):dU P o a H K:=by
 intro w hw
 subst hw
 obtain⟨b,off,hx,h⟩:=fi (aW bH h)
 obtain⟨l,hl,h⟩:=aA h
 obtain⟨hn,h⟩:=h.out
 refine .inl ⟨_,w,?_,cf.refl w,h⟩
 simp only[execOp,ho,Instr.loadAt,hx,Instr.sureAddr,Sem.run_bind,Sem.run_pure,Result.andThen_ok,(jw hi hu hl).1 hg hn]
theorem Oj{t:TypeId}{x y:Operand}(bH:bR ev a)(ho:o.op= .store t x y)(hi:(P.info? t).isSome=true)(h0:P.cellsOf t≠0)
  (h:(dh.store (P.cellsOf t) x y).vc P ev H K):dU P o a H K:=by
 intro w hw
 subst hw
 obtain⟨b,off,hx,h⟩:=fi (aW bH h)
 obtain⟨l,hl,h⟩:=aA (aW bH h)
 obtain⟨h1,h⟩:=h.out
 obtain⟨h2,h⟩:=h.out
 obtain⟨h3,h⟩:=h.out
 obtain⟨w',hr,hs,hh⟩:=Iq (v:=a.eval y) hi h0 hl h1 (Qx h2) h3
 refine .inr (.inl ⟨w',?_,hs,hh▸h⟩)
 simp[execOp,ho,Instr.storeAt,hx,Instr.sureAddr,hr]
theorem Ml{t:TypeId}(ho:o.op= .makeMap t none)(h:dh.ni.vc P ev H K):dU P o a H K:=by
 intro w hw
 subst hw
 refine .inl ⟨_,{w with heap:=Hp.im w.heap},?_,⟨rfl,rfl⟩,h⟩
 simp only[execOp,ho,Option.map_none,Instr.makeMap,Sem.run_bind,Sem.run_pure,Result.andThen_ok,run_newObj,Hp.im]
theorem wrap_i64{n:Int}(h0:0≤n)(h1:n≤2^62):IntKind.i64.wrap n=n:=by
 have e:(2^IntKind.i64.bits:Int)=18446744073709551616:=rfl
 have e':(2^ (IntKind.i64.bits - 1):Int)=9223372036854775808:=rfl
 unfold IntKind.wrap
 simp only[e,e',IntKind.signed,apz,aoL]
 split<;>omega
theorem GD{t e:TypeId}{z:Value}{x y:Operand}(bH:bR ev a)(ho:o.op= .makeSlice t x y)(ht:P.underlying t=some (.slice e))(hz:fF P e=some z)
  (hi:(P.info? e).isSome=true)(h0:P.cellsOf e≠0)(hl:(aI z).length=P.cellsOf e)(h:(dh.makeSlice e (P.bytesOf e) (P.cellsOf e) (aI z) x y).vc P ev H K):dU P o a H K:=by
 intro w hw
 subst hw
 have h:=aW bH (aW bH h)
 obtain⟨k,n,hx,h⟩:=iL h
 obtain⟨k',c,hy,h⟩:=iL h
 obtain⟨⟨h1,h2,h3,h4⟩,h⟩:=h.out
 refine .inl ⟨_,{w with heap:=Hp.new w.heap e (cE (aI z) c.toNat)},?_,⟨rfl,rfl⟩,h⟩
 obtain⟨i,hi'⟩:=Option.isSome_iff_exists.1 hi
 have hb:i.bytes=P.bytesOf e:=by simp[Program.bytesOf,hi']
 have Og:z.cells.toList=aI z:=eI z
 have OI:z.cells.size=P.cellsOf e:=by rw[←hl,←Og];simp
 have w1:=wrap_i64 h1 (by omega:n≤2^62)
 have w2:=wrap_i64 (by omega:0≤c) (by omega:c≤2^62)
 simp only[execOp,ho,Instr.makeSlice,Sem.run_bind,ar ht,Result.andThen_ok,hx,hy,asInt,asIntOf,Sem.run_pure,ed hi',hb,w1,w2,run_askRoom,bL hi]
 have t1:(decide (c<0) || decide ((P.bytesOf e:Int)*c>2^48))=false:=by simp;omega
 rw[if_neg (by simp only[t1,api,false_or,ap6,aoL];omega)]
 simp only[Sem.run_bind,run_askRoom,Result.andThen_ok,bL hi]
 by_cases hn:c.toNat*P.cellsOf e=0
 ·have kE:c.toNat=0:=by rcases Nat.mul_eq_zero.1 hn with h|h;exact h;exact absurd h h0
  rw[if_pos hn]
  simp only[kE,ao0,Sem.run_bind,Sem.run_pure,Result.andThen_ok,lu]
  simp[cE]
 ·rw[if_neg hn]
  simp only[Sem.run_bind,cK hz,Sem.run_pure,Result.andThen_ok,lu,BU OI h0,Og]
theorem EU{H:Hp}{b:Nat}{x:List MapEntry×Nat}(h:H.mp b=some x):∃es:Array MapEntry,H[b]? =some (.map es x.2)∧es.toList=x.1:=by
 unfold Hp.mp at h
 split at h
 ·rename_i es k hb;injection h with h;exact⟨es,by rw[hb,←h],by rw[←h]⟩
 ·cases h
theorem oG{w:World}{b:Nat}{es:Array MapEntry}{k:Nat}(h:w.heap[b]? =some (.map es k)):(getObj b).run P w= .ok (.map es k) w:=by simp[getObj,Sem.run,h]
theorem oH{w:World}{b:Nat}{es VZ:Array MapEntry}{k k':Nat}(h:w.heap[b]? =some (.map es k)):
  (setObj b (.map VZ k')).run P w= .ok () {w with heap:=Hp.Dw w.heap b VZ.toList k'}:=by
 simp[setObj,Sem.run,h,Hp.Dw]
theorem sW{t:TypeId}{s:Shape}(h:cC P t=some s)(hs:∀fs,s≠ .s fs):shapeOf P eV t=some s∧kA s=true:=by
 unfold cC at h
 split at h
 ·injection h with h;subst h;simp[shapeOf,eV, *,kA]
 ·injection h with h;subst h;simp[shapeOf,eV, *,kA]
 ·injection h with h;subst h;simp[shapeOf,eV, *,kA]
 ·split at h
  ·split at h
   ·injection h with h;exact absurd h.symm (hs _)
   ·cases h
  ·cases h
 ·cases h
theorem GF{t:TypeId}{s:Shape}(h:cC P t=some s):shapeOf P eV t=some s:=by
 by_cases hs:∃fs,s= .s fs
 ·obtain⟨fs,rfl⟩:=hs
  unfold cC at h
  split at h
  ·cases h
  ·cases h
  ·cases h
  ·split at h
   ·split at h
    ·injection h with h;injection h with h;subst h;assumption
    ·cases h
   ·cases h
  ·cases h
 ·exact(sW h fun fs e=>hs ⟨fs,e⟩).1
theorem sX{d:Nat}{t:TypeId}{s:Shape}(h:shapeOf P d t=some s)(hk:kA s=true)(v:Value)(e:Bool)(n:Nat)(w:World):(Instr.checkKey e (n+1) t v).run P w= .ok () w:=by
 cases d with
 |zero=>simp[shapeOf]at h
 |succ d=>
  rw[gv]at h
  split at h
  ·injection h with h;subst h;simp[Instr.checkKey,ar ‹P.underlying t=_›]
  ·injection h with h;subst h;simp[Instr.checkKey,ar ‹P.underlying t=_›]
  ·injection h with h;subst h;simp[Instr.checkKey,ar ‹P.underlying t=_›]
  case h_9=>
   split at h
   ·cases h
   ·rename_i fs _ _
    cases hr:fg P d fs.toList with
    |none=>rw[hr]at h;cases h
    |some l=>rw[hr]at h;injection h with h;subst h;simp[kA]at hk
  all_goals first| (cases h;done)| (injection h with h;subst h;simp[kA]at hk)
theorem EJ{d:Nat}(e:Bool)(n:Nat)(xs:List Value):∀ (fs:List Field) (l:List (Nat×Option Nat×Shape)),fg P d fs=some l→
  (l.all fun(off,agg,sh)=>agg.isNone && kA sh)=true→(∀q∈l,(xs[q.1]?).isSome=true)→∀w:World,
  (forIn fs PUnit.unit fun f (_:PUnit)=>(do
   if f.name≠ "_" then Instr.checkKey e (n+1) f.type (←part f.type xs.toArray f.offset)
   pure (ForInStep.yield PUnit.unit):Sem (ForInStep PUnit))).run P w= .ok PUnit.unit w:=by
 intro fs
 induction fs with
 |nil=>intro l _ _ _ w;simp
 |cons f fs ih=>
  intro l hl ha hx w
  rw[pk]at hl
  split at hl
  ·cases hl
  ·rename_i SU
   split at hl
   ·cases hl
   ·rename_i sh Gs
    cases hr:fg P d fs with
    |none=>rw[hr]at hl;cases hl
    |some l'=>
     rw[hr]at hl
     simp only[Option.map_some,aos]at hl
     subst hl
     rw[List.all_cons]at ha
     simp only[ao7]at ha
     obtain⟨⟨h1,h2⟩,h3⟩:=ha
     have ahr:eU P f.type=false:=by
      cases hb:eU P f.type
      ·rfl
      ·simp[hb]at h1
     obtain⟨v,hv⟩:=Option.isSome_iff_exists.1 (hx _ ao5)
     have hu:(P.underlying f.type).isSome=true:=by
      cases d with
      |zero=>simp[shapeOf]at Gs
      |succ d=>rw[gv]at Gs;split at Gs<;>first| (cases Gs;done)|simp_all
     have hp:=vR (P:=P) (l:=xs) (t:=f.type) (off:=f.offset) (v:=v) (info_of_underlying hu) hu (by rw[ahr];simpa[ee]using hv) w
     simp only[List.forIn_cons,SU,ne_eq,not_false_eq_true,if_true,Sem.run_bind,hp,Result.andThen_ok,sX Gs h2,Sem.run_pure]
     exact ih l' hr h3 (fun q hq=>hx q (aoQ _ hq)) w
theorem GG{t:TypeId}{s:Shape}{k:Value}(h:cC P t=some s)(hk:Bz s k=true)(e:Bool)(n:Nat)(w:World):(Instr.checkKey e (n+1+1) t k).run P w= .ok () w:=by
 by_cases hs:∃fs,s= .s fs
 ·obtain⟨l,rfl⟩:=hs
  have h':=h
  unfold cC at h
  split at h
  ·cases h
  ·cases h
  ·cases h
  ·rename_i fs hu
   split at h
   ·split at h
    ·rename_i l' Gs cX
     injection h with h;injection h with h;subst h
     cases k with
     |agg xs=>
      simp only[show eV=7+1 from rfl,gv,hu]at Gs
      split at Gs
      ·cases Gs
      ·cases hr:fg P 7 fs.toList with
       |none=>rw[hr]at Gs;cases Gs
       |some l=>
        rw[hr]at Gs
        simp only[Option.map_some,aos,Shape.s.injEq]at Gs
        subst Gs
        rw[Instr.checkKey]
        simp only[Sem.run_bind,ar hu,Result.andThen_ok]
        rw[←Array.forIn_toList]
        have:=EJ (P:=P) e n xs.toList fs.toList l hr cX (fun q hq=>by
         have h1:=(apn.1 hk) q hq
         obtain⟨off,agg,sh⟩:=q
         simp only[ao7]at h1
         have h2:=h1.2
         cases hx:(xs.toList)[off]? with
         |none=>rw[show xs[off]? =none by simpa using hx]at h2;cases sh<;>simp at h2
         |some v=>rfl) w
        simp only[apT]at this
        rw[this]
        rfl
     |_=>simp[Bz]at hk
    ·cases h
   ·cases h
  ·cases h
 ·obtain⟨h1,h2⟩:=sW h fun fs e=>hs ⟨fs,e⟩
  exact sX h1 h2 k e (n+1) w
theorem ic{t:TypeId}{s:Shape}{k:Value}(h:cC P t=some s)(hk:Bz s k=true)(e:Bool)(w:World):(Instr.checkKey e 10000 t k).run P w= .ok () w:=
 GG h hk e 9998 w
theorem GH{t:TypeId}{s:Shape}{k:Value}(h:shapeOf P eV t=some s):∀ (es:List MapEntry) (i:Nat) (r:Option (Nat×Value)),fX s k es i=some r→∀w:World,
  (Instr.findAsking t k es i).run P w= .ok r w:=by
 intro es
 induction es with
 |nil=>intro i r hr w;simp only[fX,aos]at hr;subst hr;rfl
 |cons e es ih=>
  intro i r hr w
  unfold fX at hr
  have he:∀b,nZ s k e.key=some b→(Op.equal t k e.key).run P w= .ok b w:=by
   intro b hb
   unfold Op.equal Op.maxDepth
   have:=(BS (P:=P) eV).1 t s k e.key b h hb (10000 - eV) w
   simpa[eV]using this
  split at hr
  ·rename_i hb
   injection hr with hr;subst hr
   simp[Instr.findAsking,he true hb]
  ·rename_i hb
   simp[Instr.findAsking,he false hb,ih (i+1) r hr w]
  ·cases hr
theorem Dn{d:TypeDesc}{s:Shape}{k:Value}(hd:(∃q,d= .int q∧s= .int)∨(d= .string∧s= .str)∨(d= .bool∧s= .bool)):∀ (es:List MapEntry) (i:Nat) (r:Option (Nat×Value)),
  fX s k es i=some r→Instr.findNow d k es i=some r:=by
 intro es
 induction es with
 |nil=>intro i r hr;simpa[fX,Instr.findNow]using hr
 |cons e es ih=>
  intro i r hr
  unfold fX at hr
  unfold Instr.findNow
  have Iw:∀b,nZ s k e.key=some b→Instr.sameNow d k e.key=some b:=by
   intro b hb
   rcases hd with ⟨q,rfl,rfl⟩| ⟨rfl,rfl⟩| ⟨rfl,rfl⟩
   ·cases k<;>cases hk:e.key<;>simp only[hk,nZ,bj]at hb<;>first| (cases hb;done)|skip
    exact hb
   ·cases k<;>cases hk:e.key<;>simp only[hk,nZ,bj]at hb<;>first| (cases hb;done)|skip
    simpa[Instr.sameNow,beq_toListBytes]using hb
   ·cases k<;>cases hk:e.key<;>simp only[hk,nZ,bj]at hb<;>first| (cases hb;done)|skip
    simpa[Instr.sameNow]using hb
  split at hr
  ·rename_i hb;rw[Iw true hb];exact hr
  ·rename_i hb;rw[Iw false hb];exact ih _ _ hr
  ·cases hr
theorem jx{t:TypeId}{s:Shape}{k:Value}{es:List MapEntry}{r:Option (Nat×Value)}(h:cC P t=some s)(hr:fX s k es 0=some r)(w:World):
  (Instr.findKey t k es).run P w= .ok r w:=by
 have Gs:=GF h
 unfold Instr.findKey
 have hu:∃d,P.underlying t=some d:=by
  unfold cC at h
  split at h<;>first|exact⟨_, ‹_›⟩|cases h
 obtain⟨d,hu⟩:=hu
 simp only[Sem.run_bind,ar hu,Result.andThen_ok]
 by_cases hs:∃fs,s= .s fs
 ·obtain⟨l,rfl⟩:=hs
  have hd:∃fs,d= .struct fs:=by
   unfold cC at h
   rw[hu]at h
   split at h
   ·cases h
   ·cases h
   ·cases h
   ·rename_i he;injection he with he;exact⟨_,he⟩
   ·cases h
  obtain⟨fs,rfl⟩:=hd
  cases es with
  |nil=>simp only[fX,aos]at hr;subst hr;rfl
  |cons e es=>
   have:Instr.findNow (.struct fs) k (e::es) 0=none:=by simp[Instr.findNow,Instr.sameNow]
   rw[this]
   exact GH Gs _ _ _ hr w
 ·have hd:(∃q,d= .int q∧s= .int)∨(d= .string∧s= .str)∨(d= .bool∧s= .bool):=by
   unfold cC at h
   rw[hu]at h
   split at h
   ·rename_i q he;injection he with he;injection h with h;exact .inl ⟨q,he,h.symm⟩
   ·rename_i he;injection he with he;injection h with h;exact .inr (.inl ⟨he,h.symm⟩)
   ·rename_i he;injection he with he;injection h with h;exact .inr (.inr ⟨he,h.symm⟩)
   ·split at h
    ·split at h
     ·injection h with h;exact absurd ⟨_,h.symm⟩ hs
     ·cases h
    ·cases h
   ·cases h
  rw[Dn hd es 0 r hr]
  rfl
end
end Go.Vc
