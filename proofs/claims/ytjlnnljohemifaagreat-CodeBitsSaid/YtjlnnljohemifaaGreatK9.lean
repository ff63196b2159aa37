/- Texts put behind each other. -/
import Derived.Test.YtjlnnljohemifaaGreatK98
import Derived.Test.YtjlnnljohemifaaGreatK8
set_option maxRecDepth 100000
set_option maxHeartbeats 8000000
set_option linter.unusedVariables false
namespace Go.Vc
def cr(P:Program)(t:TypeId):Option Shape:=
 match P.underlying t with
 |some (.int _)=>some .int
 |some .string=>some .str
 |some .bool=>some .bool
 |some (.struct _)=>
  match shapeOf P eI t with
  |some (.s l)=>if l.all (fun(off,agg,sh)=>agg.isNone && j9 sh)then some (.s l)else none
  |_=>none
 |_=>none
def UJ:Shape→Bool| .s _=>false|_=>true
def E1:TypeDesc→Bool| .slice _=>true| .string=>true|_=>false
def Ic(P:Program)(o:Oper):Option da:=
 match o.op with
 | .move x=>some (.au x)
 | .assign x=>some (.au x)
 | .pick c a b=>some (.pick c a b)
 | .box T x=>some (.box T x)
 | .alloc T=>(fg P T).map fun z=>.zero T (aH z)
 | .build t ps=>(fg P t).bind fun z=>(parts P t (aH z).length ps.toList).map (.build (aH z))
 | .buildSlice t n ps=>
  match P.underlying t with
  |some (.slice e)=>(fg P e).bind fun z=>
   if(P.info? e).isSome∧P.cellsOf e≠0∧(aH z).length=P.cellsOf e∧n*P.cellsOf e≤2^24 then
    (j8 (fun i=>some (i*P.cellsOf e,P.cellsOf e)) (n*P.cellsOf e) ps.toList).map (.lit e n (cA (aH z) n))
   else none
  |_=>none
 | .load t x=>if(P.info? t).isSome∧(P.underlying t).isSome then(if eG P t then some (.eD (P.cellsOf t) x)else some (.aj x))else none
 | .store t x v=>if(P.info? t).isSome∧P.cellsOf t≠0 then some (.store (P.cellsOf t) x v)else none
 | .nilCheck x=>some (.nilCheck x)
 | .binOp op t x y _=>
  match op with
  | .eql| .neq=>
   match P.underlying t,y with
   |some (.interface _),.const .nilIface=>some (.Tp (match op with| .neq=>true|_=>false) x)
   |_,_=>(shapeOf P eI t).bind fun s=>if UJ s=true∨P.eqGuardType P.depth t=false then some (.jz op s x y)else none
  |_=>some (.jz op .int x y)
 | .unOp op _ x=>some (.un op x)
 | .convert src dst x=>
  match P.underlying src,P.underlying dst with
  |some (.int _),some (.int k)=>some (.conv k x)
  |some (.slice e),some .string=>(match P.underlying e with|some (.int .u8)=>some (.NV x)|_=>none)
  |some .string,some (.slice e)=>(match P.underlying e with|some (.int .u8)=>some (.IT e x)|_=>none)
  |_,_=>none
 | .makeInterface t x=>match P.underlying t with|some (.interface _)=>none|some _=>some (.iface t x)|none=>none
 | .makeFunc fn first captured=>some (.func fn first.toList captured.toList)
 | .makeMap t none=>some .mP
 | .makeSlice t n c=>
  match P.underlying t with
  |some (.slice e)=>(fg P e).bind fun z=>if(P.info? e).isSome∧P.cellsOf e≠0∧(aH z).length=P.cellsOf e then some (.makeSlice e (P.bytesOf e) (P.cellsOf e) (aH z) n c)else none
  |_=>none
 | .slice t x lo hi mx=>
  match P.underlying t with
  |some (.slice e)=>if(P.info? e).isSome∧(mx.isNone∨hi.isSome)then some (.slice (P.cellsOf e) x lo hi mx)else none
  |some .string=>if mx.isNone then some (.IU x lo hi)else none
  |_=>none
 | .fieldAddr s x f=>
  match P.underlying s with
  |some (.struct fields)=>(fields[f]?).bind fun fd=>if(P.info? fd.type).isSome∧P.cellsOf fd.type≠0 then some (.fieldAddr fd.offset x)else none
  |_=>none
 | .field t x f=>
  match P.underlying t with
  |some (.struct fields)=>(fields[f]?).bind fun fd=>if(P.info? fd.type).isSome∧(P.underlying fd.type).isSome then some (.field fd.offset (if eG P fd.type then some (P.cellsOf fd.type)else none) x)else none
  |_=>none
 | .indexAddr t x i=>
  match P.underlying t with
  |some (.slice e)=>if(P.info? e).isSome then some (.indexAddr (P.cellsOf e) x i)else none
  |some (.array n e)=>if(P.info? e).isSome then some (.zO n (P.cellsOf e) x i)else none
  |_=>none
 | .index t x i=>match P.underlying t with|some .string=>some (.IV x i)|_=>none
 | .lookup t x i ok=>
  match P.underlying t with
  |some (.map k e)=>(cr P k).bind fun s=>(fg P e).map fun z=>.lookup s z ok x i
  |_=>none
 | .mapUpdate t m k v=>match P.underlying t with|some (.map kt _)=>(cr P kt).map fun s=>.update s m k v|_=>none
 | .extract x i=>some (.extract i x)
 | .typeAssert x _ T false=>(match P.underlying T with|some (.interface _)=>none|some _=>some (.IW T x)|none=>none)
 | .call c=>
  match c.callee with
  | .value (.func f)=>if ef P f then some (.call f c.args.toList)else some (.ext f c.args.toList)
  | .value x=>some (.dyn x c.args.toList)
  | .invoke r name=>some (.invoke r name c.args.toList)
  | .builtin .len=>
   match c.args.toList,(c.argTypes[0]?).bind P.underlying with
   | [x],some (.slice _)=>some (.xW x)
   | [x],some .string=>some (.Tj x)
   | [x],some (.map _ _)=>some (.Tk x)
   |_,_=>none
  | .builtin .append=>
   match c.args.toList,(c.argTypes[0]?).bind P.underlying,(c.argTypes[1]?).bind P.underlying with
   | [x,y],some (.slice e),some d=>(fg P e).bind fun z=>
    if(P.info? e).isSome∧P.cellsOf e≠0∧(aH z).length=P.cellsOf e∧P.bytesOf e≠0∧E1 d=true then
     some (.append e (P.cellsOf e) (P.bytesOf e) (aH z) x y)else none
   |_,_,_=>none
  | .builtin .delete=>
   match c.args.toList,(c.argTypes[0]?).bind P.underlying with
   | [m,k],some (.map kt _)=>(cr P kt).map fun s=>.delete s m k
   |_,_=>none
  | .builtin .clear=>
   match c.args.toList,(c.argTypes[0]?).bind P.underlying with
   | [x],some (.slice e)=>(fg P e).bind fun z=>if(aH z).length≠0 then some (.Mr (aH z) x)else none
   |_,_=>none
  | .builtin .min=>some (.Tn c.args.toList)
  | .builtin .max=>some (.To c.args.toList)
  |_=>none
 |_=>none
def Kh:Value→List Value→Option Value
 |v,[]=>some v
 |v,u::r=>match v,u with
  | .int k a,.int _ b=>Kh (.int k (if b<a then b else a)) r
  |_,_=>none
def acq(l:List Value):Option Value:=match l with| []=>none|v::r=>Kh v r
def Ki:Value→List Value→Option Value
 |v,[]=>some v
 |v,u::r=>match v,u with
  | .int k a,.int _ b=>Ki (.int k (if b>a then b else a)) r
  |_,_=>none
def acr(l:List Value):Option Value:=match l with| []=>none|v::r=>Ki v r
@[go_sem] theorem Zz(v:Value)(r:List Value):acq (v::r)=Kh v r:=(rfl)
@[go_sem] theorem acs(v:Value):Kh v []=some v:=(rfl)
@[go_sem] theorem ZA(k k':IntKind)(a b:Int)(r:List Value):Kh (.int k a) (.int k' b::r)=Kh (.int k (if b<a then b else a)) r:=(rfl)
@[go_sem] theorem ZB(v:Value)(r:List Value):acr (v::r)=Ki v r:=(rfl)
@[go_sem] theorem acu(v:Value):Ki v []=some v:=(rfl)
@[go_sem] theorem ZC(k k':IntKind)(a b:Int)(r:List Value):Ki (.int k a) (.int k' b::r)=Ki (.int k (if b>a then b else a)) r:=(rfl)
def oB(ev:Ev)(x:Option Operand)(d:Nat)(F:Int→Prop):Prop:=
 match x with
 |none=>F d
 |some x=>aC (ev x) fun v=>BL v F
@[go_sem ↓] theorem VF(ev:Ev)(d:Nat)(F:Int→Prop):oB ev none d F=F d:=(rfl)
@[go_sem ↓] theorem VG(ev:Ev)(x:Operand)(d:Nat)(F:Int→Prop):oB ev (some x) d F=aC (ev x) fun v=>BL v F:=(rfl)
def Kt(H:Hp)(r:Option Nat)(F:Nat→Prop):Prop:=
 match r with
 |none=>F 0
 |some b=>aC (H.mp b) fun m=>F m.1.length
@[go_sem ↓] theorem X3(H:Hp)(b:Nat)(F:Nat→Prop):Kt H (some b) F=aC (H.mp b) fun m=>F m.1.length:=(rfl)
def gR(ok:Bool)(z:Value)(x:Option Value):Value:=
 bif ok then(match x with|some v=>.tuple [v,.bool true].toArray|none=>.tuple [z,.bool false].toArray)else x.getD z
@[go_sem] theorem QH(z v:Value):gR true z (some v)= .tuple [v,.bool true].toArray:=(rfl)
@[go_sem] theorem QI(z:Value):gR true z none= .tuple [z,.bool false].toArray:=(rfl)
@[go_sem] theorem UK(z v:Value):gR false z (some v)=v:=(rfl)
@[go_sem] theorem UL(z:Value):gR false z none=z:=(rfl)
def Gq:Value→Bool
 | .pointer (some _)=>true
 | .iface .. =>true
 | .func (.func _) _ _=>true
 |_=>false
@[go_sem] theorem ZD(a:Addr):Gq (.pointer (some a))=true:=(rfl)
@[go_sem] theorem VH(t:TypeId)(v:Value):Gq (.iface t v)=true:=(rfl)
@[go_sem] theorem X4(f:FuncId)(a b:Array Value):Gq (.func (.func f) a b)=true:=(rfl)
def Pe(P:Program)(v:Value):Prop:=
 Gq v=true∨∃name t u cap,v= .func (.method name) #[.iface t u] cap∧∀w,(nilAhead (P.types.size+Made.depth) t u name).run P w= .ok (some false) w
@[go_sem] theorem acv(P:Program)(a:Addr):Pe P (.pointer (some a))=True:=eq_true (.inl rfl)
@[go_sem] theorem X5(P:Program)(t:TypeId)(v:Value):Pe P (.iface t v)=True:=eq_true (.inl rfl)
@[go_sem] theorem ZE(P:Program)(f:FuncId)(a b:Array Value):Pe P (.func (.func f) a b)=True:=eq_true (.inl rfl)
def da.vc(P:Program)(ev:Ev)(H:Hp)(K:Value→Hp→Prop):da→Prop
 | .au x=>aC (ev x) fun v=>K v H
 | .pick c a b=>aC (ev c) fun cv=>zP cv fun t=>aC (bif t then ev a else ev b) fun v=>K v H
 | .box T x=>aC (ev x) fun v=>now (H.new T (aH v)) fun H'=>K (.pointer (some ⟨H.size,0,none⟩)) H'
 | .zero T l=>now (H.new T l) fun H'=>K (.pointer (some ⟨H.size,0,none⟩)) H'
 | .build z ps=>zQ ev z ps fun l=>now l fun l=>K (.agg l.toArray) H
 | .lit T n z ps=>zQ ev z ps fun l=>now (H.new T l) fun H'=>K (.slice (some ⟨H.size,0,none⟩) n n) H'
 | .aj x=>aC (ev x) fun p=>vD p fun b o=>aC (H.rd b) fun l=>aC l[o]? fun v=>K v H
 | .eD n x=>aC (ev x) fun p=>vD p fun b o=>aC (H.rd b) fun l=>dm (o+n≤l.length) (K (.agg ((l.drop o).take n).toArray) H)
 | .store n x v=>aC (ev x) fun p=>vD p fun b o=>aC (ev v) fun v=>aC (I0 (H.own b) (H.BD b)) fun l=>
   dm ((aH v).length=n) (dm (sf (aH v)=true) (dm (o+n≤l.length) (now (H.wr b (bh l o (aH v))) fun H'=>K undef H')))
 | .nilCheck x=>aC (ev x) fun v=>dm (Pe P v) (K v H)
 | .jz op s x y=>aC (ev x) fun a=>aC (ev y) fun b=>aC (cj op s a b) fun v=>K v H
 | .un op x=>aC (ev x) fun a=>aC (unF op a) fun v=>K v H
 | .conv k x=>aC (ev x) fun a=>BL a fun n=>K (.int k (k.wrap n)) H
 | .iface T x=>aC (ev x) fun v=>K (.iface T v) H
 | .func fn first captured=>Mz ev first fun l=>Mz ev captured fun c=>K (.func fn l.toArray c.toArray) H
 | .mP=>K (.map (some H.size)) H.iI
 | .makeSlice T bytes size z n c=>aC (ev n) fun nv=>aC (ev c) fun cv=>BL nv fun n=>BL cv fun c=>
   dm (0≤n∧n≤c∧c≤2^48∧bytes*c≤2^48) (now (H.new T (cA z c.toNat)) fun H'=>K (.slice (some ⟨H.size,0,none⟩) n.toNat c.toNat) H')
 | .slice size x lo hi mx=>aC (ev x) fun v=>oA v fun a n c=>oB ev mx c fun m=>oB ev hi n fun h=>oB ev lo 0 fun l=>
   dm (0≤l∧l≤h∧h≤m∧m≤c) (K (.slice (if m=l then a else a.map (·.add (l.toNat*size))) (h.toNat - l.toNat) (m.toNat - l.toNat)) H)
 | .IU x lo hi=>aC (ev x) fun v=>iM v fun s=>oB ev hi s.size fun h=>oB ev lo 0 fun l=>
   dm (0≤l∧l≤h∧h≤s.size) (K (.string (s.extract l.toNat h.toNat)) H)
 | .fieldAddr off x=>aC (ev x) fun p=>vD p fun b o=>K (.pointer (some ⟨b,o+off,none⟩)) H
 | .field off agg x=>aC (ev x) fun v=>O6 v fun l=>aC (eU l off agg) fun v=>K v H
 | .indexAddr size x i=>aC (ev x) fun v=>aC (ev i) fun iv=>oA v fun a n _=>BL iv fun i=>dm (0≤i∧i<n) (tM a fun b o=>K (.pointer (some ⟨b,o+i.toNat*size,none⟩)) H)
 | .zO aR size x i=>aC (ev x) fun p=>aC (ev i) fun iv=>vD p fun b o=>BL iv fun i=>dm (0≤i∧i<aR) (K (.pointer (some ⟨b,o+i.toNat*size,none⟩)) H)
 | .IV x i=>aC (ev x) fun v=>aC (ev i) fun iv=>iM v fun s=>BL iv fun i=>dm (0≤i) (aC (s[i.toNat]?) fun b=>K (.int .u8 b.toNat) H)
 | .lookup s z ok m k=>aC (ev m) fun mv=>aC (ev k) fun kv=>BM mv fun r=>dm (zM s kv=true) (xt H s r kv fun x=>K (gR ok z x) H)
 | .update s m k v=>aC (ev m) fun mv=>aC (ev k) fun kv=>aC (ev v) fun vv=>BM mv fun r=>aC r fun b=>dm (zM s kv=true) (Q6 H s b kv vv fun H'=>K undef H')
 | .extract i x=>aC (ev x) fun v=>O4 v fun l=>aC l[i]? fun v=>K v H
 | .call f args=>Mz ev args fun vs=>af P f vs H K
 | .dyn f args=>aC (ev f) fun fv=>Mz ev args fun vs=>VS P fv vs H K
 | .invoke r name args=>aC (ev r) fun rv=>Mz ev args fun vs=>gI P rv name vs H K
 | .xW x=>aC (ev x) fun v=>oA v fun _ n _=>K (.int .i64 n) H
 | .Tj x=>aC (ev x) fun v=>iM v fun s=>K (.int .i64 s.size) H
 | .Tk x=>aC (ev x) fun v=>BM v fun r=>Kt H r fun n=>K (.int .i64 n) H
 | .append T size bytes z x y=>aC (ev x) fun xv=>aC (ev y) fun yv=>fW T size bytes z xv yv H K
 | .delete s m k=>aC (ev m) fun mv=>aC (ev k) fun kv=>BM mv fun r=>aC r fun b=>dm (zM s kv=true) (Wa H s b kv fun H'=>K (.tuple [].toArray) H')
 | .Mr z x=>aC (ev x) fun v=>oA v fun a n _=>X1 H z a n fun H'=>K (.tuple [].toArray) H'
 | .Tn args=>Mz ev args fun vs=>aC (acq vs) fun v=>K v H
 | .To args=>Mz ev args fun vs=>aC (acr vs) fun v=>K v H
 | .IW T x=>aC (ev x) fun v=>vi T v fun u=>K u H
 | .Tp neg x=>aC (ev x) fun v=>MA v fun b=>K (.bool (NN neg b)) H
 | .NV x=>aC (ev x) fun v=>tL H v fun l=>K (.string ⟨l.toArray⟩) H
 | .IT T x=>aC (ev x) fun v=>iM v fun s=>SK T s H K
 | .ext f args=>Mz ev args fun vs=>Um P f vs H K
attribute [go_sem ↓] da.vc
section
variable {P : Program} {o : Oper} {a : Act} {ev : Ev} {H : Hp} {K : Value → Hp → Prop}
def dN(P:Program)(o:Oper)(a:Act)(H:Hp)(K:Value→Hp→Prop):Prop:=∃v,(∀w,(execOp a.eval o).run P w= .ok (.value v) w)∧K v H
theorem dN.aew(h:dN P o a H K):dO P o a H K:=by
 obtain⟨v,h1,h2⟩:=h
 exact fun w hw=>.inl ⟨v,w,h1 w,bZ.refl w,hw▸h2⟩
theorem ap{t:TypeId}{d:TypeDesc}(h:P.underlying t=some d)(w:World):(underlying t).run P w= .ok d w:=run_underlying h w
theorem dW{t:TypeId}{i:TypeInfo}(h:P.info? t=some i)(w:World):(typeInfo t).run P w= .ok i w:=by simp[typeInfo,h]
theorem bI{t:TypeId}(h:(P.info? t).isSome=true)(w:World):(sizeOf t).run P w= .ok (P.cellsOf t) w:=by
 obtain⟨i,hi⟩:=Option.isSome_iff_exists.1 h
 simp[sizeOf,dW hi,Program.cellsOf,hi]
theorem cE{t:TypeId}{z:Value}(h:fg P t=some z)(w:World):(zeroValue t).run P w= .ok z w:=by
 unfold fg at h
 cases hi:P.info? t with
 |none=>rw[hi]at h;cases h
 |some i=>rw[hi]at h;simp only[Option.bind_some]at h;simp[zeroValue,dW hi,h]
theorem zC{t:TypeId}(h:(P.underlying t).isSome=true)(w:World):(isAgg t).run P w= .ok (eG P t) w:=by
 obtain⟨d,hd⟩:=Option.isSome_iff_exists.1 h
 unfold isAgg eG
 simp only[Sem.run_bind,ap hd,Result.andThen_ok,hd]
 cases d<;>rfl
theorem C8(t:TypeId)(v:Value)(w:World):(newVar t v).run P w= .ok ⟨w.heap.size,0,none⟩ {w with heap:=Hp.new w.heap t (aH v)}:=by
 simp only[newVar,newRow,Sem.run_bind,run_newObj,Result.andThen_ok,Sem.run_pure,Hp.new,←ee,ao3]
theorem kq(t:TypeId)(c:Array Value)(w:World):(newRow t c).run P w= .ok ⟨w.heap.size,0,none⟩ {w with heap:=Hp.new w.heap t c.toList}:=by
 simp only[newRow,Sem.run_bind,run_newObj,Result.andThen_ok,Sem.run_pure,Hp.new,ao3]
theorem iK{t:TypeId}{w:World}{b o:Nat}{l:List Value}(hi:(P.info? t).isSome=true)(hu:(P.underlying t).isSome=true)(h:Hp.rd w.heap b=some l):
  (eG P t=true→o+P.cellsOf t≤l.length→(loadVar t ⟨b,o,none⟩).run P w= .ok (.agg ((l.drop o).take (P.cellsOf t)).toArray) w)∧
  (eG P t=false→∀v,l[o]? =some v→(loadVar t ⟨b,o,none⟩).run P w= .ok v w):=by
 refine⟨fun ha hn=>?_,fun ha v hv=>?_⟩
 ·simp[loadVar,zC hu,ha,bI hi,pC (P:=P) (a:=⟨b,o,none⟩) rfl h hn]
 ·have hc:w.cell? ⟨b,o,none⟩=some v:=(nq rfl h).trans hv
  simp[loadVar,zC hu,ha,hc]
theorem GD{t:TypeId}{w:World}{b o:Nat}{l:List Value}{v:Value}(hi:(P.info? t).isSome=true)(h0:P.cellsOf t≠0)(h:I0 (Hp.own w.heap b) (Hp.BD w.heap b)=some l)
  (hl:(aH v).length=P.cellsOf t)(h1:gz (aH v))(hn:o+P.cellsOf t≤l.length):
  ∃w',(storeVar t ⟨b,o,none⟩ v).run P w= .ok () w'∧bZ w w'∧w'.heap=Hp.wr w.heap b (bh l o (aH v)):=by
 obtain⟨w',hr,hs,hk,_⟩:=gZ (P:=P) (b:=b) (o:=o) (aH v) 0 w l h (by omega) h1
 refine⟨w',?_,hs,hk (fun e=>by rw[e]at hl;exact h0 hl.symm)⟩
 have e:v.cells.size=P.cellsOf t:=by rw[←hl,←ee];simp
 simp only[storeVar,Sem.run_bind,bI hi,Result.andThen_ok,e,ne_eq,not_true_eq_false,if_false,ee]
 exact hr
end
end Go.Vc

set_option linter.unusedSimpArgs false
namespace Go.Vc
section
variable {P : Program} {o : Oper} {a : Act} {ev : Ev} {H : Hp} {K : Value → Hp → Prop}
theorem dm.out{c F:Prop}(h:dm c F):c∧F:=h
theorem yb{v:Value}{F:Bool→Prop}(h:zP v F):∃b,v= .bool b∧F b:=by
 unfold zP at h;split at h
 ·exact⟨_,rfl,h⟩
 ·exact h.elim
theorem vg{l:List Value}{t:TypeId}{off:Nat}{v:Value}(hi:(P.info? t).isSome=true)(hu:(P.underlying t).isSome=true)
  (h:eU l off (if eG P t then some (P.cellsOf t)else none)=some v)(w:World):(part t l.toArray off).run P w= .ok v w:=by
 unfold part
 simp only[Sem.run_bind,zC hu,Result.andThen_ok]
 cases hb:eG P t
 ·rw[hb]at h
  simp only[aox,if_false,eU]at h ⊢
  simp[h]
 ·rw[hb]at h
  simp only[if_true,eU]at h ⊢
  split at h
  ·injection h with h
   subst h
   simp only[Sem.run_bind,bI hi,Result.andThen_ok,Sem.run_pure]
   congr 2
   apply Array.ext'
   simp[List.take_drop]
  ·cases h
theorem info_of_underlying{t:TypeId}(h:(P.underlying t).isSome=true):(P.info? t).isSome=true:=by
 unfold Program.underlying at h
 cases hi:P.info? t with
 |none=>rw[hi]at h;simp at h
 |some i=>rfl
theorem LY(m:Nat){t:TypeId}{s:Shape}{x y:Value}{b:Bool}{d:Nat}(ht:shapeOf P d t=some s)(hs:∀fs,s≠ .s fs)(h:bB s x y=some b)(w:World):
  (Op.equalIn (m+1) t x y).run P w= .ok b w:=by
 cases d with
 |zero=>simp[shapeOf]at ht
 |succ d=>
  rw[fU]at ht
  split at ht
  case h_9=>
   split at ht
   ·cases ht
   ·rename_i fs hu hp
    cases ZF:eT P d fs.toList with
    |none=>rw[ZF]at ht;cases ht
    |some l=>rw[ZF]at ht;injection ht with ht;exact absurd ht.symm (hs l)
  case h_10=>cases ht
  all_goals(injection ht with ht;subst ht)
  all_goals(unfold bB at h;split at h<;>rename_i hu<;>first| (cases hu;done)| (cases h;done)|skip)
  all_goals(try(split at h<;>first| (cases h;done)|skip))
  all_goals(injection h with h;subst h)
  all_goals(simp only[Op.equalIn,Sem.run_bind,ap ‹P.underlying t=_›,Result.andThen_ok])
  all_goals first|rfl| (rw[if_pos (by assumption)];rfl)| (simp[*,beq_toListBytes];done)| (simp_all;done)|skip
theorem zN:∀ (d:Nat),
  (∀ (t:TypeId) (s:Shape) (x y:Value) (b:Bool),shapeOf P d t=some s→qA s x y=some b→∀ (m:Nat) (w:World),(Op.equalIn (m+d) t x y).run P w= .ok b w)∧
  (∀ (fs:List Field) (l:List (Nat×Option Nat×Shape)) (xs ys:List Value) (b:Bool),eT P d fs=some l→D5 l xs ys=some b→
   ∀ (m:Nat) (w:World),(Op.eqFields (m+d) xs.toArray ys.toArray fs).run P w= .ok b w):=by
 intro d
 induction d with
 |zero=>
  refine⟨fun t s x y b ht=>(by simp[shapeOf]at ht),fun fs l xs ys b hl h m w=>?_⟩
  cases fs with
  |nil=>simp only[BC,anE]at hl;subst hl;simp only[D5,anE]at h;subst h;rfl
  |cons f fs=>simp[oz,shapeOf]at hl
 |succ d ih=>
  have first:∀ (t:TypeId) (s:Shape) (x y:Value) (b:Bool),shapeOf P (d+1) t=some s→qA s x y=some b→∀ (m:Nat) (w:World),(Op.equalIn (m+(d+1)) t x y).run P w= .ok b w:=by
   intro t s x y b ht h m w
   by_cases hs:∃fs,s= .s fs
   ·obtain⟨l,rfl⟩:=hs
    cases x with
    |agg xs=>
     cases y with
     |agg ys=>
      simp only[qA]at h
      rw[fU]at ht
      split at ht
      case h_9=>
       split at ht
       ·cases ht
       ·rename_i fs hu hp
        cases ZF:eT P d fs.toList with
        |none=>rw[ZF]at ht;cases ht
        |some l'=>
         rw[ZF]at ht
         simp only[Option.map_some,anE,Shape.s.injEq]at ht
         subst ht
         have hf:P.fieldsOf t=fs:=by simp[Program.fieldsOf,hu]
         rw[show m+(d+1)=(m+d)+1 by omega,run_equalIn_struct w (m+d) t xs ys (by rw[hf];exact hu) (by simpa using hp),hf]
         have:=(ih.2 fs.toList l' xs.toList ys.toList b ZF h m w)
         simpa using this
      all_goals cases ht
     |_=>simp[qA,bB]at h
    |_=>cases y<;>simp[qA,bB]at h
   ·have h':bB s x y=some b:=by
     cases s<;>first|exact h| (exact absurd ⟨_,rfl⟩ hs)
    exact LY (m+d) ht (fun fs e=>hs ⟨fs,e⟩) h' w
  refine⟨first,fun fs=>?_⟩
  induction fs with
  |nil=>intro l xs ys b hl h m w;simp only[BC,anE]at hl;subst hl;simp only[D5,anE]at h;subst h;rfl
  |cons f fs ihf=>
   intro l xs ys b hl h m w
   rw[oz]at hl
   split at hl
   ·cases hl
   ·rename_i QU
    split at hl
    ·cases hl
    ·rename_i sh EW
     cases hr:eT P (d+1) fs with
     |none=>rw[hr]at hl;cases hl
     |some l'=>
      rw[hr]at hl
      simp only[Option.map_some,anE]at hl
      subst hl
      unfold D5 at h
      split at h
      ·cases h
      ·rename_i x hx
       split at h
       ·cases h
       ·rename_i y hy
        have hu:(P.underlying f.type).isSome=true:=by
         rw[fU]at EW
         split at EW<;>first| (cases EW;done)|simp_all
        have hi:=info_of_underlying hu
        simp only[Op.eqFields,QU,ne_eq,not_false_eq_true,if_true,Sem.run_bind,vg hi hu hx,vg hi hu hy,Result.andThen_ok]
        split at h
        ·rename_i he
         rw[first f.type sh x y true EW he m w]
         simpa using ihf l' xs ys b hr h m w
        ·rename_i he
         injection h with h
         subst h
         rw[first f.type sh x y false EW he m w]
         simp
        ·cases h
end
end Go.Vc

namespace Go.Vc
section
variable {P : Program} {o : Oper} {a : Act} {ev : Ev} {H : Hp} {K : Value → Hp → Prop}
abbrev bP(ev:Ev)(a:Act):Prop:=∀x v,ev x=some v→a.eval x=v
theorem aU{x:Operand}{F:Value→Prop}(bE:bP ev a)(h:aC (ev x) F):F (a.eval x):=by
 obtain⟨v,hv,h⟩:=az h
 rw[bE x v hv];exact h
theorem Ko{x:Operand}(bE:bP ev a)(ho:o.op= .move x∨o.op= .assign x)(h:(da.au x).vc P ev H K):dN P o a H K:=by
 have h:=aU bE h
 refine⟨_,fun w=>?_,h⟩
 rcases ho with ho|ho<;>simp[execOp,ho]
theorem O0{c x y:Operand}(bE:bP ev a)(ho:o.op= .pick c x y)(h:(da.pick c x y).vc P ev H K):dN P o a H K:=by
 obtain⟨b,hb,h⟩:=yb (aU bE h)
 have h2:aC (ev (bif b then x else y)) fun v=>K v H:=by cases b<;>exact h
 have h:=aU bE h2
 refine⟨_,fun w=>?_,h⟩
 simp only[execOp,ho,hb,asBool]
 cases b<;>simp
theorem GH{x:Operand}(bE:bP ev a)(ho:o.op= .nilCheck x)(h:(da.nilCheck x).vc P ev H K):dN P o a H K:=by
 obtain⟨hn,h⟩:=(aU bE h).out
 refine⟨_,fun w=>?_,h⟩
 simp only[execOp,ho]
 rcases hn with hn| ⟨name,t,u,cap,hv,hn⟩
 ·revert hn
  generalize a.eval x=v
  cases v with
  |pointer q=>cases q<;>simp[Gq]
  |func fn x y=>cases fn<;>simp[Gq]
  |_=>simp[Gq]
 ·rw[hv]
  have hz:(#[Value.iface t u]:Array Value)[0]? =some (.iface t u):=rfl
  simp[hz,hn w]
theorem Tq{op:UnOp}{t:TypeId}{x:Operand}(bE:bP ev a)(ho:o.op= .unOp op t x)(h:(da.un op x).vc P ev H K):dN P o a H K:=by
 obtain⟨v,hv,h⟩:=az (aU bE h)
 refine⟨v,fun w=>?_,h⟩
 simp only[execOp,ho]
 revert hv
 generalize a.eval x=u
 intro hv
 unfold unF at hv
 split at hv<;>first| (cases hv;done)|skip
 all_goals(injection hv with hv;subst hv;simp[Op.unary,Op.intArith,Op.intBits])
theorem O1{s t:TypeId}{k k':IntKind}{x:Operand}(bE:bP ev a)(ho:o.op= .convert s t x)(hs:P.underlying s=some (.int k'))(ht:P.underlying t=some (.int k))
  (h:(da.conv k x).vc P ev H K):dN P o a H K:=by
 obtain⟨k1,n,hn,h⟩:=ie (aU bE h)
 refine⟨_,fun w=>?_,h⟩
 simp only[execOp,ho,convert,hn,Sem.run_bind,ap hs,ap ht,Result.andThen_ok,Conv.intToInt]
 rfl
theorem SL{t:TypeId}{ms:Array (String×TypeId)}(hu:P.underlying t=some (.interface ms))(v:Value)(b:Bool)(hv:(v= .nilIface∧b=true)∨∃t' u,v= .iface t' u∧b=false)(w:World):(Op.equal t v .nilIface).run P w= .ok b w:=by
 have h:∀m:Nat,(Op.equalIn (m+1) t v .nilIface).run P w= .ok b w:=fun m=>by
  rcases hv with ⟨rfl,rfl⟩| ⟨t',u,rfl,rfl⟩<;>simp only[Op.equalIn,Sem.run_bind,ap hu,Result.andThen_ok]<;>rfl
 exact h 9999
theorem Ie{op:BinOp}{neg:Bool}{t t':TypeId}{ms:Array (String×TypeId)}{x:Operand}(bE:bP ev a)(ho:o.op= .binOp op t x (.const .nilIface) t')(hu:P.underlying t=some (.interface ms))
  (Db:(op= .eql∧neg=false)∨(op= .neq∧neg=true))(h:(da.Tp neg x).vc P ev H K):dN P o a H K:=by
 obtain⟨b,hv,h⟩:∃b,((a.eval x= .nilIface∧b=true)∨∃t' u,a.eval x= .iface t' u∧b=false)∧K (.bool (NN neg b)) H:=by
  rcases Ih (aU bE h)with ⟨e,h⟩| ⟨t',u,e,h⟩
  ·exact⟨true,.inl ⟨e,rfl⟩,h⟩
  ·exact⟨false,.inr ⟨t',u,e,rfl⟩,h⟩
 refine⟨_,fun w=>?_,h⟩
 have hr:=SL (P:=P) hu (a.eval x) b hv w
 have hc:a.eval (.const .nilIface)= .nilIface:=rfl
 simp only[execOp,ho,Sem.run_bind,hc]
 generalize a.eval x=u at hv hr ⊢
 have hg:(eqGuard op t x (.const .nilIface) u .nilIface).run P w= .ok () w:=by
  unfold eqGuard
  rcases Db with ⟨rfl,_⟩| ⟨rfl,_⟩<;>rcases hv with ⟨rfl,_⟩| ⟨t',u',rfl,_⟩<;>simp
 rw[hg]
 simp only[Result.andThen_ok]
 rcases Db with ⟨rfl,rfl⟩| ⟨rfl,rfl⟩<;>rcases hv with ⟨rfl,rfl⟩| ⟨t',u',rfl,rfl⟩<;>simp[binOp,hr,NN]
theorem Ks{s t:TypeId}{d:TypeDesc}{x:Operand}(bE:bP ev a)(ho:o.op= .typeAssert x s t false)(hs:P.underlying t=some d)(hd:∀ms,d≠ .interface ms)
  (h:(da.IW t x).vc P ev H K):dN P o a H K:=by
 obtain⟨u,hx,h⟩:=zR (aU bE h)
 refine⟨_,fun w=>?_,h⟩
 simp only[execOp,ho,hx,Instr.typeAssert,Sem.run_bind,ap hs,Result.andThen_ok]
 cases d<;>first| (exact absurd rfl (hd _))|simp
theorem Mw{t:TypeId}{d:TypeDesc}{x:Operand}(bE:bP ev a)(ho:o.op= .makeInterface t x)(hs:P.underlying t=some d)(hd:∀ms,d≠ .interface ms)
  (h:(da.iface t x).vc P ev H K):dN P o a H K:=by
 have h:=aU bE h
 refine⟨_,fun w=>?_,h⟩
 simp only[execOp,ho,Instr.makeInterface,Sem.run_bind,ap hs,Result.andThen_ok]
 cases d<;>first| (exact absurd rfl (hd _))|simp
theorem O2{fn:Fn}{first captured:Array Operand}(bE:bP ev a)(ho:o.op= .makeFunc fn first captured)(h:(da.func fn first.toList captured.toList).vc P ev H K):dN P o a H K:=by
 have h:=kA bE (kA bE h)
 refine⟨_,fun w=>?_,h⟩
 simp only[execOp,ho,Instr.makeFunc,Sem.run_bind,Sem.run_pure,Result.andThen_ok]
 congr 3
 ·apply Array.ext';simp
 ·apply Array.ext';simp
theorem si{c:Bool}{m:Sem Unit}{w:World}(h:m.run P w= .ok () w):(if(!c)=true then(pure ():Sem Unit)else m).run P w= .ok () w:=by
 cases c
 ·rfl
 ·simpa using h
theorem uZ{op:BinOp}{t:TypeId}{s:Shape}{x y:Operand}{u v:Value}{b:Bool}(h:qA s u v=some b)(hg:UJ s=true∨P.eqGuardType P.depth t=false)(w:World):
  (eqGuard op t x y u v).run P w= .ok () w:=by
 unfold eqGuard
 refine si ?_
 cases u with
 |nilIface=>
  cases v with
  |nilIface=>cases s<;>simp[qA,bB]at h
  |_=>rfl
 |agg xs=>
  cases v with
  |agg ys=>
   rcases hg with hg|hg
   ·cases s<;>simp_all[qA,bB,UJ]
   ·simp[hg]
  |_=>rfl
 |_=>cases v<;>rfl
theorem Gr{t:TypeId}{s:Shape}{u v:Value}{b:Bool}(hs:shapeOf P eI t=some s)(h:qA s u v=some b)(hu:∀k n,u≠ .int k n∨∀k' m,v≠ .int k' m)
  (tK:∀x,u≠ .string x∨∀y,v≠ .string y)(w:World):
  (binOp .eql t u v).run P w= .ok (.bool b) w∧(binOp .neq t u v).run P w= .ok (.bool (!b)) w:=by
 have he:(Op.equal t u v).run P w= .ok b w:=by
  unfold Op.equal Op.maxDepth
  have:=(zN (P:=P) eI).1 t s u v b hs h (10000 - eI) w
  simpa[eI]using this
 have aP:∀ {op},op=BinOp.eql∨op=BinOp.neq→binOp op t u v=(if op=BinOp.eql then(do pure (.bool (←Op.equal t u v)))else(do pure (.bool (!(←Op.equal t u v))))):=by
  intro op Db
  cases u<;>cases v<;>rcases Db with rfl|rfl<;>first
   |rfl
   | (rcases hu _ _ with h1|h1<;>first|exact absurd rfl h1|exact absurd rfl (h1 _ _))
   | (rcases tK _ with h1|h1<;>first|exact absurd rfl h1|exact absurd rfl (h1 _))
   | (cases s<;>simp[qA,bB]at h)
 rw[aP (.inl rfl),aP (.inr rfl)]
 simp[he]
def SM(op:BinOp)(s:Shape)(u z:Value):Option Value:=match op with| .eql=>(qA s u z).map .bool| .neq=>(qA s u z).map fun b=>.bool (!b)|_=>none
theorem Qo{op:BinOp}{s:Shape}{u z:Value}(h1:∀k n,u≠ .int k n∨∀k' m,z≠ .int k' m)(h2:∀p,u≠ .string p∨∀q,z≠ .string q):cj op s u z=SM op s u z:=by
 unfold cj SM
 split
 ·rcases h1 _ _ with h|h<;>first|exact absurd rfl h|exact absurd rfl (h _ _)
 ·rcases h2 _ with h|h<;>first|exact absurd rfl h|exact absurd rfl (h _)
 ·rfl
theorem E4{op:BinOp}{t t':TypeId}{s:Shape}{x y:Operand}(bE:bP ev a)(ho:o.op= .binOp op t x y t')
  (hs:(op= .eql∨op= .neq)→shapeOf P eI t=some s∧(UJ s=true∨P.eqGuardType P.depth t=false))
  (h:(da.jz op s x y).vc P ev H K):dN P o a H K:=by
 obtain⟨v,hv,h⟩:=az (aU bE (aU bE h))
 refine⟨v,fun w=>?_,h⟩
 simp only[execOp,ho,Sem.run_bind]
 generalize hx:a.eval x=u at hv ⊢
 generalize hy:a.eval y=z at hv ⊢
 have hint:∀k n k' m,u= .int k n→z= .int k' m→(eqGuard op t x y u z).run P w= .ok () w∧(binOp op t u z).run P w= .ok v w:=by
  intro k n k' m e1 e2
  subst e1;subst e2
  refine⟨si rfl,?_⟩
  ·unfold cj at hv
   by_cases hk:k=k'
   ·subst hk
    cases op<;>simp only[binOp,Op.shift,Op.intArith,Op.intDiv,Op.intBits,Op.intCmp]at hv ⊢ <;>simp at hv ⊢ <;>first
     | (subst hv;rfl)
     | (split at hv<;>first| (cases hv;done)| (injection hv with hv;subst hv;rename_i hc;simp[hc];done)|skip)
     | (obtain⟨h1,rfl⟩:=hv;simp[show¬m<0 by omega])
     | (obtain⟨h1,rfl⟩:=hv;simp[h1])
     |skip
   ·cases op<;>simp[hk]at hv<;>simp only[binOp,Op.shift]<;>first
     | (obtain⟨h1,rfl⟩:=hv;simp[show¬m<0 by omega])
     |skip
 have ag0:∀p q,u= .string p→z= .string q→(eqGuard op t x y u z).run P w= .ok () w∧(binOp op t u z).run P w= .ok v w:=by
  intro p q e1 e2
  subst e1;subst e2
  refine⟨si rfl,?_⟩
  ·unfold cj at hv
   cases op<;>simp only[binOp,Op.stringOp]at hv ⊢ <;>simp at hv ⊢ <;>first
    | (subst hv;rfl)
    | (obtain⟨h1,rfl⟩:=hv;simp[show¬ (9223372036854775807:Int)< (p.size:Int)+q.size by omega])
    | (obtain⟨h1,rfl⟩:=hv;rw[if_neg (by omega)])
    | (cases hv;done)
    |skip
 have acw:(∀k n,u≠ .int k n∨∀k' m,z≠ .int k' m)→(∀p,u≠ .string p∨∀q,z≠ .string q)→(eqGuard op t x y u z).run P w= .ok () w∧(binOp op t u z).run P w= .ok v w:=by
  intro h1 h2
  have hb:=Qo (op:=op) (s:=s) h1 h2
  rw[hb]at hv
  cases op<;>simp only[SM]at hv<;>first| (cases hv;done)|skip
  ·obtain⟨eM,K7⟩:=hs (.inl rfl)
   cases he:qA s u z with
   |none=>rw[he]at hv;cases hv
   |some b=>rw[he]at hv;injection hv with hv;subst hv;exact⟨uZ he K7 w,(Gr eM he h1 h2 w).1⟩
  ·obtain⟨eM,K7⟩:=hs (.inr rfl)
   cases he:qA s u z with
   |none=>rw[he]at hv;cases hv
   |some b=>rw[he]at hv;injection hv with hv;subst hv;exact⟨uZ he K7 w,(Gr eM he h1 h2 w).2⟩
 have key:(eqGuard op t x y u z).run P w= .ok () w∧(binOp op t u z).run P w= .ok v w:=by
  by_cases h1:∃k n k' m,u= .int k n∧z= .int k' m
  ·obtain⟨k,n,k',m,e1,e2⟩:=h1;exact hint k n k' m e1 e2
  ·by_cases h2:∃p q,u= .string p∧z= .string q
   ·obtain⟨p,q,e1,e2⟩:=h2;exact ag0 p q e1 e2
   ·refine acw (fun k n=>?_) (fun p=>?_)
    ·by_cases e:u= .int k n
     ·exact .inr fun k' m e'=>h1 ⟨k,n,k',m,e,e'⟩
     ·exact .inl e
    ·by_cases e:u= .string p
     ·exact .inr fun q e'=>h2 ⟨p,q,e,e'⟩
     ·exact .inl e
 simp[key.1,key.2]
end
end Go.Vc

namespace Go.Vc
section
variable {P : Program} {o : Oper} {a : Act} {ev : Ev} {H : Hp} {K : Value → Hp → Prop}
theorem IX{i:Nat}{x:Operand}(bE:bP ev a)(ho:o.op= .extract x i)(h:(da.extract i x).vc P ev H K):dN P o a H K:=by
 obtain⟨vs,hv,h⟩:=If (aU bE h)
 obtain⟨v,hi,h⟩:=az h
 refine⟨v,fun w=>?_,h⟩
 have hi':vs[i]? =some v:=by simpa using hi
 simp[execOp,ho,hv,Instr.extract,hi']
theorem E5{t:TypeId}{f:Nat}{x:Operand}{fields:Array Field}{fd:Field}(bE:bP ev a)(ho:o.op= .fieldAddr t x f)(ht:P.underlying t=some (.struct fields))
  (hf:fields[f]? =some fd)(hi:(P.info? fd.type).isSome=true)(h0:P.cellsOf fd.type≠0)(h:(da.fieldAddr fd.offset x).vc P ev H K):dN P o a H K:=by
 obtain⟨b,off,hv,h⟩:=eX (aU bE h)
 refine⟨_,fun w=>?_,h⟩
 simp[execOp,ho,hv,Instr.fieldAt,ap ht,hf,Instr.sureAddr,fieldPlace,bI hi,h0,xY]
theorem My{t:TypeId}{f:Nat}{x:Operand}{fields:Array Field}{fd:Field}(bE:bP ev a)(ho:o.op= .field t x f)(ht:P.underlying t=some (.struct fields))
  (hf:fields[f]? =some fd)(hi:(P.info? fd.type).isSome=true)(hu:(P.underlying fd.type).isSome=true)
  (h:(da.field fd.offset (if eG P fd.type then some (P.cellsOf fd.type)else none) x).vc P ev H K):dN P o a H K:=by
 obtain⟨vs,hv,h⟩:=Ig (aU bE h)
 obtain⟨v,hp,h⟩:=az h
 refine⟨v,fun w=>?_,h⟩
 have:=vg hi hu hp w
 simp only[ao3]at this
 simp[execOp,ho,hv,Instr.field,ap ht,hf,asAgg,this]
theorem E6{t e:TypeId}{x i:Operand}(bE:bP ev a)(ho:o.op= .indexAddr t x i)(ht:P.underlying t=some (.slice e))(hi:(P.info? e).isSome=true)
  (h:(da.indexAddr (P.cellsOf e) x i).vc P ev H K):dN P o a H K:=by
 obtain⟨ad,n,c,hx,h⟩:=ij (aU bE (aU bE h))
 obtain⟨k,j,hj,h⟩:=ie h
 obtain⟨hb,h⟩:=h.out
 obtain⟨b,off,rfl,h⟩:=mQ h
 refine⟨_,fun w=>?_,h⟩
 simp[execOp,ho,hx,hj,Instr.indexAt,ap ht,asIntOf,hb.1,hb.2,bI hi,xY]
theorem GI{t e:TypeId}{n:Nat}{x i:Operand}(bE:bP ev a)(ho:o.op= .indexAddr t x i)(ht:P.underlying t=some (.array n e))(hi:(P.info? e).isSome=true)
  (h:(da.zO n (P.cellsOf e) x i).vc P ev H K):dN P o a H K:=by
 obtain⟨b,off,hx,h⟩:=eX (aU bE (aU bE h))
 obtain⟨k,j,hj,h⟩:=ie h
 obtain⟨hb,h⟩:=h.out
 refine⟨_,fun w=>?_,h⟩
 simp[execOp,ho,hx,hj,Instr.indexAt,ap ht,asIntOf,hb.1,hb.2,bI hi,xY,Instr.sureAddr]
theorem Kq{t:TypeId}{x i:Operand}(bE:bP ev a)(ho:o.op= .index t x i)(ht:P.underlying t=some .string)
  (h:(da.IV x i).vc P ev H K):dN P o a H K:=by
 obtain⟨s,hx,h⟩:=mq (aU bE (aU bE h))
 obtain⟨k,j,hj,h⟩:=ie h
 obtain⟨h0,h⟩:=h.out
 obtain⟨b,hb,h⟩:=az h
 refine⟨_,fun w=>?_,h⟩
 simp[execOp,ho,hx,hj,Instr.index,ap ht,asIntOf,h0,hb]
theorem ln{x:Option Operand}{d:Nat}{F:Int→Prop}(bE:bP ev a)(h:oB ev x d F):
  ∃n,F n∧((x=none∧n=d)∨∃y k,x=some y∧a.eval y= .int k n):=by
 cases x with
 |none=>exact⟨d,h,.inl ⟨rfl,rfl⟩⟩
 |some y=>
  obtain⟨k,n,hy,h⟩:=ie (aU bE h)
  exact⟨n,h,.inr ⟨y,k,rfl,hy⟩⟩
theorem gh{k:IntKind}{i:Int}{y:Nat}{code:BoundsCode}(h0:0≤i)(h1:i≤y)(w:World):(Instr.sliceBound (.int k i) y code).run P w= .ok i.toNat w:=by
 simp[Instr.sliceBound,asIntOf,h0,h1]
theorem Gs{isS:Bool}{n c:Nat}{lo hi mx:Option Operand}{l h m:Int}(hl:(lo=none∧l=0)∨∃y k,lo=some y∧a.eval y= .int k l)
  (hh:(hi=none∧h=n)∨∃y k,hi=some y∧a.eval y= .int k h)(hm:(mx=none∧m=c)∨∃y k,mx=some y∧a.eval y= .int k m)
  (h3:mx.isSome=true→hi.isSome=true)(hb:0≤l∧l≤h∧h≤m∧m≤c)(w:World):
  (Instr.sliceBounds isS n c (lo.map a.eval) (hi.map a.eval) (mx.map a.eval)).run P w= .ok (l.toNat,h.toNat,m.toNat) w:=by
 obtain⟨h1,h2,h4,h5⟩:=hb
 unfold Instr.sliceBounds
 rcases hm with ⟨rfl,rfl⟩| ⟨ym,km,rfl,em⟩
 ·rcases hh with ⟨rfl,rfl⟩| ⟨yh,kh,rfl,eh⟩<;>rcases hl with ⟨rfl,rfl⟩| ⟨yl,kl,rfl,el⟩<;>
   simp only[Option.map_none,Option.map_some,Option.isSome_none,Sem.run_bind,Sem.run_pure,Result.andThen_ok, *]
  ·rfl
  ·rw[gh h1 (by omega)];rfl
  ·rw[gh (by omega) (by omega)];rfl
  ·rw[gh (by omega) (by omega)];simp only[Result.andThen_ok];rw[gh h1 (by omega)];rfl
 ·rcases hh with ⟨rfl,rfl⟩| ⟨yh,kh,rfl,eh⟩
  ·exact absurd (h3 rfl) (by simp)
  ·rcases hl with ⟨rfl,rfl⟩| ⟨yl,kl,rfl,el⟩<;>simp only[Option.map_none,Option.map_some,Option.isSome_some,Sem.run_bind,Sem.run_pure,Result.andThen_ok, *]
   ·rw[gh (by omega) (by omega)];simp only[Result.andThen_ok];rw[gh (by omega) (by omega)];rfl
   ·rw[gh (by omega) (by omega)];simp only[Result.andThen_ok];rw[gh (by omega) (by omega)];simp only[Result.andThen_ok];rw[gh h1 (by omega)];rfl
theorem Mx{t e:TypeId}{x:Operand}{lo hi mx:Option Operand}(bE:bP ev a)(ho:o.op= .slice t x lo hi mx)(ht:P.underlying t=some (.slice e))(hie:(P.info? e).isSome=true)
  (h3:mx.isSome=true→hi.isSome=true)(h:(da.slice (P.cellsOf e) x lo hi mx).vc P ev H K):dN P o a H K:=by
 obtain⟨ad,n,c,hx,h⟩:=ij (aU bE h)
 obtain⟨m,h,hm⟩:=ln bE h
 obtain⟨hh,h,hhi⟩:=ln bE h
 obtain⟨l,h,NF⟩:=ln bE h
 obtain⟨hb,h⟩:=h.out
 refine⟨_,fun w=>?_,h⟩
 have hr:=Gs (P:=P) (isS:=true) (n:=n) (c:=c) NF hhi hm h3 hb w
 simp only[execOp,ho,Instr.sliceAt,Sem.run_bind,ap ht,Result.andThen_ok,Instr.slice,hx,hr,bI hie,Sem.run_pure]
 by_cases hml:m=l
 ·subst hml;simp
 ·rw[if_neg hml,if_neg (by omega)]
theorem Kp{t:TypeId}{x:Operand}{lo hi:Option Operand}(bE:bP ev a)(ho:o.op= .slice t x lo hi none)(ht:P.underlying t=some .string)
  (h:(da.IU x lo hi).vc P ev H K):dN P o a H K:=by
 obtain⟨s,hx,h⟩:=mq (aU bE h)
 obtain⟨hh,h,hhi⟩:=ln bE h
 obtain⟨l,h,NF⟩:=ln bE h
 obtain⟨hb,h⟩:=h.out
 refine⟨_,fun w=>?_,h⟩
 have hr:=Gs (P:=P) (isS:=false) (n:=s.size) (c:=s.size) (m:=s.size) (mx:=none) NF hhi (.inl ⟨rfl,rfl⟩) (by simp) ⟨hb.1,hb.2.1,hb.2.2,aoX _⟩ w
 simp only[Option.map_none]at hr
 simp only[execOp,ho,Instr.sliceAt,Sem.run_bind,ap ht,Result.andThen_ok,Instr.slice,hx,hr,Sem.run_pure,Option.map_none,Option.isSome_none,aox,if_false]
theorem JS(vs:List Value):∀ (n off:Nat) (z:Array Value),((vs.zipIdx n).foldl (fun cs (c,j)=>cs.setIfInBounds (off+j) c) z).toList=bh z.toList (off+n) vs:=by
 induction vs with
 |nil=>intro n off z;rfl
 |cons v vs ih=>
  intro n off z
  rw[List.zipIdx_cons,List.foldl_cons,ou]
  have:=ih (n+1) off (z.setIfInBounds (off+n) v)
  rw[this]
  simp[apD]
theorem fill_eq{place:Nat→Option (Nat×Nat)}:∀ (ps:List (Nat×Operand)) (qs:List (Nat×Nat×Operand)) (z:Array Value) (F:List Value→Prop),
  List.length ps=List.length qs→(∀ (j i:Nat) (x:Operand),ps[j]? =some (i,x)→∃off size:Nat,qs[j]? =some (off,size,x)∧place i=some (off,size)∧off+size≤z.size)→bP ev a→zQ ev z.toList qs F→
   ∃z':Array Value,Instr.fill place z (ps.map fun(i,x)=>(i,a.eval x))=some z'∧F z'.toList:=by
 intro ps
 induction ps with
 |nil=>
  intro qs z F hl hp bE h
  cases qs with
  |nil=>exact⟨z,rfl,h⟩
  |cons q qs=>simp at hl
 |cons p ps ih=>
  intro qs z F hl hp bE h
  obtain⟨i,x⟩:=p
  cases qs with
  |nil=>simp at hl
  |cons q qs=>
   obtain⟨off,size,hq,NS,oY⟩:=hp 0 i x rfl
   simp only[anY,anE]at hq
   subst hq
   obtain⟨hn,h⟩:=(aU bE h).out
   have Pp:(a.eval x).cells.size=size:=by rw[←hn,←ee];simp
   rw[aom,Instr.fill]
   simp only[NS,Pp,ne_eq,not_true_eq_false,decide_false,apE,anU]
   rw[if_neg (by omega)]
   have VI:((a.eval x).cells.zipIdx.foldl (fun cs (c,j)=>cs.setIfInBounds (off+j) c) z).toList=bh z.toList off (aH (a.eval x)):=by
    have:=JS (a.eval x).cells.toList 0 off z
    rw[ee]at this
    rw[←Array.foldl_toList,Array.toList_zipIdx,ee]
    simpa using this
   refine ih qs _ F (by simpa using hl) (fun j i' x' hj=>?_) bE (by rw[VI];exact h)
   obtain⟨ag2,acx,hq',ag3,ag4⟩:=hp (j+1) i' x' (by simpa using hj)
   refine⟨ag2,acx,by simpa using hq',ag3,?_⟩
   have:((a.eval x).cells.zipIdx.foldl (fun cs (c,j)=>cs.setIfInBounds (off+j) c) z).size=z.size:=by
    rw[←Array.length_toList,VI,ke,Array.length_toList]
   rw[this];exact ag4
end
end Go.Vc
