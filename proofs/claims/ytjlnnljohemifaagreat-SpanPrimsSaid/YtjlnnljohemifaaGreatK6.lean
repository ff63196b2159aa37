/- Texts put behind each other. -/
import Derived.Test.YtjlnnljohemifaaGreatK98
import Derived.Test.YtjlnnljohemifaaGreatK5
set_option maxRecDepth 100000
set_option maxHeartbeats 8000000
set_option linter.unusedVariables false
namespace Go.Vc
def cu(P:Program)(t:TypeId):Option Shape:=
 match P.underlying t with
 |some (.int _)=>some .int
 |some .string=>some .str
 |some .bool=>some .bool
 |some (.struct _)=>
  match shapeOf P eF t with
  |some (.s l)=>if l.all (fun(off,agg,sh)=>agg.isNone && jM sh)then some (.s l)else none
  |_=>none
 |_=>none
def TO:Shape→Bool| .s _=>false|_=>true
def Fb:TypeDesc→Bool| .slice _=>true| .string=>true|_=>false
def Hy(P:Program)(o:Oper):Option c7:=
 match o.op with
 | .move x=>some (.mov x)
 | .assign x=>some (.mov x)
 | .pick c a b=>some (.pick c a b)
 | .box T x=>some (.box T x)
 | .alloc T=>(fh P T).map fun z=>.zero T (aF z)
 | .build t ps=>(fh P t).bind fun z=>(parts P t (aF z).length ps.toList).map (.build (aF z))
 | .buildSlice t n ps=>
  match P.underlying t with
  |some (.slice e)=>(fh P e).bind fun z=>
   if(P.info? e).isSome∧P.cellsOf e≠0∧(aF z).length=P.cellsOf e∧n*P.cellsOf e≤2^24 then
    (jN (fun i=>some (i*P.cellsOf e,P.cellsOf e)) (n*P.cellsOf e) ps.toList).map (.lit e n (cz (aF z) n))
   else none
  |_=>none
 | .load t x=>if(P.info? t).isSome∧(P.underlying t).isSome then(if eE P t then some (.NK (P.cellsOf t) x)else some (.NJ x))else none
 | .store t x v=>if(P.info? t).isSome∧P.cellsOf t≠0 then some (.store (P.cellsOf t) x v)else none
 | .nilCheck x=>some (.nilCheck x)
 | .binOp op t x y _=>
  match op with
  | .eql| .neq=>
   match P.underlying t,y with
   |some (.interface _),.const .nilIface=>some (.TN (match op with| .neq=>true|_=>false) x)
   |_,_=>(shapeOf P eF t).bind fun s=>if TO s=true∨P.eqGuardType P.depth t=false then some (.bin op s x y)else none
  |_=>some (.bin op .int x y)
 | .unOp op _ x=>some (.un op x)
 | .convert src dst x=>
  match P.underlying src,P.underlying dst with
  |some (.int _),some (.int k)=>some (.conv k x)
  |some (.slice e),some .string=>(match P.underlying e with|some (.int .u8)=>some (.NL x)|_=>none)
  |some .string,some (.slice e)=>(match P.underlying e with|some (.int .u8)=>some (.IR e x)|_=>none)
  |_,_=>none
 | .makeInterface t x=>match P.underlying t with|some (.interface _)=>none|some _=>some (.iface t x)|none=>none
 | .makeFunc fn first captured=>some (.func fn first.toList captured.toList)
 | .makeMap t none=>some .MK
 | .makeSlice t n c=>
  match P.underlying t with
  |some (.slice e)=>(fh P e).bind fun z=>if(P.info? e).isSome∧P.cellsOf e≠0∧(aF z).length=P.cellsOf e then some (.makeSlice e (P.bytesOf e) (P.cellsOf e) (aF z) n c)else none
  |_=>none
 | .slice t x lo hi mx=>
  match P.underlying t with
  |some (.slice e)=>if(P.info? e).isSome∧(mx.isNone∨hi.isSome)then some (.slice (P.cellsOf e) x lo hi mx)else none
  |some .string=>if mx.isNone then some (.IN x lo hi)else none
  |_=>none
 | .fieldAddr s x f=>
  match P.underlying s with
  |some (.struct fields)=>(fields[f]?).bind fun fd=>if(P.info? fd.type).isSome∧P.cellsOf fd.type≠0 then some (.fieldAddr fd.offset x)else none
  |_=>none
 | .field t x f=>
  match P.underlying t with
  |some (.struct fields)=>(fields[f]?).bind fun fd=>if(P.info? fd.type).isSome∧(P.underlying fd.type).isSome then some (.field fd.offset (if eE P fd.type then some (P.cellsOf fd.type)else none) x)else none
  |_=>none
 | .indexAddr t x i=>
  match P.underlying t with
  |some (.slice e)=>if(P.info? e).isSome then some (.indexAddr (P.cellsOf e) x i)else none
  |some (.array n e)=>if(P.info? e).isSome then some (.Au n (P.cellsOf e) x i)else none
  |_=>none
 | .index t x i=>match P.underlying t with|some .string=>some (.IP x i)|_=>none
 | .lookup t x i ok=>
  match P.underlying t with
  |some (.map k e)=>(cu P k).bind fun s=>(fh P e).map fun z=>.lookup s z ok x i
  |_=>none
 | .mapUpdate t m k v=>match P.underlying t with|some (.map kt _)=>(cu P kt).map fun s=>.update s m k v|_=>none
 | .extract x i=>some (.extract i x)
 | .typeAssert x _ T false=>(match P.underlying T with|some (.interface _)=>none|some _=>some (.IQ T x)|none=>none)
 | .call c=>
  match c.callee with
  | .value (.func f)=>if ee P f then some (.call f c.args.toList)else some (.ext f c.args.toList)
  | .value x=>some (.dyn x c.args.toList)
  | .invoke r name=>some (.invoke r name c.args.toList)
  | .builtin .len=>
   match c.args.toList,(c.argTypes[0]?).bind P.underlying with
   | [x],some (.slice _)=>some (.TI x)
   | [x],some .string=>some (.TJ x)
   | [x],some (.map _ _)=>some (.TK x)
   |_,_=>none
  | .builtin .append=>
   match c.args.toList,(c.argTypes[0]?).bind P.underlying,(c.argTypes[1]?).bind P.underlying with
   | [x,y],some (.slice e),some d=>(fh P e).bind fun z=>
    if(P.info? e).isSome∧P.cellsOf e≠0∧(aF z).length=P.cellsOf e∧P.bytesOf e≠0∧Fb d=true then
     some (.append e (P.cellsOf e) (P.bytesOf e) (aF z) x y)else none
   |_,_,_=>none
  | .builtin .delete=>
   match c.args.toList,(c.argTypes[0]?).bind P.underlying with
   | [m,k],some (.map kt _)=>(cu P kt).map fun s=>.delete s m k
   |_,_=>none
  | .builtin .clear=>
   match c.args.toList,(c.argTypes[0]?).bind P.underlying with
   | [x],some (.slice e)=>(fh P e).bind fun z=>if(aF z).length≠0 then some (.ML (aF z) x)else none
   |_,_=>none
  | .builtin .min=>some (.TL c.args.toList)
  | .builtin .max=>some (.TM c.args.toList)
  |_=>none
 |_=>none
def KE:Value→List Value→Option Value
 |v,[]=>some v
 |v,u::r=>match v,u with
  | .int k a,.int _ b=>KE (.int k (if b<a then b else a)) r
  |_,_=>none
def abz(l:List Value):Option Value:=match l with| []=>none|v::r=>KE v r
def KF:Value→List Value→Option Value
 |v,[]=>some v
 |v,u::r=>match v,u with
  | .int k a,.int _ b=>KF (.int k (if b>a then b else a)) r
  |_,_=>none
def abA(l:List Value):Option Value:=match l with| []=>none|v::r=>KF v r
@[go_sem] theorem YP(v:Value)(r:List Value):abz (v::r)=KE v r:=(rfl)
@[go_sem] theorem abB(v:Value):KE v []=some v:=(rfl)
@[go_sem] theorem YQ(k k':IntKind)(a b:Int)(r:List Value):KE (.int k a) (.int k' b::r)=KE (.int k (if b<a then b else a)) r:=(rfl)
@[go_sem] theorem YR(v:Value)(r:List Value):abA (v::r)=KF v r:=(rfl)
@[go_sem] theorem abC(v:Value):KF v []=some v:=(rfl)
@[go_sem] theorem YS(k k':IntKind)(a b:Int)(r:List Value):KF (.int k a) (.int k' b::r)=KF (.int k (if b>a then b else a)) r:=(rfl)
def nR(ev:Ev)(x:Option Operand)(d:Nat)(F:Int→Prop):Prop:=
 match x with
 |none=>F d
 |some x=>aA (ev x) fun v=>B6 v F
@[go_sem ↓] theorem UH(ev:Ev)(d:Nat)(F:Int→Prop):nR ev none d F=F d:=(rfl)
@[go_sem ↓] theorem UI(ev:Ev)(x:Operand)(d:Nat)(F:Int→Prop):nR ev (some x) d F=aA (ev x) fun v=>B6 v F:=(rfl)
def KG(H:Hp)(r:Option Nat)(F:Nat→Prop):Prop:=
 match r with
 |none=>F 0
 |some b=>aA (H.mp b) fun m=>F m.1.length
@[go_sem ↓] theorem Xc(H:Hp)(b:Nat)(F:Nat→Prop):KG H (some b) F=aA (H.mp b) fun m=>F m.1.length:=(rfl)
def gL(ok:Bool)(z:Value)(x:Option Value):Value:=
 bif ok then(match x with|some v=>.tuple [v,.bool true].toArray|none=>.tuple [z,.bool false].toArray)else x.getD z
@[go_sem] theorem PD(z v:Value):gL true z (some v)= .tuple [v,.bool true].toArray:=(rfl)
@[go_sem] theorem PE(z:Value):gL true z none= .tuple [z,.bool false].toArray:=(rfl)
@[go_sem] theorem TP(z v:Value):gL false z (some v)=v:=(rfl)
@[go_sem] theorem TQ(z:Value):gL false z none=z:=(rfl)
def Fc:Value→Bool
 | .pointer (some _)=>true
 | .iface .. =>true
 | .func (.func _) _ _=>true
 |_=>false
@[go_sem] theorem YT(a:Addr):Fc (.pointer (some a))=true:=(rfl)
@[go_sem] theorem UJ(t:TypeId)(v:Value):Fc (.iface t v)=true:=(rfl)
@[go_sem] theorem Xd(f:FuncId)(a b:Array Value):Fc (.func (.func f) a b)=true:=(rfl)
def Ow(P:Program)(v:Value):Prop:=
 Fc v=true∨∃name t u cap,v= .func (.method name) #[.iface t u] cap∧∀w,(nilAhead (P.types.size+Made.depth) t u name).run P w= .ok (some false) w
@[go_sem] theorem abD(P:Program)(a:Addr):Ow P (.pointer (some a))=True:=eq_true (.inl rfl)
@[go_sem] theorem Xe(P:Program)(t:TypeId)(v:Value):Ow P (.iface t v)=True:=eq_true (.inl rfl)
@[go_sem] theorem YU(P:Program)(f:FuncId)(a b:Array Value):Ow P (.func (.func f) a b)=True:=eq_true (.inl rfl)
def c7.vc(P:Program)(ev:Ev)(H:Hp)(K:Value→Hp→Prop):c7→Prop
 | .mov x=>aA (ev x) fun v=>K v H
 | .pick c a b=>aA (ev c) fun cv=>Ao cv fun t=>aA (bif t then ev a else ev b) fun v=>K v H
 | .box T x=>aA (ev x) fun v=>now (H.new T (aF v)) fun H'=>K (.pointer (some ⟨H.size,0,none⟩)) H'
 | .zero T l=>now (H.new T l) fun H'=>K (.pointer (some ⟨H.size,0,none⟩)) H'
 | .build z ps=>Aq ev z ps fun l=>now l fun l=>K (.agg l.toArray) H
 | .lit T n z ps=>Aq ev z ps fun l=>now (H.new T l) fun H'=>K (.slice (some ⟨H.size,0,none⟩) n n) H'
 | .NJ x=>aA (ev x) fun p=>wk p fun b o=>aA (H.rd b) fun l=>aA l[o]? fun v=>K v H
 | .NK n x=>aA (ev x) fun p=>wk p fun b o=>aA (H.rd b) fun l=>dt (o+n≤l.length) (K (.agg ((l.drop o).take n).toArray) H)
 | .store n x v=>aA (ev x) fun p=>wk p fun b o=>aA (ev v) fun v=>aA (ID (H.own b) (H.AH b)) fun l=>
   dt ((aF v).length=n) (dt (qB (aF v)=true) (dt (o+n≤l.length) (now (H.wr b (bf l o (aF v))) fun H'=>K undef H')))
 | .nilCheck x=>aA (ev x) fun v=>dt (Ow P v) (K v H)
 | .bin op s x y=>aA (ev x) fun a=>aA (ev y) fun b=>aA (cd op s a b) fun v=>K v H
 | .un op x=>aA (ev x) fun a=>aA (unF op a) fun v=>K v H
 | .conv k x=>aA (ev x) fun a=>B6 a fun n=>K (.int k (k.wrap n)) H
 | .iface T x=>aA (ev x) fun v=>K (.iface T v) H
 | .func fn first captured=>MH ev first fun l=>MH ev captured fun c=>K (.func fn l.toArray c.toArray) H
 | .MK=>K (.map (some H.size)) H.gS
 | .makeSlice T bytes size z n c=>aA (ev n) fun nv=>aA (ev c) fun cv=>B6 nv fun n=>B6 cv fun c=>
   dt (0≤n∧n≤c∧c≤2^48∧bytes*c≤2^48) (now (H.new T (cz z c.toNat)) fun H'=>K (.slice (some ⟨H.size,0,none⟩) n.toNat c.toNat) H')
 | .slice size x lo hi mx=>aA (ev x) fun v=>nQ v fun a n c=>nR ev mx c fun m=>nR ev hi n fun h=>nR ev lo 0 fun l=>
   dt (0≤l∧l≤h∧h≤m∧m≤c) (K (.slice (if m=l then a else a.map (·.add (l.toNat*size))) (h.toNat - l.toNat) (m.toNat - l.toNat)) H)
 | .IN x lo hi=>aA (ev x) fun v=>jd v fun s=>nR ev hi s.size fun h=>nR ev lo 0 fun l=>
   dt (0≤l∧l≤h∧h≤s.size) (K (.string (s.extract l.toNat h.toNat)) H)
 | .fieldAddr off x=>aA (ev x) fun p=>wk p fun b o=>K (.pointer (some ⟨b,o+off,none⟩)) H
 | .field off agg x=>aA (ev x) fun v=>O8 v fun l=>aA (dR l off agg) fun v=>K v H
 | .indexAddr size x i=>aA (ev x) fun v=>aA (ev i) fun iv=>nQ v fun a n _=>B6 iv fun i=>dt (0≤i∧i<n) (tH a fun b o=>K (.pointer (some ⟨b,o+i.toNat*size,none⟩)) H)
 | .Au aO size x i=>aA (ev x) fun p=>aA (ev i) fun iv=>wk p fun b o=>B6 iv fun i=>dt (0≤i∧i<aO) (K (.pointer (some ⟨b,o+i.toNat*size,none⟩)) H)
 | .IP x i=>aA (ev x) fun v=>aA (ev i) fun iv=>jd v fun s=>B6 iv fun i=>dt (0≤i) (aA (s[i.toNat]?) fun b=>K (.int .u8 b.toNat) H)
 | .lookup s z ok m k=>aA (ev m) fun mv=>aA (ev k) fun kv=>B7 mv fun r=>dt (Aa s kv=true) (wM H s r kv fun x=>K (gL ok z x) H)
 | .update s m k v=>aA (ev m) fun mv=>aA (ev k) fun kv=>aA (ev v) fun vv=>B7 mv fun r=>aA r fun b=>dt (Aa s kv=true) (QU H s b kv vv fun H'=>K undef H')
 | .extract i x=>aA (ev x) fun v=>O7 v fun l=>aA l[i]? fun v=>K v H
 | .call f args=>MH ev args fun vs=>af P f vs H K
 | .dyn f args=>aA (ev f) fun fv=>MH ev args fun vs=>Xa P fv vs H K
 | .invoke r name args=>aA (ev r) fun rv=>MH ev args fun vs=>gC P rv name vs H K
 | .TI x=>aA (ev x) fun v=>nQ v fun _ n _=>K (.int .i64 n) H
 | .TJ x=>aA (ev x) fun v=>jd v fun s=>K (.int .i64 s.size) H
 | .TK x=>aA (ev x) fun v=>B7 v fun r=>KG H r fun n=>K (.int .i64 n) H
 | .append T size bytes z x y=>aA (ev x) fun xv=>aA (ev y) fun yv=>fQ T size bytes z xv yv H K
 | .delete s m k=>aA (ev m) fun mv=>aA (ev k) fun kv=>B7 mv fun r=>aA r fun b=>dt (Aa s kv=true) (W8 H s b kv fun H'=>K (.tuple [].toArray) H')
 | .ML z x=>aA (ev x) fun v=>nQ v fun a n _=>W9 H z a n fun H'=>K (.tuple [].toArray) H'
 | .TL args=>MH ev args fun vs=>aA (abz vs) fun v=>K v H
 | .TM args=>MH ev args fun vs=>aA (abA vs) fun v=>K v H
 | .IQ T x=>aA (ev x) fun v=>uw T v fun u=>K u H
 | .TN neg x=>aA (ev x) fun v=>MI v fun b=>K (.bool (MJ neg b)) H
 | .NL x=>aA (ev x) fun v=>tO H v fun l=>K (.string ⟨l.toArray⟩) H
 | .IR T x=>aA (ev x) fun v=>jd v fun s=>Rz T s H K
 | .ext f args=>MH ev args fun vs=>agi P f vs H K
attribute [go_sem ↓] c7.vc
section
variable {P : Program} {o : Oper} {a : Act} {ev : Ev} {H : Hp} {K : Value → Hp → Prop}
def dN(P:Program)(o:Oper)(a:Act)(H:Hp)(K:Value→Hp→Prop):Prop:=∃v,(∀w,(execOp a.eval o).run P w= .ok (.value v) w)∧K v H
theorem dN.agj(h:dN P o a H K):dJ P o a H K:=by
 obtain⟨v,h1,h2⟩:=h
 exact fun w hw=>.inl ⟨v,w,h1 w,bX.refl w,hw▸h2⟩
theorem ap{t:TypeId}{d:TypeDesc}(h:P.underlying t=some d)(w:World):(underlying t).run P w= .ok d w:=run_underlying h w
theorem dQ{t:TypeId}{i:TypeInfo}(h:P.info? t=some i)(w:World):(typeInfo t).run P w= .ok i w:=by simp[typeInfo,h]
theorem bG{t:TypeId}(h:(P.info? t).isSome=true)(w:World):(sizeOf t).run P w= .ok (P.cellsOf t) w:=by
 obtain⟨i,hi⟩:=Option.isSome_iff_exists.1 h
 simp[sizeOf,dQ hi,Program.cellsOf,hi]
theorem cF{t:TypeId}{z:Value}(h:fh P t=some z)(w:World):(zeroValue t).run P w= .ok z w:=by
 unfold fh at h
 cases hi:P.info? t with
 |none=>rw[hi]at h;cases h
 |some i=>rw[hi]at h;simp only[Option.bind_some]at h;simp[zeroValue,dQ hi,h]
theorem yu{t:TypeId}(h:(P.underlying t).isSome=true)(w:World):(isAgg t).run P w= .ok (eE P t) w:=by
 obtain⟨d,hd⟩:=Option.isSome_iff_exists.1 h
 unfold isAgg eE
 simp only[Sem.run_bind,ap hd,Result.andThen_ok,hd]
 cases d<;>rfl
theorem Cx(t:TypeId)(v:Value)(w:World):(newVar t v).run P w= .ok ⟨w.heap.size,0,none⟩ {w with heap:=Hp.new w.heap t (aF v)}:=by
 simp only[newVar,newRow,Sem.run_bind,run_newObj,Result.andThen_ok,Sem.run_pure,Hp.new,←eo,aoP]
theorem kF(t:TypeId)(c:Array Value)(w:World):(newRow t c).run P w= .ok ⟨w.heap.size,0,none⟩ {w with heap:=Hp.new w.heap t c.toList}:=by
 simp only[newRow,Sem.run_bind,run_newObj,Result.andThen_ok,Sem.run_pure,Hp.new,aoP]
theorem je{t:TypeId}{w:World}{b o:Nat}{l:List Value}(hi:(P.info? t).isSome=true)(hu:(P.underlying t).isSome=true)(h:Hp.rd w.heap b=some l):
  (eE P t=true→o+P.cellsOf t≤l.length→(loadVar t ⟨b,o,none⟩).run P w= .ok (.agg ((l.drop o).take (P.cellsOf t)).toArray) w)∧
  (eE P t=false→∀v,l[o]? =some v→(loadVar t ⟨b,o,none⟩).run P w= .ok v w):=by
 refine⟨fun ha hn=>?_,fun ha v hv=>?_⟩
 ·simp[loadVar,yu hu,ha,bG hi,oY (P:=P) (a:=⟨b,o,none⟩) rfl h hn]
 ·have hc:w.cell? ⟨b,o,none⟩=some v:=(mi rfl h).trans hv
  simp[loadVar,yu hu,ha,hc]
theorem GR{t:TypeId}{w:World}{b o:Nat}{l:List Value}{v:Value}(hi:(P.info? t).isSome=true)(h0:P.cellsOf t≠0)(h:ID (Hp.own w.heap b) (Hp.AH w.heap b)=some l)
  (hl:(aF v).length=P.cellsOf t)(h1:gv (aF v))(hn:o+P.cellsOf t≤l.length):
  ∃w',(storeVar t ⟨b,o,none⟩ v).run P w= .ok () w'∧bX w w'∧w'.heap=Hp.wr w.heap b (bf l o (aF v)):=by
 obtain⟨w',hr,hs,hk,_⟩:=gW (P:=P) (b:=b) (o:=o) (aF v) 0 w l h (by omega) h1
 refine⟨w',?_,hs,hk (fun e=>by rw[e]at hl;exact h0 hl.symm)⟩
 have e:v.cells.size=P.cellsOf t:=by rw[←hl,←eo];simp
 simp only[storeVar,Sem.run_bind,bG hi,Result.andThen_ok,e,ne_eq,not_true_eq_false,if_false,eo]
 exact hr
end
end Go.Vc

set_option linter.unusedSimpArgs false
namespace Go.Vc
section
variable {P : Program} {o : Oper} {a : Act} {ev : Ev} {H : Hp} {K : Value → Hp → Prop}
theorem dt.out{c F:Prop}(h:dt c F):c∧F:=h
theorem yw{v:Value}{F:Bool→Prop}(h:Ao v F):∃b,v= .bool b∧F b:=by
 unfold Ao at h;split at h
 ·exact⟨_,rfl,h⟩
 ·exact h.elim
theorem uA{l:List Value}{t:TypeId}{off:Nat}{v:Value}(hi:(P.info? t).isSome=true)(hu:(P.underlying t).isSome=true)
  (h:dR l off (if eE P t then some (P.cellsOf t)else none)=some v)(w:World):(part t l.toArray off).run P w= .ok v w:=by
 unfold part
 simp only[Sem.run_bind,yu hu,Result.andThen_ok]
 cases hb:eE P t
 ·rw[hb]at h
  simp only[aof,if_false,dR]at h ⊢
  simp[h]
 ·rw[hb]at h
  simp only[if_true,dR]at h ⊢
  split at h
  ·injection h with h
   subst h
   simp only[Sem.run_bind,bG hi,Result.andThen_ok,Sem.run_pure]
   congr 2
   apply Array.ext'
   simp[List.take_drop]
  ·cases h
theorem info_of_underlying{t:TypeId}(h:(P.underlying t).isSome=true):(P.info? t).isSome=true:=by
 unfold Program.underlying at h
 cases hi:P.info? t with
 |none=>rw[hi]at h;simp at h
 |some i=>rfl
theorem KH(m:Nat){t:TypeId}{s:Shape}{x y:Value}{b:Bool}{d:Nat}(ht:shapeOf P d t=some s)(hs:∀fs,s≠ .s fs)(h:bc s x y=some b)(w:World):
  (Op.equalIn (m+1) t x y).run P w= .ok b w:=by
 cases d with
 |zero=>simp[shapeOf]at ht
 |succ d=>
  rw[fT]at ht
  split at ht
  case h_9=>
   split at ht
   ·cases ht
   ·rename_i fs hu hp
    cases YV:eM P d fs.toList with
    |none=>rw[YV]at ht;cases ht
    |some l=>rw[YV]at ht;injection ht with ht;exact absurd ht.symm (hs l)
  case h_10=>cases ht
  all_goals(injection ht with ht;subst ht)
  all_goals(unfold bc at h;split at h<;>rename_i hu<;>first| (cases hu;done)| (cases h;done)|skip)
  all_goals(try(split at h<;>first| (cases h;done)|skip))
  all_goals(injection h with h;subst h)
  all_goals(simp only[Op.equalIn,Sem.run_bind,ap ‹P.underlying t=_›,Result.andThen_ok])
  all_goals first|rfl| (rw[if_pos (by assumption)];rfl)| (simp[*,beq_toListBytes];done)| (simp_all;done)|skip
theorem Av:∀ (d:Nat),
  (∀ (t:TypeId) (s:Shape) (x y:Value) (b:Bool),shapeOf P d t=some s→mO s x y=some b→∀ (m:Nat) (w:World),(Op.equalIn (m+d) t x y).run P w= .ok b w)∧
  (∀ (fs:List Field) (l:List (Nat×Option Nat×Shape)) (xs ys:List Value) (b:Bool),eM P d fs=some l→vP l xs ys=some b→
   ∀ (m:Nat) (w:World),(Op.eqFields (m+d) xs.toArray ys.toArray fs).run P w= .ok b w):=by
 intro d
 induction d with
 |zero=>
  refine⟨fun t s x y b ht=>(by simp[shapeOf]at ht),fun fs l xs ys b hl h m w=>?_⟩
  cases fs with
  |nil=>simp only[Ap,anl]at hl;subst hl;simp only[vP,anl]at h;subst h;rfl
  |cons f fs=>simp[nP,shapeOf]at hl
 |succ d ih=>
  have first:∀ (t:TypeId) (s:Shape) (x y:Value) (b:Bool),shapeOf P (d+1) t=some s→mO s x y=some b→∀ (m:Nat) (w:World),(Op.equalIn (m+(d+1)) t x y).run P w= .ok b w:=by
   intro t s x y b ht h m w
   by_cases hs:∃fs,s= .s fs
   ·obtain⟨l,rfl⟩:=hs
    cases x with
    |agg xs=>
     cases y with
     |agg ys=>
      simp only[mO]at h
      rw[fT]at ht
      split at ht
      case h_9=>
       split at ht
       ·cases ht
       ·rename_i fs hu hp
        cases YV:eM P d fs.toList with
        |none=>rw[YV]at ht;cases ht
        |some l'=>
         rw[YV]at ht
         simp only[Option.map_some,anl,Shape.s.injEq]at ht
         subst ht
         have hf:P.fieldsOf t=fs:=by simp[Program.fieldsOf,hu]
         rw[show m+(d+1)=(m+d)+1 by omega,run_equalIn_struct w (m+d) t xs ys (by rw[hf];exact hu) (by simpa using hp),hf]
         have:=(ih.2 fs.toList l' xs.toList ys.toList b YV h m w)
         simpa using this
      all_goals cases ht
     |_=>simp[mO,bc]at h
    |_=>cases y<;>simp[mO,bc]at h
   ·have h':bc s x y=some b:=by
     cases s<;>first|exact h| (exact absurd ⟨_,rfl⟩ hs)
    exact KH (m+d) ht (fun fs e=>hs ⟨fs,e⟩) h' w
  refine⟨first,fun fs=>?_⟩
  induction fs with
  |nil=>intro l xs ys b hl h m w;simp only[Ap,anl]at hl;subst hl;simp only[vP,anl]at h;subst h;rfl
  |cons f fs ihf=>
   intro l xs ys b hl h m w
   rw[nP]at hl
   split at hl
   ·cases hl
   ·rename_i RA
    split at hl
    ·cases hl
    ·rename_i sh E7
     cases hr:eM P (d+1) fs with
     |none=>rw[hr]at hl;cases hl
     |some l'=>
      rw[hr]at hl
      simp only[Option.map_some,anl]at hl
      subst hl
      unfold vP at h
      split at h
      ·cases h
      ·rename_i x hx
       split at h
       ·cases h
       ·rename_i y hy
        have hu:(P.underlying f.type).isSome=true:=by
         rw[fT]at E7
         split at E7<;>first| (cases E7;done)|simp_all
        have hi:=info_of_underlying hu
        simp only[Op.eqFields,RA,ne_eq,not_false_eq_true,if_true,Sem.run_bind,uA hi hu hx,uA hi hu hy,Result.andThen_ok]
        split at h
        ·rename_i he
         rw[first f.type sh x y true E7 he m w]
         simpa using ihf l' xs ys b hr h m w
        ·rename_i he
         injection h with h
         subst h
         rw[first f.type sh x y false E7 he m w]
         simp
        ·cases h
end
end Go.Vc

namespace Go.Vc
section
variable {P : Program} {o : Oper} {a : Act} {ev : Ev} {H : Hp} {K : Value → Hp → Prop}
abbrev bM(ev:Ev)(a:Act):Prop:=∀x v,ev x=some v→a.eval x=v
theorem aS{x:Operand}{F:Value→Prop}(bC:bM ev a)(h:aA (ev x) F):F (a.eval x):=by
 obtain⟨v,hv,h⟩:=ay h
 rw[bC x v hv];exact h
theorem KI{x:Operand}(bC:bM ev a)(ho:o.op= .move x∨o.op= .assign x)(h:(c7.mov x).vc P ev H K):dN P o a H K:=by
 have h:=aS bC h
 refine⟨_,fun w=>?_,h⟩
 rcases ho with ho|ho<;>simp[execOp,ho]
theorem O9{c x y:Operand}(bC:bM ev a)(ho:o.op= .pick c x y)(h:(c7.pick c x y).vc P ev H K):dN P o a H K:=by
 obtain⟨b,hb,h⟩:=yw (aS bC h)
 have h2:aA (ev (bif b then x else y)) fun v=>K v H:=by cases b<;>exact h
 have h:=aS bC h2
 refine⟨_,fun w=>?_,h⟩
 simp only[execOp,ho,hb,asBool]
 cases b<;>simp
theorem GS{x:Operand}(bC:bM ev a)(ho:o.op= .nilCheck x)(h:(c7.nilCheck x).vc P ev H K):dN P o a H K:=by
 obtain⟨hn,h⟩:=(aS bC h).out
 refine⟨_,fun w=>?_,h⟩
 simp only[execOp,ho]
 rcases hn with hn| ⟨name,t,u,cap,hv,hn⟩
 ·revert hn
  generalize a.eval x=v
  cases v with
  |pointer q=>cases q<;>simp[Fc]
  |func fn x y=>cases fn<;>simp[Fc]
  |_=>simp[Fc]
 ·rw[hv]
  have hz:(#[Value.iface t u]:Array Value)[0]? =some (.iface t u):=rfl
  simp[hz,hn w]
theorem TR{op:UnOp}{t:TypeId}{x:Operand}(bC:bM ev a)(ho:o.op= .unOp op t x)(h:(c7.un op x).vc P ev H K):dN P o a H K:=by
 obtain⟨v,hv,h⟩:=ay (aS bC h)
 refine⟨v,fun w=>?_,h⟩
 simp only[execOp,ho]
 revert hv
 generalize a.eval x=u
 intro hv
 unfold unF at hv
 split at hv<;>first| (cases hv;done)|skip
 all_goals(injection hv with hv;subst hv;simp[Op.unary,Op.intArith,Op.intBits])
theorem Pa{s t:TypeId}{k k':IntKind}{x:Operand}(bC:bM ev a)(ho:o.op= .convert s t x)(hs:P.underlying s=some (.int k'))(ht:P.underlying t=some (.int k))
  (h:(c7.conv k x).vc P ev H K):dN P o a H K:=by
 obtain⟨k1,n,hn,h⟩:=iu (aS bC h)
 refine⟨_,fun w=>?_,h⟩
 simp only[execOp,ho,convert,hn,Sem.run_bind,ap hs,ap ht,Result.andThen_ok,Conv.intToInt]
 rfl
theorem RB{t:TypeId}{ms:Array (String×TypeId)}(hu:P.underlying t=some (.interface ms))(v:Value)(b:Bool)(hv:(v= .nilIface∧b=true)∨∃t' u,v= .iface t' u∧b=false)(w:World):(Op.equal t v .nilIface).run P w= .ok b w:=by
 have h:∀m:Nat,(Op.equalIn (m+1) t v .nilIface).run P w= .ok b w:=fun m=>by
  rcases hv with ⟨rfl,rfl⟩| ⟨t',u,rfl,rfl⟩<;>simp only[Op.equalIn,Sem.run_bind,ap hu,Result.andThen_ok]<;>rfl
 exact h 9999
theorem Hz{op:BinOp}{neg:Bool}{t t':TypeId}{ms:Array (String×TypeId)}{x:Operand}(bC:bM ev a)(ho:o.op= .binOp op t x (.const .nilIface) t')(hu:P.underlying t=some (.interface ms))
  (yF:(op= .eql∧neg=false)∨(op= .neq∧neg=true))(h:(c7.TN neg x).vc P ev H K):dN P o a H K:=by
 obtain⟨b,hv,h⟩:∃b,((a.eval x= .nilIface∧b=true)∨∃t' u,a.eval x= .iface t' u∧b=false)∧K (.bool (MJ neg b)) H:=by
  rcases Hx (aS bC h)with ⟨e,h⟩| ⟨t',u,e,h⟩
  ·exact⟨true,.inl ⟨e,rfl⟩,h⟩
  ·exact⟨false,.inr ⟨t',u,e,rfl⟩,h⟩
 refine⟨_,fun w=>?_,h⟩
 have hr:=RB (P:=P) hu (a.eval x) b hv w
 have hc:a.eval (.const .nilIface)= .nilIface:=rfl
 simp only[execOp,ho,Sem.run_bind,hc]
 generalize a.eval x=u at hv hr ⊢
 have hg:(eqGuard op t x (.const .nilIface) u .nilIface).run P w= .ok () w:=by
  unfold eqGuard
  rcases yF with ⟨rfl,_⟩| ⟨rfl,_⟩<;>rcases hv with ⟨rfl,_⟩| ⟨t',u',rfl,_⟩<;>simp
 rw[hg]
 simp only[Result.andThen_ok]
 rcases yF with ⟨rfl,rfl⟩| ⟨rfl,rfl⟩<;>rcases hv with ⟨rfl,rfl⟩| ⟨t',u',rfl,rfl⟩<;>simp[binOp,hr,MJ]
theorem KJ{s t:TypeId}{d:TypeDesc}{x:Operand}(bC:bM ev a)(ho:o.op= .typeAssert x s t false)(hs:P.underlying t=some d)(hd:∀ms,d≠ .interface ms)
  (h:(c7.IQ t x).vc P ev H K):dN P o a H K:=by
 obtain⟨u,hx,h⟩:=As (aS bC h)
 refine⟨_,fun w=>?_,h⟩
 simp only[execOp,ho,hx,Instr.typeAssert,Sem.run_bind,ap hs,Result.andThen_ok]
 cases d<;>first| (exact absurd rfl (hd _))|simp
theorem MM{t:TypeId}{d:TypeDesc}{x:Operand}(bC:bM ev a)(ho:o.op= .makeInterface t x)(hs:P.underlying t=some d)(hd:∀ms,d≠ .interface ms)
  (h:(c7.iface t x).vc P ev H K):dN P o a H K:=by
 have h:=aS bC h
 refine⟨_,fun w=>?_,h⟩
 simp only[execOp,ho,Instr.makeInterface,Sem.run_bind,ap hs,Result.andThen_ok]
 cases d<;>first| (exact absurd rfl (hd _))|simp
theorem Pb{fn:Fn}{first captured:Array Operand}(bC:bM ev a)(ho:o.op= .makeFunc fn first captured)(h:(c7.func fn first.toList captured.toList).vc P ev H K):dN P o a H K:=by
 have h:=kE bC (kE bC h)
 refine⟨_,fun w=>?_,h⟩
 simp only[execOp,ho,Instr.makeFunc,Sem.run_bind,Sem.run_pure,Result.andThen_ok]
 congr 3
 ·apply Array.ext';simp
 ·apply Array.ext';simp
theorem qC{c:Bool}{m:Sem Unit}{w:World}(h:m.run P w= .ok () w):(if(!c)=true then(pure ():Sem Unit)else m).run P w= .ok () w:=by
 cases c
 ·rfl
 ·simpa using h
theorem tP{op:BinOp}{t:TypeId}{s:Shape}{x y:Operand}{u v:Value}{b:Bool}(h:mO s u v=some b)(hg:TO s=true∨P.eqGuardType P.depth t=false)(w:World):
  (eqGuard op t x y u v).run P w= .ok () w:=by
 unfold eqGuard
 refine qC ?_
 cases u with
 |nilIface=>
  cases v with
  |nilIface=>cases s<;>simp[mO,bc]at h
  |_=>rfl
 |agg xs=>
  cases v with
  |agg ys=>
   rcases hg with hg|hg
   ·cases s<;>simp_all[mO,bc,TO]
   ·simp[hg]
  |_=>rfl
 |_=>cases v<;>rfl
theorem Fe{t:TypeId}{s:Shape}{u v:Value}{b:Bool}(hs:shapeOf P eF t=some s)(h:mO s u v=some b)(hu:∀k n,u≠ .int k n∨∀k' m,v≠ .int k' m)
  (sY:∀x,u≠ .string x∨∀y,v≠ .string y)(w:World):
  (binOp .eql t u v).run P w= .ok (.bool b) w∧(binOp .neq t u v).run P w= .ok (.bool (!b)) w:=by
 have he:(Op.equal t u v).run P w= .ok b w:=by
  unfold Op.equal Op.maxDepth
  have:=(Av (P:=P) eF).1 t s u v b hs h (10000 - eF) w
  simpa[eF]using this
 have aM:∀ {op},op=BinOp.eql∨op=BinOp.neq→binOp op t u v=(if op=BinOp.eql then(do pure (.bool (←Op.equal t u v)))else(do pure (.bool (!(←Op.equal t u v))))):=by
  intro op yF
  cases u<;>cases v<;>rcases yF with rfl|rfl<;>first
   |rfl
   | (rcases hu _ _ with h1|h1<;>first|exact absurd rfl h1|exact absurd rfl (h1 _ _))
   | (rcases sY _ with h1|h1<;>first|exact absurd rfl h1|exact absurd rfl (h1 _))
   | (cases s<;>simp[mO,bc]at h)
 rw[aM (.inl rfl),aM (.inr rfl)]
 simp[he]
def RC(op:BinOp)(s:Shape)(u z:Value):Option Value:=match op with| .eql=>(mO s u z).map .bool| .neq=>(mO s u z).map fun b=>.bool (!b)|_=>none
theorem Pd{op:BinOp}{s:Shape}{u z:Value}(h1:∀k n,u≠ .int k n∨∀k' m,z≠ .int k' m)(h2:∀p,u≠ .string p∨∀q,z≠ .string q):cd op s u z=RC op s u z:=by
 unfold cd RC
 split
 ·rcases h1 _ _ with h|h<;>first|exact absurd rfl h|exact absurd rfl (h _ _)
 ·rcases h2 _ with h|h<;>first|exact absurd rfl h|exact absurd rfl (h _)
 ·rfl
theorem Ff{op:BinOp}{t t':TypeId}{s:Shape}{x y:Operand}(bC:bM ev a)(ho:o.op= .binOp op t x y t')
  (hs:(op= .eql∨op= .neq)→shapeOf P eF t=some s∧(TO s=true∨P.eqGuardType P.depth t=false))
  (h:(c7.bin op s x y).vc P ev H K):dN P o a H K:=by
 obtain⟨v,hv,h⟩:=ay (aS bC (aS bC h))
 refine⟨v,fun w=>?_,h⟩
 simp only[execOp,ho,Sem.run_bind]
 generalize hx:a.eval x=u at hv ⊢
 generalize hy:a.eval y=z at hv ⊢
 have hint:∀k n k' m,u= .int k n→z= .int k' m→(eqGuard op t x y u z).run P w= .ok () w∧(binOp op t u z).run P w= .ok v w:=by
  intro k n k' m e1 e2
  subst e1;subst e2
  refine⟨qC rfl,?_⟩
  ·unfold cd at hv
   by_cases hk:k=k'
   ·subst hk
    cases op<;>simp only[binOp,Op.shift,Op.intArith,Op.intDiv,Op.intBits,Op.intCmp]at hv ⊢ <;>simp at hv ⊢ <;>first
     | (subst hv;rfl)
     | (split at hv<;>first| (cases hv;done)| (injection hv with hv;subst hv;rename_i hc;simp[hc];done)|skip)
     | (obtain⟨h1,rfl⟩:=hv;simp[show¬m<0 by omega])
     | (obtain⟨h1,rfl⟩:=hv;simp[h1])
     |skip
   ·cases op<;>simp[hk]at hv<;>simp only[binOp,Op.shift]<;>first
     | (obtain⟨h1,rfl⟩:=hv;simp[show¬m<0 by omega])
     |skip
 have agk:∀p q,u= .string p→z= .string q→(eqGuard op t x y u z).run P w= .ok () w∧(binOp op t u z).run P w= .ok v w:=by
  intro p q e1 e2
  subst e1;subst e2
  refine⟨qC rfl,?_⟩
  ·unfold cd at hv
   cases op<;>simp only[binOp,Op.stringOp]at hv ⊢ <;>simp at hv ⊢ <;>first
    | (subst hv;rfl)
    | (obtain⟨h1,rfl⟩:=hv;simp[show¬ (9223372036854775807:Int)< (p.size:Int)+q.size by omega])
    | (obtain⟨h1,rfl⟩:=hv;rw[if_neg (by omega)])
    | (cases hv;done)
    |skip
 have abE:(∀k n,u≠ .int k n∨∀k' m,z≠ .int k' m)→(∀p,u≠ .string p∨∀q,z≠ .string q)→(eqGuard op t x y u z).run P w= .ok () w∧(binOp op t u z).run P w= .ok v w:=by
  intro h1 h2
  have hb:=Pd (op:=op) (s:=s) h1 h2
  rw[hb]at hv
  cases op<;>simp only[RC]at hv<;>first| (cases hv;done)|skip
  ·obtain⟨et,I3⟩:=hs (.inl rfl)
   cases he:mO s u z with
   |none=>rw[he]at hv;cases hv
   |some b=>rw[he]at hv;injection hv with hv;subst hv;exact⟨tP he I3 w,(Fe et he h1 h2 w).1⟩
  ·obtain⟨et,I3⟩:=hs (.inr rfl)
   cases he:mO s u z with
   |none=>rw[he]at hv;cases hv
   |some b=>rw[he]at hv;injection hv with hv;subst hv;exact⟨tP he I3 w,(Fe et he h1 h2 w).2⟩
 have key:(eqGuard op t x y u z).run P w= .ok () w∧(binOp op t u z).run P w= .ok v w:=by
  by_cases h1:∃k n k' m,u= .int k n∧z= .int k' m
  ·obtain⟨k,n,k',m,e1,e2⟩:=h1;exact hint k n k' m e1 e2
  ·by_cases h2:∃p q,u= .string p∧z= .string q
   ·obtain⟨p,q,e1,e2⟩:=h2;exact agk p q e1 e2
   ·refine abE (fun k n=>?_) (fun p=>?_)
    ·by_cases e:u= .int k n
     ·exact .inr fun k' m e'=>h1 ⟨k,n,k',m,e,e'⟩
     ·exact .inl e
    ·by_cases e:u= .string p
     ·exact .inr fun q e'=>h2 ⟨p,q,e,e'⟩
     ·exact .inl e
 simp[key.1,key.2]
end
end Go.Vc

namespace Go.Vc
section
variable {P : Program} {o : Oper} {a : Act} {ev : Ev} {H : Hp} {K : Value → Hp → Prop}
theorem IT{i:Nat}{x:Operand}(bC:bM ev a)(ho:o.op= .extract x i)(h:(c7.extract i x).vc P ev H K):dN P o a H K:=by
 obtain⟨vs,hv,h⟩:=Hv (aS bC h)
 obtain⟨v,hi,h⟩:=ay h
 refine⟨v,fun w=>?_,h⟩
 have hi':vs[i]? =some v:=by simpa using hi
 simp[execOp,ho,hv,Instr.extract,hi']
theorem Fg{t:TypeId}{f:Nat}{x:Operand}{fields:Array Field}{fd:Field}(bC:bM ev a)(ho:o.op= .fieldAddr t x f)(ht:P.underlying t=some (.struct fields))
  (hf:fields[f]? =some fd)(hi:(P.info? fd.type).isSome=true)(h0:P.cellsOf fd.type≠0)(h:(c7.fieldAddr fd.offset x).vc P ev H K):dN P o a H K:=by
 obtain⟨b,off,hv,h⟩:=eQ (aS bC h)
 refine⟨_,fun w=>?_,h⟩
 simp[execOp,ho,hv,Instr.fieldAt,ap ht,hf,Instr.sureAddr,fieldPlace,bG hi,h0,xS]
theorem MN{t:TypeId}{f:Nat}{x:Operand}{fields:Array Field}{fd:Field}(bC:bM ev a)(ho:o.op= .field t x f)(ht:P.underlying t=some (.struct fields))
  (hf:fields[f]? =some fd)(hi:(P.info? fd.type).isSome=true)(hu:(P.underlying fd.type).isSome=true)
  (h:(c7.field fd.offset (if eE P fd.type then some (P.cellsOf fd.type)else none) x).vc P ev H K):dN P o a H K:=by
 obtain⟨vs,hv,h⟩:=Hw (aS bC h)
 obtain⟨v,hp,h⟩:=ay h
 refine⟨v,fun w=>?_,h⟩
 have:=uA hi hu hp w
 simp only[aoP]at this
 simp[execOp,ho,hv,Instr.field,ap ht,hf,asAgg,this]
theorem Fh{t e:TypeId}{x i:Operand}(bC:bM ev a)(ho:o.op= .indexAddr t x i)(ht:P.underlying t=some (.slice e))(hi:(P.info? e).isSome=true)
  (h:(c7.indexAddr (P.cellsOf e) x i).vc P ev H K):dN P o a H K:=by
 obtain⟨ad,n,c,hx,h⟩:=iw (aS bC (aS bC h))
 obtain⟨k,j,hj,h⟩:=iu h
 obtain⟨hb,h⟩:=h.out
 obtain⟨b,off,rfl,h⟩:=mG h
 refine⟨_,fun w=>?_,h⟩
 simp[execOp,ho,hx,hj,Instr.indexAt,ap ht,asIntOf,hb.1,hb.2,bG hi,xS]
theorem GU{t e:TypeId}{n:Nat}{x i:Operand}(bC:bM ev a)(ho:o.op= .indexAddr t x i)(ht:P.underlying t=some (.array n e))(hi:(P.info? e).isSome=true)
  (h:(c7.Au n (P.cellsOf e) x i).vc P ev H K):dN P o a H K:=by
 obtain⟨b,off,hx,h⟩:=eQ (aS bC (aS bC h))
 obtain⟨k,j,hj,h⟩:=iu h
 obtain⟨hb,h⟩:=h.out
 refine⟨_,fun w=>?_,h⟩
 simp[execOp,ho,hx,hj,Instr.indexAt,ap ht,asIntOf,hb.1,hb.2,bG hi,xS,Instr.sureAddr]
theorem KK{t:TypeId}{x i:Operand}(bC:bM ev a)(ho:o.op= .index t x i)(ht:P.underlying t=some .string)
  (h:(c7.IP x i).vc P ev H K):dN P o a H K:=by
 obtain⟨s,hx,h⟩:=lM (aS bC (aS bC h))
 obtain⟨k,j,hj,h⟩:=iu h
 obtain⟨h0,h⟩:=h.out
 obtain⟨b,hb,h⟩:=ay h
 refine⟨_,fun w=>?_,h⟩
 simp[execOp,ho,hx,hj,Instr.index,ap ht,asIntOf,h0,hb]
theorem kG{x:Option Operand}{d:Nat}{F:Int→Prop}(bC:bM ev a)(h:nR ev x d F):
  ∃n,F n∧((x=none∧n=d)∨∃y k,x=some y∧a.eval y= .int k n):=by
 cases x with
 |none=>exact⟨d,h,.inl ⟨rfl,rfl⟩⟩
 |some y=>
  obtain⟨k,n,hy,h⟩:=iu (aS bC h)
  exact⟨n,h,.inr ⟨y,k,rfl,hy⟩⟩
theorem fU{k:IntKind}{i:Int}{y:Nat}{code:BoundsCode}(h0:0≤i)(h1:i≤y)(w:World):(Instr.sliceBound (.int k i) y code).run P w= .ok i.toNat w:=by
 simp[Instr.sliceBound,asIntOf,h0,h1]
theorem Fi{isS:Bool}{n c:Nat}{lo hi mx:Option Operand}{l h m:Int}(hl:(lo=none∧l=0)∨∃y k,lo=some y∧a.eval y= .int k l)
  (hh:(hi=none∧h=n)∨∃y k,hi=some y∧a.eval y= .int k h)(hm:(mx=none∧m=c)∨∃y k,mx=some y∧a.eval y= .int k m)
  (h3:mx.isSome=true→hi.isSome=true)(hb:0≤l∧l≤h∧h≤m∧m≤c)(w:World):
  (Instr.sliceBounds isS n c (lo.map a.eval) (hi.map a.eval) (mx.map a.eval)).run P w= .ok (l.toNat,h.toNat,m.toNat) w:=by
 obtain⟨h1,h2,h4,h5⟩:=hb
 unfold Instr.sliceBounds
 rcases hm with ⟨rfl,rfl⟩| ⟨ym,km,rfl,em⟩
 ·rcases hh with ⟨rfl,rfl⟩| ⟨yh,kh,rfl,eh⟩<;>rcases hl with ⟨rfl,rfl⟩| ⟨yl,kl,rfl,el⟩<;>
   simp only[Option.map_none,Option.map_some,Option.isSome_none,Sem.run_bind,Sem.run_pure,Result.andThen_ok, *]
  ·rfl
  ·rw[fU h1 (by omega)];rfl
  ·rw[fU (by omega) (by omega)];rfl
  ·rw[fU (by omega) (by omega)];simp only[Result.andThen_ok];rw[fU h1 (by omega)];rfl
 ·rcases hh with ⟨rfl,rfl⟩| ⟨yh,kh,rfl,eh⟩
  ·exact absurd (h3 rfl) (by simp)
  ·rcases hl with ⟨rfl,rfl⟩| ⟨yl,kl,rfl,el⟩<;>simp only[Option.map_none,Option.map_some,Option.isSome_some,Sem.run_bind,Sem.run_pure,Result.andThen_ok, *]
   ·rw[fU (by omega) (by omega)];simp only[Result.andThen_ok];rw[fU (by omega) (by omega)];rfl
   ·rw[fU (by omega) (by omega)];simp only[Result.andThen_ok];rw[fU (by omega) (by omega)];simp only[Result.andThen_ok];rw[fU h1 (by omega)];rfl
theorem MO{t e:TypeId}{x:Operand}{lo hi mx:Option Operand}(bC:bM ev a)(ho:o.op= .slice t x lo hi mx)(ht:P.underlying t=some (.slice e))(hie:(P.info? e).isSome=true)
  (h3:mx.isSome=true→hi.isSome=true)(h:(c7.slice (P.cellsOf e) x lo hi mx).vc P ev H K):dN P o a H K:=by
 obtain⟨ad,n,c,hx,h⟩:=iw (aS bC h)
 obtain⟨m,h,hm⟩:=kG bC h
 obtain⟨hh,h,Tm⟩:=kG bC h
 obtain⟨l,h,If⟩:=kG bC h
 obtain⟨hb,h⟩:=h.out
 refine⟨_,fun w=>?_,h⟩
 have hr:=Fi (P:=P) (isS:=true) (n:=n) (c:=c) If Tm hm h3 hb w
 simp only[execOp,ho,Instr.sliceAt,Sem.run_bind,ap ht,Result.andThen_ok,Instr.slice,hx,hr,bG hie,Sem.run_pure]
 by_cases hml:m=l
 ·subst hml;simp
 ·rw[if_neg hml,if_neg (by omega)]
theorem KL{t:TypeId}{x:Operand}{lo hi:Option Operand}(bC:bM ev a)(ho:o.op= .slice t x lo hi none)(ht:P.underlying t=some .string)
  (h:(c7.IN x lo hi).vc P ev H K):dN P o a H K:=by
 obtain⟨s,hx,h⟩:=lM (aS bC h)
 obtain⟨hh,h,Tm⟩:=kG bC h
 obtain⟨l,h,If⟩:=kG bC h
 obtain⟨hb,h⟩:=h.out
 refine⟨_,fun w=>?_,h⟩
 have hr:=Fi (P:=P) (isS:=false) (n:=s.size) (c:=s.size) (m:=s.size) (mx:=none) If Tm (.inl ⟨rfl,rfl⟩) (by simp) ⟨hb.1,hb.2.1,hb.2.2,aoE _⟩ w
 simp only[Option.map_none]at hr
 simp only[execOp,ho,Instr.sliceAt,Sem.run_bind,ap ht,Result.andThen_ok,Instr.slice,hx,hr,Sem.run_pure,Option.map_none,Option.isSome_none,aof,if_false]
theorem IU(vs:List Value):∀ (n off:Nat) (z:Array Value),((vs.zipIdx n).foldl (fun cs (c,j)=>cs.setIfInBounds (off+j) c) z).toList=bf z.toList (off+n) vs:=by
 induction vs with
 |nil=>intro n off z;rfl
 |cons v vs ih=>
  intro n off z
  rw[List.zipIdx_cons,List.foldl_cons,mZ]
  have:=ih (n+1) off (z.setIfInBounds (off+n) v)
  rw[this]
  simp[apq]
theorem fill_eq{place:Nat→Option (Nat×Nat)}:∀ (ps:List (Nat×Operand)) (qs:List (Nat×Nat×Operand)) (z:Array Value) (F:List Value→Prop),
  List.length ps=List.length qs→(∀ (j i:Nat) (x:Operand),ps[j]? =some (i,x)→∃off size:Nat,qs[j]? =some (off,size,x)∧place i=some (off,size)∧off+size≤z.size)→bM ev a→Aq ev z.toList qs F→
   ∃z':Array Value,Instr.fill place z (ps.map fun(i,x)=>(i,a.eval x))=some z'∧F z'.toList:=by
 intro ps
 induction ps with
 |nil=>
  intro qs z F hl hp bC h
  cases qs with
  |nil=>exact⟨z,rfl,h⟩
  |cons q qs=>simp at hl
 |cons p ps ih=>
  intro qs z F hl hp bC h
  obtain⟨i,x⟩:=p
  cases qs with
  |nil=>simp at hl
  |cons q qs=>
   obtain⟨off,size,hq,Ns,mJ⟩:=hp 0 i x rfl
   simp only[anG,anl]at hq
   subst hq
   obtain⟨hn,h⟩:=(aS bC h).out
   have Of:(a.eval x).cells.size=size:=by rw[←hn,←eo];simp
   rw[an3,Instr.fill]
   simp only[Ns,Of,ne_eq,not_true_eq_false,decide_false,apo,anF]
   rw[if_neg (by omega)]
   have UK:((a.eval x).cells.zipIdx.foldl (fun cs (c,j)=>cs.setIfInBounds (off+j) c) z).toList=bf z.toList off (aF (a.eval x)):=by
    have:=IU (a.eval x).cells.toList 0 off z
    rw[eo]at this
    rw[←Array.foldl_toList,Array.toList_zipIdx,eo]
    simpa using this
   refine ih qs _ F (by simpa using hl) (fun j i' x' hj=>?_) bC (by rw[UK];exact h)
   obtain⟨agl,abF,hq',agm,agn⟩:=hp (j+1) i' x' (by simpa using hj)
   refine⟨agl,abF,by simpa using hq',agm,?_⟩
   have:((a.eval x).cells.zipIdx.foldl (fun cs (c,j)=>cs.setIfInBounds (off+j) c) z).size=z.size:=by
    rw[←Array.length_toList,UK,jL,Array.length_toList]
   rw[this];exact agn
end
end Go.Vc

namespace Go.Vc
section
variable {P : Program} {o : Oper} {a : Act} {ev : Ev} {H : Hp} {K : Value → Hp → Prop}
theorem qD{place:Nat→Option (Nat×Nat)}{IS:Nat}:∀ (ps:List (Nat×Operand)) (qs:List (Nat×Nat×Operand)),jN place IS ps=some qs→
  ps.length=qs.length∧∀ (j i:Nat) (x:Operand),ps[j]? =some (i,x)→∃off size:Nat,qs[j]? =some (off,size,x)∧place i=some (off,size)∧off+size≤IS:=by
 intro ps
 induction ps with
 |nil=>intro qs h;simp only[jN,anl]at h;subst h;simp
 |cons p ps ih=>
  intro qs h
  obtain⟨i,x⟩:=p
  unfold jN at h
  split at h
  ·cases h
  ·rename_i off size Ns
   split at h
   ·rename_i mJ
    cases hr:jN place IS ps with
    |none=>rw[hr]at h;cases h
    |some qs'=>
     rw[hr]at h
     simp only[Option.map_some,anl]at h
     subst h
     obtain⟨h1,h2⟩:=ih qs' hr
     refine⟨by simp[h1],fun j i' x' hj=>?_⟩
     cases j with
     |zero=>
      simp only[anG,anl,Prod.mk.injEq]at hj
      obtain⟨rfl,rfl⟩:=hj
      exact⟨off,size,rfl,Ns,mJ⟩
     |succ j=>exact h2 j i' x' (by simpa using hj)
   ·cases h
theorem KM(fs:List Field)(h:∀f∈fs,(P.info? f.type).isSome=true)(w:World):
  (fs.mapM fun f=>(do pure (f.offset,←sizeOf f.type):Sem (Nat×Nat))).run P w= .ok (fs.map fun f=>(f.offset,P.cellsOf f.type)) w:=by
 induction fs with
 |nil=>rfl
 |cons f fs ih=>
  rw[List.mapM_cons]
  simp only[Sem.run_bind,bG (h f anZ),Result.andThen_ok,Sem.run_pure,ih fun g hg=>h g (anK _ hg),an3]
theorem Aw(ps:Array (Nat×Operand)):(ps.map fun(i,x)=>(i,a.eval x)).toList=ps.toList.map fun(i,x)=>(i,a.eval x):=by simp
theorem MP{t:TypeId}{z:Value}{ps:Array (Nat×Operand)}{qs:List (Nat×Nat×Operand)}(bC:bM ev a)(ho:o.op= .build t ps)(hz:fh P t=some z)
  (hq:parts P t (aF z).length ps.toList=some qs)(h:(c7.build (aF z) qs).vc P ev H K):dN P o a H K:=by
 have MQ:z.cells.toList=aF z:=eo z
 have Nd:z.cells.size=(aF z).length:=by rw[←MQ];simp
 unfold parts at hq
 split at hq
 ·rename_i fields hu
  split at hq
  ·rename_i hk
   obtain⟨h1,h2⟩:=qD _ _ hq
   obtain⟨z',hf,JM⟩:=fill_eq (a:=a) (ev:=ev) (place:=((placeOf P fields)[·]?)) ps.toList qs z.cells (fun l=>K (.agg l.toArray) H) h1
    (fun j i x hj=>by obtain⟨off,size,e1,e2,e3⟩:=h2 j i x hj;exact⟨off,size,e1,e2,by omega⟩) bC (by rw[MQ];exact h)
   refine⟨.agg z',fun w=>?_,by simpa using JM⟩
   have Ns:(fields.mapM fun f=>(do pure (f.offset,←sizeOf f.type):Sem (Nat×Nat))).run P w= .ok (placeOf P fields) w:=by
    rw[Array.mapM_eq_mapM_toList,Sem.run_map,KM fields.toList (fun f hf=>by
     have:=(aoK.1 hk) f (by simpa using hf);exact this) w]
    simp only[Result.andThen_ok]
    congr 1
    apply Array.ext'
    simp[placeOf]
   simp only[execOp,ho,Instr.build,Sem.run_bind,cF hz,ap hu,Result.andThen_ok,Ns,Aw,hf,Sem.run_pure]
  ·cases hq
 ·rename_i n e hu
  split at hq
  ·rename_i hi
   obtain⟨h1,h2⟩:=qD _ _ hq
   obtain⟨z',hf,JM⟩:=fill_eq (a:=a) (ev:=ev) (place:=fun i=>some (i*P.cellsOf e,P.cellsOf e)) ps.toList qs z.cells (fun l=>K (.agg l.toArray) H) h1
    (fun j i x hj=>by obtain⟨off,size,e1,e2,e3⟩:=h2 j i x hj;exact⟨off,size,e1,e2,by omega⟩) bC (by rw[MQ];exact h)
   refine⟨.agg z',fun w=>?_,by simpa using JM⟩
   simp only[execOp,ho,Instr.build,Sem.run_bind,cF hz,ap hu,Result.andThen_ok,bG hi,Aw,hf,Sem.run_pure]
  ·cases hq
 ·cases hq
theorem Ax{z:Array Value}{n size:Nat}(hs:z.size=size)(h0:size≠0):((Array.range (n*size)).map (z[· %z.size]!)).toList=cz z.toList n:=by
 subst hs
 induction n with
 |zero=>simp[cz]
 |succ n ih=>
  apply an5
  intro i
  have hp:cz z.toList (n+1)=cz z.toList n++z.toList:=by simp[cz,apj]
  have aV:(cz z.toList n).length=n*z.size:=by rw[←ih];simp
  rw[hp]
  by_cases hi:i<n*z.size
  ·rw[anq (by omega),←ih]
   have:i< (n+1)*z.size:=by rw[aox];omega
   simp[hi,this]
  ·rw[anE (by omega),aV]
   by_cases ly:i< (n+1)*z.size
   ·have pe:i - n*z.size<z.size:=by rw[aox]at ly;omega
    have Sx:i%z.size=i - n*z.size:=by
     have e:i=(i - n*z.size)+z.size*n:=by rw[Nat.mul_comm z.size n];omega
     rw[e,Nat.add_mul_mod_self_left,Nat.mod_eq_of_lt pe]
     rw[Nat.mul_comm z.size n];omega
    simp[ly,Sx,pe]
   ·have:z.size≤i - n*z.size:=by rw[aox]at ly;omega
    simp[ly,this]
theorem Cs(z:List Value)(n:Nat):(cz z n).length=n*z.length:=by simp[cz]
theorem RD{t e:TypeId}{n:Nat}{z:Value}{ps:Array (Nat×Operand)}{qs:List (Nat×Nat×Operand)}(bC:bM ev a)(ho:o.op= .buildSlice t n ps)(ht:P.underlying t=some (.slice e))
  (hz:fh P e=some z)(hi:(P.info? e).isSome=true)(h0:P.cellsOf e≠0)(hl:(aF z).length=P.cellsOf e)(hm:n*P.cellsOf e≤2^24)
  (hq:jN (fun i=>some (i*P.cellsOf e,P.cellsOf e)) (n*P.cellsOf e) ps.toList=some qs)(h:(c7.lit e n (cz (aF z) n) qs).vc P ev H K):dJ P o a H K:=by
 have MQ:z.cells.toList=aF z:=eo z
 have Nd:z.cells.size=P.cellsOf e:=by rw[←hl,←MQ];simp
 intro w hw
 subst hw
 obtain⟨h1,h2⟩:=qD _ _ hq
 have IG:∀ (zz:Array Value),(n*P.cellsOf e=0∨zz=z.cells)→((Array.range (n*P.cellsOf e)).map (zz[· %zz.size]!)).toList=cz (aF z) n:=by
  intro zz Yr
  rcases Yr with Yr|rfl
  ·have:n=0:=by
    rcases Nat.mul_eq_zero.1 Yr with h|h
    ·exact h
    ·exact absurd h h0
   subst this
   simp[cz]
  ·rw[Ax Nd h0,MQ]
 have main:∀zz:Array Value,(n*P.cellsOf e=0∨zz=z.cells)→∃z':Array Value,Instr.fill (fun i=>some (i*P.cellsOf e,P.cellsOf e)) ((Array.range (n*P.cellsOf e)).map (zz[· %zz.size]!)) (ps.toList.map fun(i,x)=>(i,a.eval x))=some z'∧
   K (.slice (some ⟨w.heap.size,0,none⟩) n n) (Hp.new w.heap e z'.toList):=by
  intro zz Yr
  exact fill_eq (a:=a) (ev:=ev) ps.toList qs _ (fun l=>K (.slice (some ⟨w.heap.size,0,none⟩) n n) (Hp.new w.heap e l)) h1
   (fun j i x hj=>by obtain⟨off,size,e1,e2,e3⟩:=h2 j i x hj;exact⟨off,size,e1,e2,by simpa using e3⟩) bC (by rw[IG zz Yr];exact h)
 by_cases hn:n*P.cellsOf e=0
 ·obtain⟨z',hf,hk⟩:=main #[] (.inl hn)
  refine .inl ⟨.slice (some ⟨w.heap.size,0,none⟩) n n,{w with heap:=Hp.new w.heap e z'.toList},?_,⟨rfl,rfl⟩,hk⟩
  simp only[execOp,ho,Instr.buildSlice,Sem.run_bind,ap ht,bG hi,Result.andThen_ok]
  rw[if_neg (by omega),if_pos hn]
  simp only[Sem.run_pure,Result.andThen_ok,Sem.run_bind,Aw,hf,kF]
 ·obtain⟨z',hf,hk⟩:=main z.cells (.inr rfl)
  refine .inl ⟨.slice (some ⟨w.heap.size,0,none⟩) n n,{w with heap:=Hp.new w.heap e z'.toList},?_,⟨rfl,rfl⟩,hk⟩
  simp only[execOp,ho,Instr.buildSlice,Sem.run_bind,ap ht,bG hi,Result.andThen_ok]
  rw[if_neg (by omega),if_neg hn]
  simp only[Sem.run_pure,Result.andThen_ok,Sem.run_bind,cF hz,Aw,hf,kF]
theorem RE{t:TypeId}{x:Operand}(bC:bM ev a)(ho:o.op= .box t x)(h:(c7.box t x).vc P ev H K):dJ P o a H K:=by
 intro w hw
 subst hw
 have h:=aS bC h
 refine .inl ⟨_,{w with heap:=Hp.new w.heap t (aF (a.eval x))},?_,⟨rfl,rfl⟩,h⟩
 simp[execOp,ho,Instr.box,Cx]
theorem Pe{t:TypeId}{z:Value}(hz:fh P t=some z)(ho:o.op= .alloc t)(h:(c7.zero t (aF z)).vc P ev H K):dJ P o a H K:=by
 intro w hw
 subst hw
 refine .inl ⟨_,{w with heap:=Hp.new w.heap t (aF z)},?_,⟨rfl,rfl⟩,h⟩
 simp[execOp,ho,Instr.alloc,Cx,cF hz]
theorem MR{t:TypeId}{x:Operand}(bC:bM ev a)(ho:o.op= .load t x)(hi:(P.info? t).isSome=true)(hu:(P.underlying t).isSome=true)(hg:eE P t=false)
  (h:(c7.NJ x).vc P ev H K):dJ P o a H K:=by
 intro w hw
 subst hw
 obtain⟨b,off,hx,h⟩:=eQ (aS bC h)
 obtain⟨l,hl,h⟩:=ay h
 obtain⟨v,hv,h⟩:=ay h
 refine .inl ⟨v,w,?_,bX.refl w,h⟩
 simp[execOp,ho,Instr.loadAt,hx,Instr.sureAddr,(je hi hu hl).2 hg v hv]
theorem MS{t:TypeId}{x:Operand}(bC:bM ev a)(ho:o.op= .load t x)(hi:(P.info? t).isSome=true)(hu:(P.underlying t).isSome=true)(hg:eE P t=true)
  (h:(c7.NK (P.cellsOf t) x).vc P ev H K):dJ P o a H K:=by
 intro w hw
 subst hw
 obtain⟨b,off,hx,h⟩:=eQ (aS bC h)
 obtain⟨l,hl,h⟩:=ay h
 obtain⟨hn,h⟩:=h.out
 refine .inl ⟨_,w,?_,bX.refl w,h⟩
 simp only[execOp,ho,Instr.loadAt,hx,Instr.sureAddr,Sem.run_bind,Sem.run_pure,Result.andThen_ok,(je hi hu hl).1 hg hn]
theorem MT{t:TypeId}{x y:Operand}(bC:bM ev a)(ho:o.op= .store t x y)(hi:(P.info? t).isSome=true)(h0:P.cellsOf t≠0)
  (h:(c7.store (P.cellsOf t) x y).vc P ev H K):dJ P o a H K:=by
 intro w hw
 subst hw
 obtain⟨b,off,hx,h⟩:=eQ (aS bC h)
 obtain⟨l,hl,h⟩:=ay (aS bC h)
 obtain⟨h1,h⟩:=h.out
 obtain⟨h2,h⟩:=h.out
 obtain⟨h3,h⟩:=h.out
 obtain⟨w',hr,hs,hh⟩:=GR (v:=a.eval y) hi h0 hl h1 (O6 h2) h3
 refine .inr (.inl ⟨w',?_,hs,hh▸h⟩)
 simp[execOp,ho,Instr.storeAt,hx,Instr.sureAddr,hr]
theorem KN{t:TypeId}(ho:o.op= .makeMap t none)(h:c7.MK.vc P ev H K):dJ P o a H K:=by
 intro w hw
 subst hw
 refine .inl ⟨_,{w with heap:=Hp.gS w.heap},?_,⟨rfl,rfl⟩,h⟩
 simp only[execOp,ho,Option.map_none,Instr.makeMap,Sem.run_bind,Sem.run_pure,Result.andThen_ok,run_newObj,Hp.gS]
theorem wrap_i64{n:Int}(h0:0≤n)(h1:n≤2^62):IntKind.i64.wrap n=n:=by
 have e:(2^IntKind.i64.bits:Int)=18446744073709551616:=rfl
 have e':(2^ (IntKind.i64.bits - 1):Int)=9223372036854775808:=rfl
 unfold IntKind.wrap
 simp only[e,e',IntKind.signed,aov,anF]
 split<;>omega
theorem Fj{t e:TypeId}{z:Value}{x y:Operand}(bC:bM ev a)(ho:o.op= .makeSlice t x y)(ht:P.underlying t=some (.slice e))(hz:fh P e=some z)
  (hi:(P.info? e).isSome=true)(h0:P.cellsOf e≠0)(hl:(aF z).length=P.cellsOf e)(h:(c7.makeSlice e (P.bytesOf e) (P.cellsOf e) (aF z) x y).vc P ev H K):dJ P o a H K:=by
 intro w hw
 subst hw
 have h:=aS bC (aS bC h)
 obtain⟨k,n,hx,h⟩:=iu h
 obtain⟨k',c,hy,h⟩:=iu h
 obtain⟨⟨h1,h2,h3,h4⟩,h⟩:=h.out
 refine .inl ⟨_,{w with heap:=Hp.new w.heap e (cz (aF z) c.toNat)},?_,⟨rfl,rfl⟩,h⟩
 obtain⟨i,hi'⟩:=Option.isSome_iff_exists.1 hi
 have hb:i.bytes=P.bytesOf e:=by simp[Program.bytesOf,hi']
 have MQ:z.cells.toList=aF z:=eo z
 have Nd:z.cells.size=P.cellsOf e:=by rw[←hl,←MQ];simp
 have w1:=wrap_i64 h1 (by omega:n≤2^62)
 have w2:=wrap_i64 (by omega:0≤c) (by omega:c≤2^62)
 simp only[execOp,ho,Instr.makeSlice,Sem.run_bind,ap ht,Result.andThen_ok,hx,hy,asInt,asIntOf,Sem.run_pure,dQ hi',hb,w1,w2,run_askRoom,bG hi]
 have t1:(decide (c<0) || decide ((P.bytesOf e:Int)*c>2^48))=false:=by simp;omega
 rw[if_neg (by simp only[t1,aof,false_or,ao2,anF];omega)]
 simp only[Sem.run_bind,run_askRoom,Result.andThen_ok,bG hi]
 by_cases hn:c.toNat*P.cellsOf e=0
 ·have jQ:c.toNat=0:=by rcases Nat.mul_eq_zero.1 hn with h|h;exact h;exact absurd h h0
  rw[if_pos hn]
  simp only[jQ,anU,Sem.run_bind,Sem.run_pure,Result.andThen_ok,kF]
  simp[cz]
 ·rw[if_neg hn]
  simp only[Sem.run_bind,cF hz,Sem.run_pure,Result.andThen_ok,kF,Ax Nd h0,MQ]
theorem DB{H:Hp}{b:Nat}{x:List MapEntry×Nat}(h:H.mp b=some x):∃es:Array MapEntry,H[b]? =some (.map es x.2)∧es.toList=x.1:=by
 unfold Hp.mp at h
 split at h
 ·rename_i es k hb;injection h with h;exact⟨es,by rw[hb,←h],by rw[←h]⟩
 ·cases h
theorem ng{w:World}{b:Nat}{es:Array MapEntry}{k:Nat}(h:w.heap[b]? =some (.map es k)):(getObj b).run P w= .ok (.map es k) w:=by simp[getObj,Sem.run,h]
theorem nh{w:World}{b:Nat}{es UL:Array MapEntry}{k k':Nat}(h:w.heap[b]? =some (.map es k)):
  (setObj b (.map UL k')).run P w= .ok () {w with heap:=Hp.Ch w.heap b UL.toList k'}:=by
 simp[setObj,Sem.run,h,Hp.Ch]
theorem ry{t:TypeId}{s:Shape}(h:cu P t=some s)(hs:∀fs,s≠ .s fs):shapeOf P eF t=some s∧jM s=true:=by
 unfold cu at h
 split at h
 ·injection h with h;subst h;simp[shapeOf,eF, *,jM]
 ·injection h with h;subst h;simp[shapeOf,eF, *,jM]
 ·injection h with h;subst h;simp[shapeOf,eF, *,jM]
 ·split at h
  ·split at h
   ·injection h with h;exact absurd h.symm (hs _)
   ·cases h
  ·cases h
 ·cases h
theorem Fk{t:TypeId}{s:Shape}(h:cu P t=some s):shapeOf P eF t=some s:=by
 by_cases hs:∃fs,s= .s fs
 ·obtain⟨fs,rfl⟩:=hs
  unfold cu at h
  split at h
  ·cases h
  ·cases h
  ·cases h
  ·split at h
   ·split at h
    ·injection h with h;injection h with h;subst h;assumption
    ·cases h
   ·cases h
  ·cases h
 ·exact(ry h fun fs e=>hs ⟨fs,e⟩).1
theorem rz{d:Nat}{t:TypeId}{s:Shape}(h:shapeOf P d t=some s)(hk:jM s=true)(v:Value)(e:Bool)(n:Nat)(w:World):(Instr.checkKey e (n+1) t v).run P w= .ok () w:=by
 cases d with
 |zero=>simp[shapeOf]at h
 |succ d=>
  rw[fT]at h
  split at h
  ·injection h with h;subst h;simp[Instr.checkKey,ap ‹P.underlying t=_›]
  ·injection h with h;subst h;simp[Instr.checkKey,ap ‹P.underlying t=_›]
  ·injection h with h;subst h;simp[Instr.checkKey,ap ‹P.underlying t=_›]
  case h_9=>
   split at h
   ·cases h
   ·rename_i fs _ _
    cases hr:eM P d fs.toList with
    |none=>rw[hr]at h;cases h
    |some l=>rw[hr]at h;injection h with h;subst h;simp[jM]at hk
  all_goals first| (cases h;done)| (injection h with h;subst h;simp[jM]at hk)
theorem Dq{d:Nat}(e:Bool)(n:Nat)(xs:List Value):∀ (fs:List Field) (l:List (Nat×Option Nat×Shape)),eM P d fs=some l→
  (l.all fun(off,agg,sh)=>agg.isNone && jM sh)=true→(∀q∈l,(xs[q.1]?).isSome=true)→∀w:World,
  (forIn fs PUnit.unit fun f (_:PUnit)=>(do
   if f.name≠ "_" then Instr.checkKey e (n+1) f.type (←part f.type xs.toArray f.offset)
   pure (ForInStep.yield PUnit.unit):Sem (ForInStep PUnit))).run P w= .ok PUnit.unit w:=by
 intro fs
 induction fs with
 |nil=>intro l _ _ _ w;simp
 |cons f fs ih=>
  intro l hl ha hx w
  rw[nP]at hl
  split at hl
  ·cases hl
  ·rename_i RA
   split at hl
   ·cases hl
   ·rename_i sh E7
    cases hr:eM P d fs with
    |none=>rw[hr]at hl;cases hl
    |some l'=>
     rw[hr]at hl
     simp only[Option.map_some,anl]at hl
     subst hl
     rw[List.all_cons]at ha
     simp only[an4]at ha
     obtain⟨⟨h1,h2⟩,h3⟩:=ha
     have ago:eE P f.type=false:=by
      cases hb:eE P f.type
      ·rfl
      ·simp[hb]at h1
     obtain⟨v,hv⟩:=Option.isSome_iff_exists.1 (hx _ anZ)
     have hu:(P.underlying f.type).isSome=true:=by
      cases d with
      |zero=>simp[shapeOf]at E7
      |succ d=>rw[fT]at E7;split at E7<;>first| (cases E7;done)|simp_all
     have hp:=uA (P:=P) (l:=xs) (t:=f.type) (off:=f.offset) (v:=v) (info_of_underlying hu) hu (by rw[ago];simpa[dR]using hv) w
     simp only[List.forIn_cons,RA,ne_eq,not_false_eq_true,if_true,Sem.run_bind,hp,Result.andThen_ok,rz E7 h2,Sem.run_pure]
     exact ih l' hr h3 (fun q hq=>hx q (anK _ hq)) w
theorem Fl{t:TypeId}{s:Shape}{k:Value}(h:cu P t=some s)(hk:Aa s k=true)(e:Bool)(n:Nat)(w:World):(Instr.checkKey e (n+1+1) t k).run P w= .ok () w:=by
 by_cases hs:∃fs,s= .s fs
 ·obtain⟨l,rfl⟩:=hs
  have h':=h
  unfold cu at h
  split at h
  ·cases h
  ·cases h
  ·cases h
  ·rename_i fs hu
   split at h
   ·split at h
    ·rename_i l' E7 cR
     injection h with h;injection h with h;subst h
     cases k with
     |agg xs=>
      simp only[show eF=7+1 from rfl,fT,hu]at E7
      split at E7
      ·cases E7
      ·cases hr:eM P 7 fs.toList with
       |none=>rw[hr]at E7;cases E7
       |some l=>
        rw[hr]at E7
        simp only[Option.map_some,anl,Shape.s.injEq]at E7
        subst E7
        rw[Instr.checkKey]
        simp only[Sem.run_bind,ap hu,Result.andThen_ok]
        rw[←Array.forIn_toList]
        have:=Dq (P:=P) e n xs.toList fs.toList l hr cR (fun q hq=>by
         have h1:=(aok.1 hk) q hq
         obtain⟨off,agg,sh⟩:=q
         simp only[an4]at h1
         have h2:=h1.2
         cases hx:(xs.toList)[off]? with
         |none=>rw[show xs[off]? =none by simpa using hx]at h2;cases sh<;>simp at h2
         |some v=>rfl) w
        simp only[aoP]at this
        rw[this]
        rfl
     |_=>simp[Aa]at hk
    ·cases h
   ·cases h
  ·cases h
 ·obtain⟨h1,h2⟩:=ry h fun fs e=>hs ⟨fs,e⟩
  exact rz h1 h2 k e (n+1) w
theorem gP{t:TypeId}{s:Shape}{k:Value}(h:cu P t=some s)(hk:Aa s k=true)(e:Bool)(w:World):(Instr.checkKey e 10000 t k).run P w= .ok () w:=
 Fl h hk e 9998 w
theorem Fm{t:TypeId}{s:Shape}{k:Value}(h:shapeOf P eF t=some s):∀ (es:List MapEntry) (i:Nat) (r:Option (Nat×Value)),fL s k es i=some r→∀w:World,
  (Instr.findAsking t k es i).run P w= .ok r w:=by
 intro es
 induction es with
 |nil=>intro i r hr w;simp only[fL,anl]at hr;subst hr;rfl
 |cons e es ih=>
  intro i r hr w
  unfold fL at hr
  have he:∀b,mO s k e.key=some b→(Op.equal t k e.key).run P w= .ok b w:=by
   intro b hb
   unfold Op.equal Op.maxDepth
   have:=(Av (P:=P) eF).1 t s k e.key b h hb (10000 - eF) w
   simpa[eF]using this
  split at hr
  ·rename_i hb
   injection hr with hr;subst hr
   simp[Instr.findAsking,he true hb]
  ·rename_i hb
   simp[Instr.findAsking,he false hb,ih (i+1) r hr w]
  ·cases hr
theorem B8{d:TypeDesc}{s:Shape}{k:Value}(hd:(∃q,d= .int q∧s= .int)∨(d= .string∧s= .str)∨(d= .bool∧s= .bool)):∀ (es:List MapEntry) (i:Nat) (r:Option (Nat×Value)),
  fL s k es i=some r→Instr.findNow d k es i=some r:=by
 intro es
 induction es with
 |nil=>intro i r hr;simpa[fL,Instr.findNow]using hr
 |cons e es ih=>
  intro i r hr
  unfold fL at hr
  unfold Instr.findNow
  have GY:∀b,mO s k e.key=some b→Instr.sameNow d k e.key=some b:=by
   intro b hb
   rcases hd with ⟨q,rfl,rfl⟩| ⟨rfl,rfl⟩| ⟨rfl,rfl⟩
   ·cases k<;>cases hk:e.key<;>simp only[hk,mO,bc]at hb<;>first| (cases hb;done)|skip
    exact hb
   ·cases k<;>cases hk:e.key<;>simp only[hk,mO,bc]at hb<;>first| (cases hb;done)|skip
    simpa[Instr.sameNow,beq_toListBytes]using hb
   ·cases k<;>cases hk:e.key<;>simp only[hk,mO,bc]at hb<;>first| (cases hb;done)|skip
    simpa[Instr.sameNow]using hb
  split at hr
  ·rename_i hb;rw[GY true hb];exact hr
  ·rename_i hb;rw[GY false hb];exact ih _ _ hr
  ·cases hr
theorem jf{t:TypeId}{s:Shape}{k:Value}{es:List MapEntry}{r:Option (Nat×Value)}(h:cu P t=some s)(hr:fL s k es 0=some r)(w:World):
  (Instr.findKey t k es).run P w= .ok r w:=by
 have E7:=Fk h
 unfold Instr.findKey
 have hu:∃d,P.underlying t=some d:=by
  unfold cu at h
  split at h<;>first|exact⟨_, ‹_›⟩|cases h
 obtain⟨d,hu⟩:=hu
 simp only[Sem.run_bind,ap hu,Result.andThen_ok]
 by_cases hs:∃fs,s= .s fs
 ·obtain⟨l,rfl⟩:=hs
  have hd:∃fs,d= .struct fs:=by
   unfold cu at h
   rw[hu]at h
   split at h
   ·cases h
   ·cases h
   ·cases h
   ·rename_i he;injection he with he;exact⟨_,he⟩
   ·cases h
  obtain⟨fs,rfl⟩:=hd
  cases es with
  |nil=>simp only[fL,anl]at hr;subst hr;rfl
  |cons e es=>
   have:Instr.findNow (.struct fs) k (e::es) 0=none:=by simp[Instr.findNow,Instr.sameNow]
   rw[this]
   exact Fm E7 _ _ _ hr w
 ·have hd:(∃q,d= .int q∧s= .int)∨(d= .string∧s= .str)∨(d= .bool∧s= .bool):=by
   unfold cu at h
   rw[hu]at h
   split at h
   ·rename_i q he;injection he with he;injection h with h;exact .inl ⟨q,he,h.symm⟩
   ·rename_i he;injection he with he;injection h with h;exact .inr (.inl ⟨he,h.symm⟩)
   ·rename_i he;injection he with he;injection h with h;exact .inr (.inr ⟨he,h.symm⟩)
   ·split at h
    ·split at h
     ·injection h with h;exact absurd ⟨_,h.symm⟩ hs
     ·cases h
    ·cases h
   ·cases h
  rw[B8 hd es 0 r hr]
  rfl
end
end Go.Vc
