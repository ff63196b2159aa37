/- Texts put behind each other. -/
import Derived.Test.YtnanofhkpglbaaaGreatDoorK8
set_option linter.unusedSimpArgs false
set_option linter.unusedVariables false
set_option maxRecDepth 100000
set_option maxHeartbeats 80000000
namespace Go.Vc
section
variable{t:TypeId}{b:Nat}
def cA(P:Program)(t:TypeId):Option Shape:=
 match P.underlying t with
 |some (.int _)=>some .int
 |some .string=>some .str
 |some .bool=>some .bool
 |some (.struct _)=>
  match shapeOf P fN t with
  |some (.s l)=>if l.all (fun(off,agg,x)=>agg.isNone && mP x)then some (.s l)else none
  |_=>none
 |_=>none
def Sx:Shape->Bool| .s _=>false|_=>true
def y8:TypeDesc->Bool| .slice _=>true| .string=>true|_=>false
def F5(P:Program)(o:Oper):Option dC:=
 match o.op with
 | .move x=>some (.mR x)
 | .assign x=>some (.mR x)
 | .pick c a b=>some (.pick c a b)
 | .box T x=>some (.box T x)
 | .alloc T=>(fF P T).map fun z=>.zero T (aK z)
 | .build t ps=>(fF P t).bind fun z=>(parts P t (aK z).length ps.toList).map (.build (aK z))
 | .buildSlice t n ps=>
  match P.underlying t with
  |some (.slice e)=>(fF P e).bind fun z=>
   if(P.info? e).isSome/\P.cellsOf e≠0/\(aK z).length=P.cellsOf e/\n*P.cellsOf e<=2^24 then
    (jE (fun i=>some (i*P.cellsOf e,P.cellsOf e)) (n*P.cellsOf e) ps.toList).map (.lit e n (dm (aK z) n))
   else none
  |_=>none
 | .load t x=>if(P.info? t).isSome/\(P.underlying t).isSome then(if eu P t then some (.iC (P.cellsOf t) x)else some (.mB x))else none
 | .store t x v=>if(P.info? t).isSome/\P.cellsOf t≠0 then some (.store (P.cellsOf t) x v)else none
 | .nilCheck x=>some (.nilCheck x)
 | .binOp op t x y _=>
  match op with
  | .eql| .neq=>
   match P.underlying t,y with
   |some (.interface _),.const .nilIface=>some (.Q8 (match op with| .neq=>true|_=>false) x)
   |_,_=>(shapeOf P fN t).bind fun s=>if Sx s=true\/P.eqGuardType P.depth t=false then some (.j5 op s x y)else none
  |_=>some (.j5 op .int x y)
 | .unOp op _ x=>some (.un op x)
 | .convert src dst x=>
  match P.underlying src,P.underlying dst with
  |some (.int _),some (.int k)=>some (.conv k x)
  |some (.slice e),some .string=>(match P.underlying e with|some (.int .u8)=>some (.Mc x)|_=>none)
  |some .string,some (.slice e)=>(match P.underlying e with|some (.int .u8)=>some (.GP e x)|_=>none)
  |_,_=>none
 | .makeInterface t x=>match P.underlying t with|some (.interface _)=>none|some _=>some (.iface t x)|none=>none
 | .makeFunc fn first captured=>some (.func fn first.toList captured.toList)
 | .makeMap t none=>some .LX
 | .makeSlice t n c=>
  match P.underlying t with
  |some (.slice e)=>(fF P e).bind fun z=>if(P.info? e).isSome/\P.cellsOf e≠0/\(aK z).length=P.cellsOf e then some (.makeSlice e (P.bytesOf e) (P.cellsOf e) (aK z) n c)else none
  |_=>none
 | .slice t x lo hi mx=>
  match P.underlying t with
  |some (.slice e)=>if(P.info? e).isSome/\(mx.isNone\/hi.isSome)then some (.slice (P.cellsOf e) x lo hi mx)else none
  |some .string=>if mx.isNone then some (.GQ x lo hi)else none
  |_=>none
 | .fieldAddr s x f=>
  match P.underlying s with
  |some (.struct fields)=>(fields[f]?).bind fun h=>if(P.info? h.type).isSome/\P.cellsOf h.type≠0 then some (.fieldAddr h.offset x)else none
  |_=>none
 | .field t x f=>
  match P.underlying t with
  |some (.struct fields)=>(fields[f]?).bind fun h=>if(P.info? h.type).isSome/\(P.underlying h.type).isSome then some (.field h.offset (if eu P h.type then some (P.cellsOf h.type)else none) x)else none
  |_=>none
 | .indexAddr t x i=>
  match P.underlying t with
  |some (.slice e)=>if(P.info? e).isSome then some (.indexAddr (P.cellsOf e) x i)else none
  |some (.array n e)=>if(P.info? e).isSome then some (.xf n (P.cellsOf e) x i)else none
  |_=>none
 | .index t x i=>
  match P.underlying t with
  |some .string=>some (.GR x i)
  |some (.array n e)=>if(P.info? e).isSome/\(P.underlying e).isSome then some (.GU n (P.cellsOf e) (if eu P e then some (P.cellsOf e)else none) x i)else none
  |_=>none
 | .lookup t x i ok=>
  match P.underlying t with
  |some (.map k e)=>(cA P k).bind fun s=>(fF P e).map fun z=>.lookup s z ok x i
  |_=>none
 | .mapUpdate t m k v=>match P.underlying t with|some (.map w _)=>(cA P w).map fun s=>.update s m k v|_=>none
 | .extract x i=>some (.extract i x)
 | .typeAssert x _ T false=>(match P.underlying T with|some (.interface _)=>none|some _=>some (.GS T x)|none=>none)
 | .call c=>
  match c.callee with
  | .value (.func f)=>if eQ P f then some (.call f c.args.toList)else some (.ext f c.args.toList)
  | .value x=>some (.dyn x c.args.toList)
  | .invoke r name=>some (.invoke r name c.args.toList)
  | .builtin .len=>
   match c.args.toList,(c.argTypes[0]?).bind P.underlying with
   | [x],some (.slice _)=>some (.Ks x)
   | [x],some .string=>some (.Q2 x)
   | [x],some (.map _ _)=>some (.Q3 x)
   |_,_=>none
  | .builtin .append=>
   match c.args.toList,(c.argTypes[0]?).bind P.underlying,(c.argTypes[1]?).bind P.underlying with
   | [x,y],some (.slice e),some d=>(fF P e).bind fun z=>
    if(P.info? e).isSome/\P.cellsOf e≠0/\(aK z).length=P.cellsOf e/\P.bytesOf e≠0/\y8 d=true then
     some (.append e (P.cellsOf e) (P.bytesOf e) (aK z) x y)else none
   |_,_,_=>none
  | .builtin .delete=>
   match c.args.toList,(c.argTypes[0]?).bind P.underlying with
   | [m,k],some (.map w _)=>(cA P w).map fun s=>.delete s m k
   |_,_=>none
  | .builtin .clear=>
   match c.args.toList,(c.argTypes[0]?).bind P.underlying with
   | [x],some (.slice e)=>(fF P e).bind fun z=>if(aK z).length≠0 then some (.Kq (aK z) x)else none
   |_,_=>none
  | .builtin .min=>some (.Q6 c.args.toList)
  | .builtin .max=>some (.Q7 c.args.toList)
  |_=>none
 | .panic _=>some .never
 |_=>none
def IA:Value->List Value->Option Value
 |v,[]=>some v
 |v,u::r=>match v,u with
  | .int k a,.int _ b=>IA (.int k (if b<a then b else a)) r
  |_,_=>none
def ZE(l:List Value):Option Value:=match l with| []=>none|v::r=>IA v r
def IB:Value->List Value->Option Value
 |v,[]=>some v
 |v,u::r=>match v,u with
  | .int k a,.int _ b=>IB (.int k (if b>a then b else a)) r
  |_,_=>none
def ZF(l:List Value):Option Value:=match l with| []=>none|v::r=>IB v r
@[go_sem] theorem WT(v:Value)(r:List Value):ZE (v::r)=IA v r:=(rfl)
@[go_sem] theorem ZG(v:Value):IA v []=some v:=(rfl)
@[go_sem] theorem WU(k x:IntKind)(a b:Int)(r:List Value):IA (.int k a) (.int x b::r)=IA (.int k (if b<a then b else a)) r:=(rfl)
@[go_sem] theorem WV(v:Value)(r:List Value):ZF (v::r)=IB v r:=(rfl)
@[go_sem] theorem ZH(v:Value):IB v []=some v:=(rfl)
@[go_sem] theorem WW(k x:IntKind)(a b:Int)(r:List Value):IB (.int k a) (.int x b::r)=IB (.int k (if b>a then b else a)) r:=(rfl)
def mT(ev:Ev)(x:Option Operand)(d:Nat)(F:Int->Prop):Prop:=
 match x with
 |none=>F d
 |some x=>aF (ev x) fun v=>xi v F
@[go_sem ↓] theorem Tr(ev:Ev)(d:Nat)(F:Int->Prop):mT ev none d F=F d:=(rfl)
@[go_sem ↓] theorem Ts(ev:Ev)(x:Operand)(d:Nat)(F:Int->Prop):mT ev (some x) d F=aF (ev x) fun v=>xi v F:=(rfl)
def IM(H:Hp)(r:Option Nat)(F:Nat->Prop):Prop:=
 match r with
 |none=>F 0
 |some b=>aF (H.mp b) fun m=>F m.1.length
@[go_sem ↓] theorem Vq(H:Hp)(b:Nat)(F:Nat->Prop):IM H (some b) F=aF (H.mp b) fun m=>F m.1.length:=(rfl)
def gO(ok:Bool)(z:Value)(x:Option Value):Value:=
 bif ok then(match x with|some v=>.tuple [v,.bool true].toArray|none=>.tuple [z,.bool false].toArray)else x.getD z
@[go_sem] theorem Ov(z v:Value):gO true z (some v)= .tuple [v,.bool true].toArray:=(rfl)
@[go_sem] theorem Ow(z:Value):gO true z none= .tuple [z,.bool false].toArray:=(rfl)
@[go_sem] theorem Sy(z v:Value):gO false z (some v)=v:=(rfl)
@[go_sem] theorem Sz(z:Value):gO false z none=z:=(rfl)
def Ex:Value->Bool
 | .pointer (some _)=>true
 | .iface .. =>true
 | .func (.func _) _ _=>true
 |_=>false
@[go_sem] theorem WX(a:Addr):Ex (.pointer (some a))=true:=(rfl)
@[go_sem] theorem Tt(t:TypeId)(v:Value):Ex (.iface t v)=true:=(rfl)
@[go_sem] theorem Vr(f:FuncId)(a b:Array Value):Ex (.func (.func f) a b)=true:=(rfl)
def MX(P:Program)(v:Value):Prop:=
 Ex v=true\/∃name t u cap,v= .func (.method name) #[.iface t u] cap/\∀w,(nilAhead (P.types.size+Made.depth) t u name).run P w= .ok (some false) w
@[go_sem] theorem ZI(P:Program)(a:Addr):MX P (.pointer (some a))=True:=eq_true (.inl rfl)
@[go_sem] theorem Vs(P:Program)(t:TypeId)(v:Value):MX P (.iface t v)=True:=eq_true (.inl rfl)
@[go_sem] theorem WY(P:Program)(f:FuncId)(a b:Array Value):MX P (.func (.func f) a b)=True:=eq_true (.inl rfl)
def dC.vc(P:Program)(ev:Ev)(H:Hp)(K:Value->Hp->Prop):dC->Prop
 | .mR x=>aF (ev x) fun v=>K v H
 | .pick c a b=>aF (ev c) fun j=>xg j fun t=>aF (bif t then ev a else ev b) fun v=>K v H
 | .box T x=>aF (ev x) fun v=>now (H.new T (aK v)) fun J=>K (.pointer (some ⟨H.size,0,none⟩)) J
 | .zero T l=>now (H.new T l) fun J=>K (.pointer (some ⟨H.size,0,none⟩)) J
 | .build z ps=>xh ev z ps fun l=>now l fun l=>K (.agg l.toArray) H
 | .lit T n z ps=>xh ev z ps fun l=>now (H.new T l) fun J=>K (.slice (some ⟨H.size,0,none⟩) n n) J
 | .mB x=>aF (ev x) fun p=>tI p fun b o=>aF (H.rd b) fun l=>aF l[o]? fun v=>K v H
 | .iC n x=>aF (ev x) fun p=>tI p fun b o=>aF (H.rd b) fun l=>dW (o+n<=l.length) (K (.agg ((l.drop o).take n).toArray) H)
 | .store n x v=>aF (ev x) fun p=>tI p fun b o=>aF (ev v) fun v=>aF (EO (H.own b) (H.wQ b)) fun l=>
   dW ((aK v).length=n) (dW (pX (aK v)=true) (dW (o+n<=l.length) (now (H.wr b (aQ l o (aK v))) fun J=>K undef J)))
 | .nilCheck x=>aF (ev x) fun v=>dW (MX P v) (K v H)
 | .j5 op s x y=>aF (ev x) fun a=>aF (ev y) fun b=>aF (dN op s a b) fun v=>K v H
 | .un op x=>aF (ev x) fun a=>aF (ZA op a) fun v=>K v H
 | .conv k x=>aF (ev x) fun a=>xi a fun n=>K (.int k (k.wrap n)) H
 | .iface T x=>aF (ev x) fun v=>K (.iface T v) H
 | .func fn first captured=>KG ev first fun l=>KG ev captured fun c=>K (.func fn l.toArray c.toArray) H
 | .LX=>K (.map (some H.size)) H.gD
 | .makeSlice T bytes size z n c=>aF (ev n) fun q=>aF (ev c) fun j=>xi q fun n=>xi j fun c=>
   dW (0<=n/\n<=c/\c<=2^48/\bytes*c<=2^48) (now (H.new T (dm z c.toNat)) fun J=>K (.slice (some ⟨H.size,0,none⟩) n.toNat c.toNat) J)
 | .slice size x lo hi mx=>aF (ev x) fun v=>mS v fun a n c=>mT ev mx c fun m=>mT ev hi n fun h=>mT ev lo 0 fun l=>
   dW (0<=l/\l<=h/\h<=m/\m<=c) (K (.slice (if m=l then a else a.map (·.add (l.toNat*size))) (h.toNat - l.toNat) (m.toNat - l.toNat)) H)
 | .GQ x lo hi=>aF (ev x) fun v=>iB v fun s=>mT ev hi s.size fun h=>mT ev lo 0 fun l=>
   dW (0<=l/\l<=h/\h<=s.size) (K (.string (s.extract l.toNat h.toNat)) H)
 | .fieldAddr off x=>aF (ev x) fun p=>tI p fun b o=>K (.pointer (some ⟨b,o+off,none⟩)) H
 | .field off agg x=>aF (ev x) fun v=>KH v fun l=>aF (lK l off agg) fun v=>K v H
 | .indexAddr size x i=>aF (ev x) fun v=>aF (ev i) fun e=>mS v fun a n _=>xi e fun i=>dW (0<=i/\i<n) (p9 a fun b o=>K (.pointer (some ⟨b,o+i.toNat*size,none⟩)) H)
 | .xf aY size x i=>aF (ev x) fun p=>aF (ev i) fun e=>tI p fun b o=>xi e fun i=>dW (0<=i/\i<aY) (K (.pointer (some ⟨b,o+i.toNat*size,none⟩)) H)
 | .GU aY size agg x i=>aF (ev x) fun v=>aF (ev i) fun e=>KH v fun l=>xi e fun i=>dW (0<=i/\i<aY) (aF (lK l (i.toNat*size) agg) fun v=>K v H)
 | .GR x i=>aF (ev x) fun v=>aF (ev i) fun e=>iB v fun s=>xi e fun i=>dW (0<=i) (aF (s[i.toNat]?) fun b=>K (.int .u8 b.toNat) H)
 | .lookup s z ok m k=>aF (ev m) fun g=>aF (ev k) fun w=>zd g fun r=>dW (yA s w=true) (uJ H s r w fun x=>K (gO ok z x) H)
 | .update s m k v=>aF (ev m) fun g=>aF (ev k) fun w=>aF (ev v) fun B=>zd g fun r=>aF r fun b=>dW (yA s w=true) (OO H s b w B fun J=>K undef J)
 | .extract i x=>aF (ev x) fun v=>MR v fun l=>aF l[i]? fun v=>K v H
 | .call f args=>KG ev args fun vs=>dO P f vs H K
 | .dyn f args=>aF (ev f) fun d=>KG ev args fun vs=>Tw P d vs H K
 | .invoke r name args=>aF (ev r) fun rv=>KG ev args fun vs=>fL P rv name vs H K
 | .Ks x=>aF (ev x) fun v=>mS v fun _ n _=>K (.int .i64 n) H
 | .Q2 x=>aF (ev x) fun v=>iB v fun s=>K (.int .i64 s.size) H
 | .Q3 x=>aF (ev x) fun v=>zd v fun r=>IM H r fun n=>K (.int .i64 n) H
 | .append T size bytes z x y=>aF (ev x) fun L=>aF (ev y) fun A=>eh T size bytes z L A H K
 | .delete s m k=>aF (ev m) fun g=>aF (ev k) fun w=>zd g fun r=>aF r fun b=>dW (yA s w=true) (TI H s b w fun J=>K (.tuple [].toArray) J)
 | .Kq z x=>aF (ev x) fun v=>mS v fun a n _=>Vo H z a n fun J=>K (.tuple [].toArray) J
 | .Q6 args=>KG ev args fun vs=>aF (ZE vs) fun v=>K v H
 | .Q7 args=>KG ev args fun vs=>aF (ZF vs) fun v=>K v H
 | .never=>False
 | .GS T x=>aF (ev x) fun v=>tn T v fun u=>K u H
 | .Q8 neg x=>aF (ev x) fun v=>KI v fun b=>K (.bool (LW neg b)) H
 | .Mc x=>aF (ev x) fun v=>ri H v fun l=>K (.string ⟨l.toArray⟩) H
 | .GP T x=>aF (ev x) fun v=>iB v fun s=>Qz T s H K
 | .ext f args=>KG ev args fun vs=>adK P f vs H K
attribute [go_sem ↓] dC.vc
section
variable {P : Program} {o : Oper} {a : Act} {ev : Ev} {H : Hp} {K : Value → Hp → Prop}
def dX(P:Program)(o:Oper)(a:Act)(H:Hp)(K:Value->Hp->Prop):Prop:=∃v,(∀w,(execOp a.eval o).run P w= .ok (.value v) w)/\K v H
theorem dX.abi(h:dX P o a H K):ef P o a H K:=by
 obtain⟨v,x,z⟩:=h;exact fun w l=>.inl ⟨v,w,x w,bH.refl w,l▸z⟩
theorem aq{d:TypeDesc}(h:P.underlying t=some d)(w:World):(underlying t).run P w= .ok d w:=run_underlying h w
theorem et{i:TypeInfo}(h:P.info? t=some i)(w:World):(typeInfo t).run P w= .ok i w:=by simp[typeInfo,h]
theorem bF(h:(P.info? t).isSome=true)(w:World):(sizeOf t).run P w= .ok (P.cellsOf t) w:=by
 obtain⟨i,hi⟩:=Option.isSome_iff_exists.1 h;simp[sizeOf,et hi,Program.cellsOf,hi]
theorem cG{z:Value}(h:fF P t=some z)(w:World):(zeroValue t).run P w= .ok z w:=by
 unfold fF at h;cases hi:P.info? t with
 |none=>grind
 |some i=>rw[hi]at h;simp only[Option.bind_some]at h;simp[zeroValue,et hi,h]
theorem wP(h:(P.underlying t).isSome=true)(w:World):(isAgg t).run P w= .ok (eu P t) w:=by
 obtain⟨d,x⟩:=Option.isSome_iff_exists.1 h;unfold isAgg eu;simp only[Sem.run_bind,aq x,Result.andThen_ok,x];cases d<;>rfl
theorem A4(t:TypeId)(v:Value)(w:World):(newVar t v).run P w= .ok ⟨w.heap.size,0,none⟩ {w with heap:=Hp.new w.heap t (aK v)}:=by
 simp only[newVar,newRow,Sem.run_bind,run_newObj,Result.andThen_ok,Sem.run_pure,Hp.new,<-eO,amf]
theorem jL(t:TypeId)(c:Array Value)(w:World):(newRow t c).run P w= .ok ⟨w.heap.size,0,none⟩ {w with heap:=Hp.new w.heap t c.toList}:=by
 rfl
theorem iG{w:World}{o:Nat}{l:List Value}(hi:(P.info? t).isSome=true)(z:(P.underlying t).isSome=true)(h:Hp.rd w.heap b=some l):
  (eu P t=true->o+P.cellsOf t<=l.length->(loadVar t ⟨b,o,none⟩).run P w= .ok (.agg ((l.drop o).take (P.cellsOf t)).toArray) w)/\
  (eu P t=false->∀v,l[o]? =some v->(loadVar t ⟨b,o,none⟩).run P w= .ok v w):=by
 refine⟨fun x m=>?_,fun x v c=>?_⟩
 ·simp[loadVar,wP z,x,bF hi,nD (P:=P) (a:=⟨b,o,none⟩) rfl h m]
 ·have n:w.cell? ⟨b,o,none⟩=some v:=(cJ rfl h).trans c;simp[loadVar,wP z,x,n]
theorem FY{w:World}{o:Nat}{l:List Value}{v:Value}(hi:(P.info? t).isSome=true)(c:P.cellsOf t≠0)(h:EO (Hp.own w.heap b) (Hp.wQ w.heap b)=some l)
  (z:(aK v).length=P.cellsOf t)(x:dK (aK v))(y:o+P.cellsOf t<=l.length):
  ∃w',(storeVar t ⟨b,o,none⟩ v).run P w= .ok () w'/\bH w w'/\w'.heap=Hp.wr w.heap b (aQ l o (aK v)):=by
 obtain⟨w',n,m,g,_⟩:=gY (P:=P) (b:=b) (o:=o) (aK v) 0 w l h O x;refine⟨w',?_,m,Z⟩;have e:v.cells.size=P.cellsOf t:=by rw[<-z,<-eO];simp
 simp only[storeVar,Sem.run_bind,bF hi,Result.andThen_ok,e,ne_eq,not_true_eq_false,if_false,eO];exact n
end
end
section
variable{t:TypeId}
section
variable {P : Program} {o : Oper} {a : Act} {ev : Ev} {H : Hp} {K : Value → Hp → Prop}
theorem dW.out{c F:Prop}(h:dW c F):c/\F:=h
theorem vt{v:Value}{F:Bool->Prop}(h:xg v F):∃b,v= .bool b/\F b:=by
 unfold xg at h;split at h
 ·exact⟨_,rfl,h⟩
 grind
theorem oC{l:List Value}{off:Nat}{v:Value}(hi:(P.info? t).isSome=true)(z:(P.underlying t).isSome=true)
  (h:lK l off (if eu P t then some (P.cellsOf t)else none)=some v)(w:World):(part t l.toArray off).run P w= .ok v w:=by
 unfold part;simp only[Sem.run_bind,wP z,Result.andThen_ok];cases x:eu P t
 ·rw[x]at h;simp only[al4,if_false,lK]at h ⊢;simp[h]
 ·rw[x]at h;simp only[if_true,lK]at h ⊢;split at h
  ·injection h with h;subst h;simp only[Sem.run_bind,bF hi,Result.andThen_ok,Sem.run_pure];grind
  grind
theorem info_of_underlying(h:(P.underlying t).isSome=true):(P.info? t).isSome=true:=by
 unfold Program.underlying at h;grind
theorem Kg(m:Nat){s:Shape}{x y:Value}{b:Bool}{d:Nat}(z:shapeOf P d t=some s)(e:∀n,s≠ .s n)(h:cH s x y=some b)(w:World):
  (Op.equalIn (m+1) t x y).run P w= .ok b w:=by
 cases d with
 |zero=>simp[shapeOf]at z
 |succ d=>
  rw[gu]at z;split at z;case h_9=>
   split at z
   ·cases z
   ·rename_i n c v;cases g:fy P d n.toList with
    |none=>grind
    |some l=>grind
  case h_10=>cases z
  all_goals(injection z with z;subst z)
  all_goals(unfold cH at h;split at h<;>rename_i c<;>first| (cases c;done)| (cases h;done)|skip)
  all_goals(try(split at h<;>first| (cases h;done)|skip))
  all_goals(injection h with h;subst h)
  all_goals(simp only[Op.equalIn,Sem.run_bind,aq ‹P.underlying t=_›,Result.andThen_ok])
  all_goals first|rfl| (rw[if_pos O];rfl)| (simp[*,beq_toListBytes];done)| (simp_all;done)|skip
theorem yW:∀ (d:Nat),
  (∀ (t:TypeId) (s:Shape) (x y:Value) (b:Bool),shapeOf P d t=some s->tJ s x y=some b->∀ (m:Nat) (w:World),(Op.equalIn (m+d) t x y).run P w= .ok b w)/\
  (∀ (fs:List Field) (l:List (Nat×Option Nat×Shape)) (xs c:List Value) (b:Bool),fy P d fs=some l->pw l xs c=some b->
   ∀ (m:Nat) (w:World),(Op.eqFields (m+d) xs.toArray c.toArray fs).run P w= .ok b w):=by
 intro d;induction d with
 |zero=>
  refine⟨fun t s x y b n=>(by simp[shapeOf]at n),fun fs l xs c b z h m w=>?_⟩;cases fs with
  |nil=>simp only[yV,alg]at z;subst z;simp only[pw,alg]at h;subst h;rfl
  |cons f fs=>simp[nv,shapeOf]at z
 |succ d N=>
  have first:∀ (t:TypeId) (s:Shape) (x y:Value) (b:Bool),shapeOf P (d+1) t=some s->tJ s x y=some b->∀ (m:Nat) (w:World),(Op.equalIn (m+(d+1)) t x y).run P w= .ok b w:=by
   intro t s x y b n h m w;by_cases q:∃fs,s= .s fs
   ·obtain⟨l,rfl⟩:=q;cases x with
    |agg xs=>
     cases y with
     |agg c=>
      simp only[tJ]at h;rw[gu]at n;split at n;case h_9=>
       split at n
       ·cases n
       ·rename_i fs v F;cases u:fy P d fs.toList with
        |none=>grind
        |some l'=>
         rw[u]at n;simp only[Option.map_some,alg,Shape.s.injEq]at n;subst n;have j:P.fieldsOf t=fs:=by simp[Program.fieldsOf,v]
         rw[show m+(d+1)=(m+d)+1 by omega,run_equalIn_struct w (m+d) t xs c Z Z,j];cases xs;cases c;grind
      all_goals cases n
     |_=>simp[tJ,cH]at h
    |_=>cases y<;>simp[tJ,cH]at h
   ·have T:cH s x y=some b:=by
     cases s<;>first|exact h|grind
    grind [Kg]
  refine⟨first,fun fs=>?_⟩;induction fs with
  |nil=>intro l xs c b z h m w;simp only[yV,alg]at z;subst z;simp only[pw,alg]at h;subst h;rfl
  |cons f fs A=>
   intro l xs c b z h m w;rw[nv]at z;split at z
   ·cases z
   ·rename_i p;split at z
    ·cases z
    ·rename_i C g;cases e:fy P (d+1) fs with
     |none=>grind
     |some l'=>
      rw[e]at z;simp only[Option.map_some,alg]at z;subst z;unfold pw at h;split at h
      ·cases h
      ·rename_i x B;split at h
       ·cases h
       ·rename_i y L;have v:(P.underlying f.type).isSome=true:=by
         rw[gu]at g;grind
        have hi:=info_of_underlying v;simp only[Op.eqFields,p,ne_eq,not_false_eq_true,if_true,Sem.run_bind,oC hi v B,oC hi v L,Result.andThen_ok];split at h
        ·rename_i r;rw[first f.type C x y true g r m w];simpa using A l' xs c b e h m w
        ·simp_all
        grind
end
end
section
variable{x y:Operand}{t:TypeId}{s:Shape}{u:Value}{b:Bool}
section
variable {P : Program} {o : Oper} {a : Act} {ev : Ev} {H : Hp} {K : Value → Hp → Prop}
abbrev bN(ev:Ev)(a:Act):Prop:=∀x v,ev x=some v->a.eval x=v
theorem bg{F:Value->Prop}(z:bN ev a)(h:aF (ev x) F):F (a.eval x):=by
 obtain⟨v,w,h⟩:=aC h;grind
theorem IF(l:bN ev a)(z:o.op= .move x\/o.op= .assign x)(h:(dC.mR x).vc P ev H K):dX P o a H K:=by
 have h:=bg l h;refine⟨_,fun w=>?_,h⟩;rcases z with z|z<;>simp[execOp,z]
theorem MM{c:Operand}(z:bN ev a)(m:o.op= .pick c x y)(h:(dC.pick c x y).vc P ev H K):dX P o a H K:=by
 obtain⟨b,n,h⟩:=vt (bg z h);have l:aF (ev (bif b then x else y)) fun v=>K v H:=by cases b<;>exact h
 have h:=bg z l;refine⟨_,fun w=>?_,h⟩;simp only[execOp,m,n,asBool];cases b<;>simp
theorem EL(l:bN ev a)(n:o.op= .nilCheck x)(h:(dC.nilCheck x).vc P ev H K):dX P o a H K:=by
 obtain⟨z,h⟩:=(bg l h).out;refine⟨_,fun w=>?_,h⟩;simp only[execOp,n];rcases z with z| ⟨name,t,u,cap,m,z⟩
 ·revert z;generalize a.eval x=v;cases v with
  |pointer q=>cases q<;>simp[Ex]
  |func fn x y=>cases fn<;>simp[Ex]
  |_=>simp[Ex]
 ·rw[m];have c:(#[Value.iface t u]:Array Value)[0]? =some (.iface t u):=rfl;simp[c,z w]
theorem Q9{op:UnOp}(l:bN ev a)(n:o.op= .unOp op t x)(h:(dC.un op x).vc P ev H K):dX P o a H K:=by
 obtain⟨v,z,h⟩:=aC (bg l h);refine⟨v,fun w=>?_,h⟩;simp only[execOp,n];revert z;generalize a.eval x=u;intro z;unfold ZA at z;split at z<;>first| (cases z;done)|skip
 all_goals(injection z with z;subst z;rfl)
theorem MO{s:TypeId}{k e:IntKind}(z:bN ev a)(m:o.op= .convert s t x)(c:P.underlying s=some (.int e))(v:P.underlying t=some (.int k))
  (h:(dC.conv k x).vc P ev H K):dX P o a H K:=by
 obtain⟨g,n,l,h⟩:=gg (bg z h);refine⟨_,fun w=>?_,h⟩;simp only[execOp,m,convert,l,Sem.run_bind,aq c,aq v,Result.andThen_ok,Conv.intToInt];rfl
theorem QA{n:Array (String×TypeId)}(z:P.underlying t=some (.interface n))(v:Value)(b:Bool)(l:(v= .nilIface/\b=true)\/∃x u,v= .iface x u/\b=false)(w:World):(Op.equal t v .nilIface).run P w= .ok b w:=by
 have h:∀m:Nat,(Op.equalIn (m+1) t v .nilIface).run P w= .ok b w:=fun m=>by
  rcases l with ⟨rfl,rfl⟩| ⟨x,u,rfl,rfl⟩<;>simp only[Op.equalIn,Sem.run_bind,aq z,Result.andThen_ok]<;>rfl
 exact h 9999
theorem F6{op:BinOp}{neg:Bool}{z:TypeId}{j:Array (String×TypeId)}(v:bN ev a)(y:o.op= .binOp op t x (.const .nilIface) z)(r:P.underlying t=some (.interface j))
  (n:(op= .eql/\neg=false)\/(op= .neq/\neg=true))(h:(dC.Q8 neg x).vc P ev H K):dX P o a H K:=by
 obtain⟨b,l,h⟩:∃b,((a.eval x= .nilIface/\b=true)\/∃z u,a.eval x= .iface z u/\b=false)/\K (.bool (LW neg b)) H:=by
  rcases Ga (bg v h)with ⟨e,h⟩| ⟨z,u,e,h⟩
  ·grind
  grind
 refine⟨_,fun w=>?_,h⟩;have m:=QA (P:=P) r (a.eval x) b l w;have c:a.eval (.const .nilIface)= .nilIface:=rfl;simp only[execOp,y,Sem.run_bind,c];generalize a.eval x=u at l m ⊢;have g:(eqGuard op t x (.const .nilIface) u .nilIface).run P w= .ok () w:=by
  unfold eqGuard;rcases n with ⟨rfl,_⟩| ⟨rfl,_⟩<;>rcases l with ⟨rfl,_⟩| ⟨z,d,rfl,_⟩<;>simp
 rw[g];simp only[Result.andThen_ok];rcases n with ⟨rfl,rfl⟩| ⟨rfl,rfl⟩<;>rcases l with ⟨rfl,rfl⟩| ⟨z,d,rfl,rfl⟩<;>simp[binOp,m,LW]
theorem IK{s:TypeId}{d:TypeDesc}(z:bN ev a)(l:o.op= .typeAssert x s t false)(n:P.underlying t=some d)(v:∀c,d≠ .interface c)
  (h:(dC.GS t x).vc P ev H K):dX P o a H K:=by
 obtain⟨u,m,h⟩:=xj (bg z h);refine⟨_,fun w=>?_,h⟩;simp only[execOp,l,m,Instr.typeAssert,Sem.run_bind,aq n,Result.andThen_ok];rfl
theorem KD{d:TypeDesc}(z:bN ev a)(l:o.op= .makeInterface t x)(n:P.underlying t=some d)(c:∀m,d≠ .interface m)
  (h:(dC.iface t x).vc P ev H K):dX P o a H K:=by
 have h:=bg z h;refine⟨_,fun w=>?_,h⟩;simp only[execOp,l,Instr.makeInterface,Sem.run_bind,aq n,Result.andThen_ok];rfl
theorem MP{fn:Fn}{first captured:Array Operand}(x:bN ev a)(z:o.op= .makeFunc fn first captured)(h:(dC.func fn first.toList captured.toList).vc P ev H K):dX P o a H K:=by
 have h:=jK x (jK x h);refine⟨_,fun w=>?_,h⟩;simp only[execOp,z,Instr.makeFunc,Sem.run_bind,Sem.run_pure,Result.andThen_ok];congr 3
 ·grind
 grind
theorem pY{c:Bool}{m:Sem Unit}{w:World}(h:m.run P w= .ok () w):(if(!c)=true then(pure ():Sem Unit)else m).run P w= .ok () w:=by
 simp_all
theorem th{op:BinOp}{v:Value}(h:tJ s u v=some b)(z:Sx s=true\/P.eqGuardType P.depth t=false)(w:World):
  (eqGuard op t x y u v).run P w= .ok () w:=by
 unfold eqGuard;refine pY ?_;cases u with
 |nilIface=>
  cases v with
  |nilIface=>cases s<;>simp[tJ,cH]at h
  |_=>rfl
 |agg xs=>
  cases v with
  |agg l=>
   rcases z with z|z
   ·cases s<;>simp_all[tJ,cH,Sx]
   simp_all
  |_=>rfl
 |_=>rfl
theorem Ey{v:Value}(c:shapeOf P fN t=some s)(h:tJ s u v=some b)(g:∀k n,u≠ .int k n\/∀r m,v≠ .int r m)
  (e:∀x,u≠ .string x\/∀y,v≠ .string y)(w:World):
  (binOp .eql t u v).run P w= .ok (.bool b) w/\(binOp .neq t u v).run P w= .ok (.bool (!b)) w:=by
 have j:(Op.equal t u v).run P w= .ok b w:=by
  unfold Op.equal Op.maxDepth;have:=(yW (P:=P) fN).1 t s u v b c h (10000 - fN) w;simpa[fN]using this
 have d:∀ {op},op=BinOp.eql\/op=BinOp.neq->binOp op t u v=(if op=BinOp.eql then(do pure (.bool (<-Op.equal t u v)))else(do pure (.bool (!(<-Op.equal t u v))))):=by
  intro op l;cases u<;>cases v<;>rcases l with rfl|rfl<;>first
   |rfl
   | (rcases g _ _ with z|z<;>first|exact absurd rfl z|exact absurd rfl (z _ _))
   | (rcases e _ with z|z<;>first|exact absurd rfl z|exact absurd rfl (z _))
   | (cases s<;>simp[tJ,cH]at h)
 simp_all
def QB(op:BinOp)(s:Shape)(u z:Value):Option Value:=match op with| .eql=>(tJ s u z).map .bool| .neq=>(tJ s u z).map fun b=>.bool (!b)|_=>none
theorem NY{op:BinOp}{z:Value}(h:∀k n,u≠ .int k n\/∀x m,z≠ .int x m)(w:∀p,u≠ .string p\/∀q,z≠ .string q):dN op s u z=QB op s u z:=by
 unfold dN QB;grind
theorem Ct{op:BinOp}{V:TypeId}(C:bN ev a)(U:o.op= .binOp op t x y V)
  (F:(op= .eql\/op= .neq)->shapeOf P fN t=some s/\(Sx s=true\/P.eqGuardType P.depth t=false))
  (h:(dC.j5 op s x y).vc P ev H K):dX P o a H K:=by
 obtain⟨v,l,h⟩:=aC (bg C (bg C h));refine⟨v,fun w=>?_,h⟩;simp only[execOp,U,Sem.run_bind];generalize G:a.eval x=u at l ⊢;generalize D:a.eval y=z at l ⊢;have adL:∀k n g m,u= .int k n->z= .int g m->(eqGuard op t x y u z).run P w= .ok () w/\(binOp op t u z).run P w= .ok v w:=by
  intro k n g m j d;subst j;subst d;refine⟨pY rfl,?_⟩
  ·unfold dN at l;by_cases T:k=g
   ·subst T;cases op<;>simp only[binOp,Op.shift,Op.intArith,Op.intDiv,Op.intBits,Op.intCmp]at l ⊢ <;>simp at l ⊢ <;>first
     | (subst l;rfl)
     | (split at l<;>first| (cases l;done)| (injection l with l;subst l;rename_i Q;simp[Q];done)|skip)
     | (obtain⟨c,rfl⟩:=l;simp[show¬m<0 by omega])
     | (obtain⟨c,rfl⟩:=l;simp[c])
     |skip
   ·cases op<;>simp[T]at l<;>simp only[binOp,Op.shift]<;>first
     | (obtain⟨c,rfl⟩:=l;simp[show¬m<0 by omega])
     |skip
 have I:∀p q,u= .string p->z= .string q->(eqGuard op t x y u z).run P w= .ok () w/\(binOp op t u z).run P w= .ok v w:=by
  intro p q j d;subst j;subst d;refine⟨pY rfl,?_⟩
  ·unfold dN at l;cases op<;>simp only[binOp,Op.stringOp]at l ⊢ <;>simp at l ⊢ <;>first
    | (subst l;rfl)
    | (obtain⟨c,rfl⟩:=l;simp[show¬ (9223372036854775807:Int)< (p.size:Int)+q.size by omega])
    | (obtain⟨c,rfl⟩:=l;rw[if_neg O])
    | (cases l;done)
    |skip
 have W:(∀k n,u≠ .int k n\/∀g m,z≠ .int g m)->(∀p,u≠ .string p\/∀q,z≠ .string q)->(eqGuard op t x y u z).run P w= .ok () w/\(binOp op t u z).run P w= .ok v w:=by
  intro c f;have N:=NY (op:=op) (s:=s) c f;rw[N]at l;cases op<;>simp only[QB]at l<;>first| (cases l;done)|skip
  ·obtain⟨L,A⟩:=F (.inl rfl);cases r:tJ s u z with
   |none=>rw[r]at l;cases l
   |some b=>rw[r]at l;injection l with l;subst l;exact⟨th r A w,(Ey L r c f w).1⟩
  ·obtain⟨L,A⟩:=F (.inr rfl);cases r:tJ s u z with
   |none=>rw[r]at l;cases l
   |some b=>rw[r]at l;injection l with l;subst l;exact⟨th r A w,(Ey L r c f w).2⟩
 have key:(eqGuard op t x y u z).run P w= .ok () w/\(binOp op t u z).run P w= .ok v w:=by
  by_cases c:∃k n g m,u= .int k n/\z= .int g m
  ·obtain⟨k,n,g,m,j,d⟩:=c;exact adL k n g m j d
  ·by_cases f:∃p q,u= .string p/\z= .string q
   ·obtain⟨p,q,j,d⟩:=f;exact I p q j d
   ·refine W (fun k n=>?_) (fun p=>?_)
    ·by_cases e:u= .int k n
     ·exact .inr fun g m B=>c ⟨k,n,g,m,e,B⟩
     ·exact .inl e
    ·by_cases e:u= .string p
     ·exact .inr fun q B=>f ⟨p,q,e,B⟩
     ·exact .inl e
 simp[key.1,key.2]
end
end
section
variable{x i:Operand}{t e:TypeId}{n f:Nat}
section
variable {P : Program} {o : Oper} {a : Act} {ev : Ev} {H : Hp} {K : Value → Hp → Prop}
theorem GV{i:Nat}(z:bN ev a)(l:o.op= .extract x i)(h:(dC.extract i x).vc P ev H K):dX P o a H K:=by
 obtain⟨vs,n,h⟩:=F7 (bg z h);obtain⟨v,hi,h⟩:=aC h;refine⟨v,fun w=>?_,h⟩;have hi':vs[i]? =some v:=by simpa using hi
 simp[execOp,l,n,Instr.extract,hi']
theorem Cv{fields:Array Field}{z:Field}(n:bN ev a)(c:o.op= .fieldAddr t x f)(v:P.underlying t=some (.struct fields))
  (m:fields[f]? =some z)(hi:(P.info? z.type).isSome=true)(l:P.cellsOf z.type≠0)(h:(dC.fieldAddr z.offset x).vc P ev H K):dX P o a H K:=by
 obtain⟨b,off,e,h⟩:=fz (bg n h);refine⟨_,fun w=>?_,h⟩;simp[execOp,c,e,Instr.fieldAt,aq v,m,Instr.sureAddr,fieldPlace,bF hi,l,vp]
theorem KF{fields:Array Field}{z:Field}(l:bN ev a)(m:o.op= .field t x f)(e:P.underlying t=some (.struct fields))
  (n:fields[f]? =some z)(hi:(P.info? z.type).isSome=true)(g:(P.underlying z.type).isSome=true)
  (h:(dC.field z.offset (if eu P z.type then some (P.cellsOf z.type)else none) x).vc P ev H K):dX P o a H K:=by
 obtain⟨vs,y,h⟩:=y9 (bg l h);obtain⟨v,c,h⟩:=aC h;refine⟨v,fun w=>?_,h⟩;have:=oC hi g c w;simp only[amf]at this;simp[execOp,m,y,Instr.field,aq e,n,asAgg,this]
theorem Cw(l:bN ev a)(v:o.op= .indexAddr t x i)(g:P.underlying t=some (.slice e))(hi:(P.info? e).isSome=true)
  (h:(dC.indexAddr (P.cellsOf e) x i).vc P ev H K):dX P o a H K:=by
 obtain⟨r,n,c,y,h⟩:=hV (bg l (bg l h));obtain⟨k,j,m,h⟩:=gg h;obtain⟨z,h⟩:=h.out;obtain⟨b,off,rfl,h⟩:=lw h;refine⟨_,fun w=>?_,h⟩;simp[execOp,v,y,m,Instr.indexAt,aq g,asIntOf,z.1,z.2,bF hi,vp]
theorem EM(l:bN ev a)(c:o.op= .indexAddr t x i)(v:P.underlying t=some (.array n e))(hi:(P.info? e).isSome=true)
  (h:(dC.xf n (P.cellsOf e) x i).vc P ev H K):dX P o a H K:=by
 obtain⟨b,off,g,h⟩:=fz (bg l (bg l h));obtain⟨k,j,m,h⟩:=gg h;obtain⟨z,h⟩:=h.out;refine⟨_,fun w=>?_,h⟩;simp[execOp,c,g,m,Instr.indexAt,aq v,asIntOf,z.1,z.2,bF hi,vp,Instr.sureAddr]
theorem II(z:bN ev a)(c:o.op= .index t x i)(v:P.underlying t=some .string)
  (h:(dC.GR x i).vc P ev H K):dX P o a H K:=by
 obtain⟨s,e,h⟩:=kQ (bg z (bg z h));obtain⟨k,j,m,h⟩:=gg h;obtain⟨l,h⟩:=h.out;obtain⟨b,n,h⟩:=aC h;refine⟨_,fun w=>?_,h⟩;simp[execOp,c,e,m,Instr.index,aq v,asIntOf,l,n]
theorem IJ(l:bN ev a)(c:o.op= .index t x i)(y:P.underlying t=some (.array n e))(hi:(P.info? e).isSome=true)(r:(P.underlying e).isSome=true)
  (h:(dC.GU n (P.cellsOf e) (if eu P e then some (P.cellsOf e)else none) x i).vc P ev H K):dX P o a H K:=by
 obtain⟨vs,d,h⟩:=y9 (bg l (bg l h));obtain⟨k,j,m,h⟩:=gg h;obtain⟨z,h⟩:=h.out;obtain⟨v,g,h⟩:=aC h;refine⟨v,fun w=>?_,h⟩;have:=oC hi r g w;simp only[amf]at this;simp[execOp,c,d,m,Instr.index,aq y,asIntOf,z.1,z.2,bF hi,this]
theorem j2{x:Option Operand}{d:Nat}{F:Int->Prop}(z:bN ev a)(h:mT ev x d F):
  ∃n,F n/\((x=none/\n=d)\/∃y k,x=some y/\a.eval y= .int k n):=by
 cases x with
 |none=>exact⟨d,h,.inl ⟨rfl,rfl⟩⟩
 |some y=>
  obtain⟨k,n,w,h⟩:=gg (bg z h);grind
theorem gw{k:IntKind}{i:Int}{y:Nat}{code:BoundsCode}(x:0<=i)(h:i<=y)(w:World):(Instr.sliceBound (.int k i) y code).run P w= .ok i.toNat w:=by
 simp[Instr.sliceBound,asIntOf,x,h]
theorem Ez{isS:Bool}{c:Nat}{lo hi mx:Option Operand}{l h m:Int}(v:(lo=none/\l=0)\/∃y k,lo=some y/\a.eval y= .int k l)
  (z:(hi=none/\h=n)\/∃y k,hi=some y/\a.eval y= .int k h)(hm:(mx=none/\m=c)\/∃y k,mx=some y/\a.eval y= .int k m)
  (f:mx.isSome=true->hi.isSome=true)(t:0<=l/\l<=h/\h<=m/\m<=c)(w:World):
  (Instr.sliceBounds isS n c (lo.map a.eval) (hi.map a.eval) (mx.map a.eval)).run P w= .ok (l.toNat,h.toNat,m.toNat) w:=by
 obtain⟨x,q,u,B⟩:=t;unfold Instr.sliceBounds;rcases hm with ⟨rfl,rfl⟩| ⟨A,L,rfl,em⟩
 ·rcases z with ⟨rfl,rfl⟩| ⟨d,r,rfl,e⟩<;>rcases v with ⟨rfl,rfl⟩| ⟨p,j,rfl,g⟩<;>
   simp only[Option.map_none,Option.map_some,Option.isSome_none,Sem.run_bind,Sem.run_pure,Result.andThen_ok, *]
  ·rfl
  ·rw[gw x O];rfl
  ·rw[gw O O];rfl
  ·rw[gw O O];simp only[Result.andThen_ok];rw[gw x O];rfl
 ·rcases z with ⟨rfl,rfl⟩| ⟨d,r,rfl,e⟩
  ·grind
  ·rcases v with ⟨rfl,rfl⟩| ⟨p,j,rfl,g⟩<;>simp only[Option.map_none,Option.map_some,Option.isSome_some,Sem.run_bind,Sem.run_pure,Result.andThen_ok, *]
   ·rw[gw O O];simp only[Result.andThen_ok];rw[gw O O];rfl
   ·rw[gw O O];simp only[Result.andThen_ok];rw[gw O O];simp only[Result.andThen_ok];rw[gw x O];rfl
theorem KE{lo hi mx:Option Operand}(z:bN ev a)(d:o.op= .slice t x lo hi mx)(q:P.underlying t=some (.slice e))(r:(P.info? e).isSome=true)
  (v:mx.isSome=true->hi.isSome=true)(h:(dC.slice (P.cellsOf e) x lo hi mx).vc P ev H K):dX P o a H K:=by
 obtain⟨u,n,c,f,h⟩:=hV (bg z h);obtain⟨m,h,hm⟩:=j2 z h;obtain⟨B,h,y⟩:=j2 z h;obtain⟨l,h,j⟩:=j2 z h;obtain⟨g,h⟩:=h.out;refine⟨_,fun w=>?_,h⟩;have p:=Ez (P:=P) (isS:=true) (n:=n) (c:=c) j y hm v g w;simp only[execOp,d,Instr.sliceAt,Sem.run_bind,aq q,Result.andThen_ok,Instr.slice,f,p,bF r,Sem.run_pure];grind
theorem IH{lo hi:Option Operand}(z:bN ev a)(y:o.op= .slice t x lo hi none)(r:P.underlying t=some .string)
  (h:(dC.GQ x lo hi).vc P ev H K):dX P o a H K:=by
 obtain⟨s,j,h⟩:=kQ (bg z h);obtain⟨p,h,e⟩:=j2 z h;obtain⟨l,h,g⟩:=j2 z h;obtain⟨d,h⟩:=h.out;refine⟨_,fun w=>?_,h⟩;have v:=Ez (P:=P) (isS:=false) (n:=s.size) (c:=s.size) (m:=s.size) (mx:=none) g e Z (by simp) O w;simp only[Option.map_none]at v;simp only[execOp,y,Instr.sliceAt,Sem.run_bind,aq r,Result.andThen_ok,Instr.slice,j,v,Sem.run_pure,Option.map_none,Option.isSome_none,al4,if_false]
theorem Ig(vs:List Value):∀ (n off:Nat) (z:Array Value),((vs.zipIdx n).foldl (fun cs (c,j)=>cs.setIfInBounds (off+j) c) z).toList=aQ z.toList (off+n) vs:=by
 induction vs with
 |nil=>intro n off z;rfl
 |cons v vs x=>
  intro n off z;rw[List.zipIdx_cons,List.foldl_cons,mO];have:=x (n+1) off (z.setIfInBounds (off+n) v);grind
theorem fill_eq{place:Nat->Option (Nat×Nat)}:∀ (ps:List (Nat×Operand)) (w:List (Nat×Nat×Operand)) (z:Array Value) (F:List Value->Prop),
  List.length ps=List.length w->(∀ (j i:Nat) (x:Operand),ps[j]? =some (i,x)->∃off size:Nat,w[j]? =some (off,size,x)/\place i=some (off,size)/\off+size<=z.size)->bN ev a->xh ev z.toList w F->
   ∃z':Array Value,Instr.fill place z (ps.map fun(i,x)=>(i,a.eval x))=some z'/\F z'.toList:=by
 intro ps;induction ps with
 |nil=>
  intro w z F e n l h;cases w with
  |nil=>exact⟨z,rfl,h⟩
  |cons q w=>grind
 |cons p ps f=>
  intro w z F e n l h;obtain⟨i,x⟩:=p;cases w with
  |nil=>grind
  |cons q w=>
   obtain⟨off,size,m,y,C⟩:=n 0 i x rfl;simp only[alN,alg]at m;subst m;obtain⟨g,h⟩:=(bg l h).out;have r:(a.eval x).cells.size=size:=by rw[<-g,<-eO];simp
   rw[alM,Instr.fill];simp only[y,r,ne_eq,not_true_eq_false,decide_false,Bool.false_or,amv];rw[if_neg O];have v:((a.eval x).cells.zipIdx.foldl (fun cs (c,j)=>cs.setIfInBounds (off+j) c) z).toList=aQ z.toList off (aK (a.eval x)):=by
    have:=Ig (a.eval x).cells.toList 0 off z;rw[eO]at this;rw[<-Array.foldl_toList,Array.toList_zipIdx,eO];simpa using this
   refine f w _ F Z (fun j d L A=>?_) l Z;obtain⟨u,B,N,t,T⟩:=n (j+1) d L Z;refine⟨u,B,Z,t,?_⟩;have:((a.eval x).cells.zipIdx.foldl (fun cs (c,j)=>cs.setIfInBounds (off+j) c) z).size=z.size:=by
    rw[<-Array.length_toList,v,ew,Array.length_toList]
   grind
end
end
section
variable{t:TypeId}{s:Shape}{x:Operand}{k z:Value}{b n d:Nat}
section
variable {P : Program} {o : Oper} {a : Act} {ev : Ev} {H : Hp} {K : Value → Hp → Prop}
theorem pZ{place:Nat->Option (Nat×Nat)}{Vt:Nat}:∀ (ps:List (Nat×Operand)) (z:List (Nat×Nat×Operand)),jE place Vt ps=some z->
  ps.length=z.length/\∀ (j i:Nat) (x:Operand),ps[j]? =some (i,x)->∃off size:Nat,z[j]? =some (off,size,x)/\place i=some (off,size)/\off+size<=Vt:=by
 intro ps;induction ps with
 |nil=>grind [jE]
 |cons p ps m=>
  intro z h;obtain⟨i,x⟩:=p;unfold jE at h;split at h
  ·cases h
  ·rename_i off size l;split at h
   ·rename_i w;cases n:jE place Vt ps with
    |none=>grind
    |some c=>
     grind
   grind
theorem Kh(x:List Field)(h:∀f∈x,(P.info? f.type).isSome=true)(w:World):
  (x.mapM fun f=>(do pure (f.offset,<-sizeOf f.type):Sem (Nat×Nat))).run P w= .ok (x.map fun f=>(f.offset,P.cellsOf f.type)) w:=by
 induction x with
 |nil=>rfl
 |cons f x l=>
  rw[List.mapM_cons];simp only[Sem.run_bind,bF (h f alS),Result.andThen_ok,Sem.run_pure,l fun g z=>h g (alT _ z),alM]
theorem yX(ps:Array (Nat×Operand)):(ps.map fun(i,x)=>(i,a.eval x)).toList=ps.toList.map fun(i,x)=>(i,a.eval x):=by simp
theorem Kw{ps:Array (Nat×Operand)}{c:List (Nat×Nat×Operand)}(j:bN ev a)(d:o.op= .build t ps)(p:fF P t=some z)
  (x:parts P t (aK z).length ps.toList=some c)(h:(dC.build (aK z) c).vc P ev H K):dX P o a H K:=by
 have y:z.cells.toList=aK z:=eO z;have A:z.cells.size=(aK z).length:=by rw[<-y];simp
 unfold parts at x;split at x
 ·rename_i fields g;split at x
  ·rename_i u;obtain⟨v,q⟩:=pZ _ _ x;obtain⟨r,m,B⟩:=fill_eq (a:=a) (ev:=ev) (place:=((placeOf P fields)[·]?)) ps.toList c z.cells (fun l=>K (.agg l.toArray) H) v
    Z j (by rw[y];exact h)
   refine⟨.agg r,fun w=>?_,O⟩;have L:(fields.mapM fun f=>(do pure (f.offset,<-sizeOf f.type):Sem (Nat×Nat))).run P w= .ok (placeOf P fields) w:=by
    rw[Array.mapM_eq_mapM_toList,Sem.run_map,Kh fields.toList (fun f m=>by
     have:=(al9.1 u) f Z;omega) w]
    simp only[Result.andThen_ok];congr 1;apply Array.ext';simp[placeOf]
   simp only[execOp,d,Instr.build,Sem.run_bind,cG p,aq g,Result.andThen_ok,L,yX,m,Sem.run_pure]
  grind
 ·rename_i n e g;split at x
  ·rename_i hi;obtain⟨v,q⟩:=pZ _ _ x;obtain⟨r,m,B⟩:=fill_eq (a:=a) (ev:=ev) (place:=fun i=>some (i*P.cellsOf e,P.cellsOf e)) ps.toList c z.cells (fun l=>K (.agg l.toArray) H) v
    Z j (by rw[y];exact h)
   refine⟨.agg r,fun w=>?_,O⟩;simp only[execOp,d,Instr.build,Sem.run_bind,cG p,aq g,Result.andThen_ok,bF hi,yX,m,Sem.run_pure]
  grind
 grind
theorem xd{z:Array Value}{size:Nat}(m:z.size=size)(v:size≠0):((Array.range (n*size)).map (z[· %z.size]!)).toList=dm z.toList n:=by
 subst m;induction n with
 |zero=>simp[dm]
 |succ n c=>
  apply alB;intro i;have l:dm z.toList (n+1)=dm z.toList n++z.toList:=by simp[dm,amG]
  have w:(dm z.toList n).length=n*z.size:=by rw[<-c];simp
  rw[l];by_cases hi:i<n*z.size
  ·grind
  ·rw[List.getElem?_append_right O,w];by_cases x:i< (n+1)*z.size
   ·have h:i - n*z.size<z.size:=by rw[amo]at x;omega
    have g:i%z.size=i - n*z.size:=by
     have e:i=(i - n*z.size)+z.size*n:=by rw[Nat.mul_comm z.size n];omega
     rw[e,Nat.add_mul_mod_self_left,Nat.mod_eq_of_lt h];rw[Nat.mul_comm z.size n];omega
    grind
   grind
theorem rz(z:List Value)(n:Nat):(dm z n).length=n*z.length:=by simp[dm]
theorem OI{e:TypeId}{ps:Array (Nat×Operand)}{j:List (Nat×Nat×Operand)}(B:bN ev a)(d:o.op= .buildSlice t n ps)(p:P.underlying t=some (.slice e))
  (F:fF P e=some z)(hi:(P.info? e).isSome=true)(f:P.cellsOf e≠0)(L:(aK z).length=P.cellsOf e)(hm:n*P.cellsOf e<=2^24)
  (A:jE (fun i=>some (i*P.cellsOf e,P.cellsOf e)) (n*P.cellsOf e) ps.toList=some j)(h:(dC.lit e n (dm (aK z) n) j).vc P ev H K):ef P o a H K:=by
 have q:z.cells.toList=aK z:=eO z;have N:z.cells.size=P.cellsOf e:=by rw[<-L,<-q];simp
 intro w T;subst T;obtain⟨u,Q⟩:=pZ _ _ A;have C:∀ (m:Array Value),(n*P.cellsOf e=0\/m=z.cells)->((Array.range (n*P.cellsOf e)).map (m[· %m.size]!)).toList=dm (aK z) n:=by
  intro m v;rcases v with v|rfl
  ·have:n=0:=by
    rcases Nat.mul_eq_zero.1 v with h|h
    ·exact h
    ·omega
   subst this;simp[dm]
  ·rw[xd N f,q]
 have main:∀m:Array Value,(n*P.cellsOf e=0\/m=z.cells)->∃c:Array Value,Instr.fill (fun i=>some (i*P.cellsOf e,P.cellsOf e)) ((Array.range (n*P.cellsOf e)).map (m[· %m.size]!)) (ps.toList.map fun(i,x)=>(i,a.eval x))=some c/\
   K (.slice (some ⟨w.heap.size,0,none⟩) n n) (Hp.new w.heap e c.toList):=by
  intro m v;exact fill_eq (a:=a) (ev:=ev) ps.toList j _ (fun l=>K (.slice (some ⟨w.heap.size,0,none⟩) n n) (Hp.new w.heap e l)) u
   Z B (by rw[C m v];exact h)
 by_cases r:n*P.cellsOf e=0
 ·obtain⟨c,g,y⟩:=main #[] (.inl r);refine .inl ⟨.slice (some ⟨w.heap.size,0,none⟩) n n,{w with heap:=Hp.new w.heap e c.toList},?_,⟨rfl,rfl⟩,y⟩;simp only[execOp,d,Instr.buildSlice,Sem.run_bind,aq p,bF hi,Result.andThen_ok];rw[if_neg O,if_pos r];simp only[Sem.run_pure,Result.andThen_ok,Sem.run_bind,yX,g,jL]
 ·obtain⟨c,g,y⟩:=main z.cells (.inr rfl);refine .inl ⟨.slice (some ⟨w.heap.size,0,none⟩) n n,{w with heap:=Hp.new w.heap e c.toList},?_,⟨rfl,rfl⟩,y⟩;simp only[execOp,d,Instr.buildSlice,Sem.run_bind,aq p,bF hi,Result.andThen_ok];rw[if_neg O,if_neg r];simp only[Sem.run_pure,Result.andThen_ok,Sem.run_bind,cG F,yX,g,jL]
theorem OH(z:bN ev a)(l:o.op= .box t x)(h:(dC.box t x).vc P ev H K):ef P o a H K:=by
 intro w n;subst n;have h:=bg z h;refine .inl ⟨_,{w with heap:=Hp.new w.heap t (aK (a.eval x))},?_,⟨rfl,rfl⟩,h⟩;simp[execOp,l,Instr.box,A4]
theorem MN(n:fF P t=some z)(x:o.op= .alloc t)(h:(dC.zero t (aK z)).vc P ev H K):ef P o a H K:=by
 intro w l;subst l;refine .inl ⟨_,{w with heap:=Hp.new w.heap t (aK z)},?_,⟨rfl,rfl⟩,h⟩;simp[execOp,x,Instr.alloc,A4,cG n]
theorem Kz(z:bN ev a)(c:o.op= .load t x)(hi:(P.info? t).isSome=true)(e:(P.underlying t).isSome=true)(n:eu P t=false)
  (h:(dC.mB x).vc P ev H K):ef P o a H K:=by
 intro w y;subst y;obtain⟨b,off,r,h⟩:=fz (bg z h);obtain⟨l,m,h⟩:=aC h;obtain⟨v,g,h⟩:=aC h;refine .inl ⟨v,w,?_,bH.refl w,h⟩;simp[execOp,c,Instr.loadAt,r,Instr.sureAddr,(iG hi e m).2 n v g]
theorem Ky(z:bN ev a)(v:o.op= .load t x)(hi:(P.info? t).isSome=true)(e:(P.underlying t).isSome=true)(n:eu P t=true)
  (h:(dC.iC (P.cellsOf t) x).vc P ev H K):ef P o a H K:=by
 intro w g;subst g;obtain⟨b,off,y,h⟩:=fz (bg z h);obtain⟨l,m,h⟩:=aC h;obtain⟨c,h⟩:=h.out;refine .inl ⟨_,w,?_,bH.refl w,h⟩;simp only[execOp,v,Instr.loadAt,y,Instr.sureAddr,Sem.run_bind,Sem.run_pure,Result.andThen_ok,(iG hi e m).1 n c]
theorem KA{y:Operand}(z:bN ev a)(j:o.op= .store t x y)(hi:(P.info? t).isSome=true)(n:P.cellsOf t≠0)
  (h:(dC.store (P.cellsOf t) x y).vc P ev H K):ef P o a H K:=by
 intro w q;subst q;obtain⟨b,off,f,h⟩:=fz (bg z h);obtain⟨l,r,h⟩:=aC (bg z h);obtain⟨m,h⟩:=h.out;obtain⟨c,h⟩:=h.out;obtain⟨e,h⟩:=h.out;obtain⟨w',d,p,g⟩:=FY (v:=a.eval y) hi n r m (NW c) e;refine .inr (.inl ⟨w',?_,p,g▸h⟩);simp[execOp,j,Instr.storeAt,f,Instr.sureAddr,d]
theorem IG(x:o.op= .makeMap t none)(h:dC.LX.vc P ev H K):ef P o a H K:=by
 intro w z;subst z;refine .inl ⟨_,{w with heap:=Hp.gD w.heap},?_,⟨rfl,rfl⟩,h⟩;simp only[execOp,x,Option.map_none,Instr.makeMap,Sem.run_bind,Sem.run_pure,Result.andThen_ok,run_newObj,Hp.gD]
theorem wrap_i64{n:Int}(h:0<=n)(z:n<=2^62):IntKind.i64.wrap n=n:=by
 have e:(2^IntKind.i64.bits:Int)=18446744073709551616:=rfl;have x:(2^ (IntKind.i64.bits - 1):Int)=9223372036854775808:=rfl;unfold IntKind.wrap;grind
theorem Cu{e:TypeId}{y:Operand}(v:bN ev a)(q:o.op= .makeSlice t x y)(f:P.underlying t=some (.slice e))(A:fF P e=some z)
  (hi:(P.info? e).isSome=true)(m:P.cellsOf e≠0)(p:(aK z).length=P.cellsOf e)(h:(dC.makeSlice e (P.bytesOf e) (P.cellsOf e) (aK z) x y).vc P ev H K):ef P o a H K:=by
 intro w u;subst u;have h:=bg v (bg v h);obtain⟨k,n,B,h⟩:=gg h;obtain⟨W,c,L,h⟩:=gg h;obtain⟨⟨r,N,Q,U⟩,h⟩:=h.out;refine .inl ⟨_,{w with heap:=Hp.new w.heap e (dm (aK z) c.toNat)},?_,⟨rfl,rfl⟩,h⟩;obtain⟨i,hi'⟩:=Option.isSome_iff_exists.1 hi;have j:i.bytes=P.bytesOf e:=by simp[Program.bytesOf,hi']
 have g:z.cells.toList=aK z:=eO z;have C:z.cells.size=P.cellsOf e:=by rw[<-p,<-g];simp
 have T:=wrap_i64 r (by omega:n<=2^62);have F:=wrap_i64 (by omega:0<=c) (by omega:c<=2^62);simp only[execOp,q,Instr.makeSlice,Sem.run_bind,aq f,Result.andThen_ok,B,L,asInt,asIntOf,Sem.run_pure,et hi',j,T,F,run_askRoom,bF hi];have I:(decide (c<0) || decide ((P.bytesOf e:Int)*c>2^48))=false:=by simp;omega
 rw[if_neg Z];simp only[Sem.run_bind,run_askRoom,Result.andThen_ok,bF hi];by_cases l:c.toNat*P.cellsOf e=0
 ·have d:c.toNat=0:=by rcases Nat.mul_eq_zero.1 l with h|h;exact h;exact absurd h m
  rw[if_pos l];simp only[d,aly,Sem.run_bind,Sem.run_pure,Result.andThen_ok,jL];simp[dm]
 ·rw[if_neg l];simp only[Sem.run_bind,cG A,Sem.run_pure,Result.andThen_ok,jL,xd C m,g]
theorem B9{H:Hp}{x:List MapEntry×Nat}(h:H.mp b=some x):∃es:Array MapEntry,H[b]? =some (.map es x.2)/\es.toList=x.1:=by
 unfold Hp.mp at h;grind
theorem mz{w:World}{es:Array MapEntry}{k:Nat}(h:w.heap[b]? =some (.map es k)):(getObj b).run P w= .ok (.map es k) w:=by simp[getObj,Sem.run,h]
theorem mA{w:World}{es x:Array MapEntry}{k z:Nat}(h:w.heap[b]? =some (.map es k)):
  (setObj b (.map x z)).run P w= .ok () {w with heap:=Hp.AO w.heap b x.toList z}:=by
 simp[setObj,Sem.run,h,Hp.AO]
theorem qC(h:cA P t=some s)(z:∀x,s≠ .s x):shapeOf P fN t=some s/\mP s=true:=by
 grind [fN,cA,shapeOf,mP]
theorem EA(h:cA P t=some s):shapeOf P fN t=some s:=by
 grind [cA,qC]
theorem qD(h:shapeOf P d t=some s)(z:mP s=true)(v:Value)(e:Bool)(n:Nat)(w:World):(Instr.checkKey e (n+1) t v).run P w= .ok () w:=by
 cases d with
 |zero=>simp[shapeOf]at h
 |succ d=>
  rw[gu]at h;split at h
  ·injection h with h;subst h;simp[Instr.checkKey,aq ‹P.underlying t=_›]
  ·injection h with h;subst h;simp[Instr.checkKey,aq ‹P.underlying t=_›]
  ·injection h with h;subst h;simp[Instr.checkKey,aq ‹P.underlying t=_›]
  case h_9=>
   split at h
   ·cases h
   ·rename_i x _ _;cases m:fy P d x.toList with
    |none=>grind
    |some l=>grind [mP]
  all_goals grind [mP]
theorem B6(e:Bool)(n:Nat)(xs:List Value):∀ (h:List Field) (l:List (Nat×Option Nat×Shape)),fy P d h=some l->
  (l.all fun(off,agg,g)=>agg.isNone && mP g)=true->(∀q∈l,(xs[q.1]?).isSome=true)->∀w:World,
  (forIn h PUnit.unit fun f (_:PUnit)=>(do
   if f.name≠ "_" then Instr.checkKey e (n+1) f.type (<-part f.type xs.toArray f.offset)
   pure (ForInStep.yield PUnit.unit):Sem (ForInStep PUnit))).run P w= .ok PUnit.unit w:=by
 intro h;induction h with
 |nil=>simp_all
 |cons f h F=>
  intro l x z L w;rw[nv]at x;split at x
  ·cases x
  ·rename_i j;split at x
   ·cases x
   ·rename_i g m;cases u:fy P d h with
    |none=>grind
    |some l'=>
     rw[u]at x;simp only[Option.map_some,alg]at x;subst x;rw[List.all_cons]at z;simp only[alJ]at z;obtain⟨⟨A,y⟩,C⟩:=z;have r:eu P f.type=false:=by
      cases T:eu P f.type
      ·rfl
      ·grind
     obtain⟨v,B⟩:=Option.isSome_iff_exists.1 (L _ alS);have c:(P.underlying f.type).isSome=true:=by
      cases d with
      |zero=>simp[shapeOf]at m
      |succ d=>rw[gu]at m;grind
     have p:=oC (P:=P) (l:=xs) (t:=f.type) (off:=f.offset) (v:=v) (info_of_underlying c) c (by rw[r];simpa[lK]using B) w;simp only[List.forIn_cons,j,ne_eq,not_false_eq_true,if_true,Sem.run_bind,p,Result.andThen_ok,qD m y,Sem.run_pure];grind
theorem EB(h:cA P t=some s)(c:yA s k=true)(e:Bool)(n:Nat)(w:World):(Instr.checkKey e (n+1+1) t k).run P w= .ok () w:=by
 by_cases d:∃z,s= .s z
 ·obtain⟨l,rfl⟩:=d;have p:=h;unfold cA at h;split at h
  ·cases h
  ·cases h
  ·cases h
  ·rename_i z g;split at h
   ·split at h
    ·rename_i l' x r;injection h with h;injection h with h;subst h;cases k with
     |agg xs=>
      simp only[show fN=7+1 from rfl,gu,g]at x;split at x
      ·cases x
      ·cases v:fy P 7 z.toList with
       |none=>grind
       |some l=>
        rw[v]at x;simp only[Option.map_some,alg,Shape.s.injEq]at x;subst x;rw[Instr.checkKey];simp only[Sem.run_bind,aq g,Result.andThen_ok];rw[<-Array.forIn_toList];have:=B6 (P:=P) e n xs.toList z.toList l v r (fun q j=>by
         have m:=(amm.1 c) q j;grind) w
        simp_all
     |_=>simp[yA]at c
    grind
   grind
  grind
 ·obtain⟨m,y⟩:=qC h Z;exact qD m y k e (n+1) w
theorem gP(h:cA P t=some s)(x:yA s k=true)(e:Bool)(w:World):(Instr.checkKey e 10000 t k).run P w= .ok () w:=
 EB h x e 9998 w
theorem EC(h:shapeOf P fN t=some s):∀ (es:List MapEntry) (i:Nat) (r:Option (Nat×Value)),fG s k es i=some r->∀w:World,
  (Instr.findAsking t k es i).run P w= .ok r w:=by
 intro es;induction es with
 |nil=>intro i r x w;simp only[fG,alg]at x;subst x;rfl
 |cons e es n=>
  intro i r x w;unfold fG at x;have l:∀b,tJ s k e.key=some b->(Op.equal t k e.key).run P w= .ok b w:=by
   intro b z;unfold Op.equal Op.maxDepth;have:=(yW (P:=P) fN).1 t s k e.key b h z (10000 - fN) w;simpa[fN]using this
  split at x
  ·rename_i z;injection x with x;subst x;simp[Instr.findAsking,l true z]
  ·rename_i z;simp[Instr.findAsking,l false z,n (i+1) r x w]
  grind
theorem AK{d:TypeDesc}(w:(∃q,d= .int q/\s= .int)\/(d= .string/\s= .str)\/(d= .bool/\s= .bool)):∀ (es:List MapEntry) (i:Nat) (r:Option (Nat×Value)),
  fG s k es i=some r->Instr.findNow d k es i=some r:=by
 intro es;induction es with
 |nil=>intro i r z;simpa[fG,Instr.findNow]using z
 |cons e es n=>
  intro i r z;unfold fG at z;unfold Instr.findNow;have l:∀b,tJ s k e.key=some b->Instr.sameNow d k e.key=some b:=by
   intro b x;rcases w with ⟨q,rfl,rfl⟩| ⟨rfl,rfl⟩| ⟨rfl,rfl⟩
   ·cases k<;>cases h:e.key<;>simp only[h,tJ,cH]at x<;>first| (cases x;done)|skip
    exact x
   ·cases k<;>cases h:e.key<;>simp only[h,tJ,cH]at x<;>first| (cases x;done)|skip
    simpa[Instr.sameNow,beq_toListBytes]using x
   ·cases k<;>cases h:e.key<;>simp only[h,tJ,cH]at x<;>first| (cases x;done)|skip
    simpa[Instr.sameNow]using x
  grind
theorem iA{es:List MapEntry}{r:Option (Nat×Value)}(h:cA P t=some s)(z:fG s k es 0=some r)(w:World):
  (Instr.findKey t k es).run P w= .ok r w:=by
 have c:=EA h;unfold Instr.findKey;have x:∃d,P.underlying t=some d:=by
  unfold cA at h;grind
 obtain⟨d,x⟩:=x;simp only[Sem.run_bind,aq x,Result.andThen_ok];by_cases m:∃fs,s= .s fs
 ·obtain⟨l,rfl⟩:=m;have n:∃fs,d= .struct fs:=by
   unfold cA at h;rw[x]at h;split at h
   ·cases h
   ·cases h
   ·cases h
   ·grind
   ·cases h
  obtain⟨fs,rfl⟩:=n;cases es with
  |nil=>simp only[fG,alg]at z;subst z;rfl
  |cons e es=>
   have:Instr.findNow (.struct fs) k (e::es) 0=none:=by simp[Instr.findNow,Instr.sameNow]
   rw[this];exact EC c _ _ _ z w
 ·have n:(∃q,d= .int q/\s= .int)\/(d= .string/\s= .str)\/(d= .bool/\s= .bool):=by
   unfold cA at h;rw[x]at h;split at h
   ·grind
   ·grind
   ·grind
   ·grind
   ·cases h
  rw[AK n es 0 r z];rfl
end
end
end Go.Vc
