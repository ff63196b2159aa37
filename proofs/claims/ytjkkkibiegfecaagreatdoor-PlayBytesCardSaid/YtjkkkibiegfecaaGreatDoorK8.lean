/- Texts put behind each other. -/
import Derived.Test.YtjkkkibiegfecaaGreatDoorK7
set_option linter.unusedSimpArgs false
set_option linter.unusedVariables false
set_option maxRecDepth 100000
set_option maxHeartbeats 8000000
namespace Go.Vc
section
variable{t:TypeId}{b:Nat}
def cD(P:Program)(t:TypeId):Option Shape:=
 match P.underlying t with
 |some (.int _)=>some .int
 |some .string=>some .str
 |some .bool=>some .bool
 |some (.struct _)=>
  match shapeOf P fP t with
  |some (.s l)=>if l.all (fun(off,agg,x)=>agg.isNone && ng x)then some (.s l)else none
  |_=>none
 |_=>none
def Ru:Shape->Bool| .s _=>false|_=>true
def zj:TypeDesc->Bool| .slice _=>true| .string=>true|_=>false
def FS(P:Program)(o:Oper):Option dH:=
 match o.op with
 | .move x=>some (.cY x)
 | .assign x=>some (.cY x)
 | .pick c a b=>some (.pick c a b)
 | .box T x=>some (.box T x)
 | .alloc T=>(fI P T).map fun z=>.zero T (aK z)
 | .build t ps=>(fI P t).bind fun z=>(parts P t (aK z).length ps.toList).map (.build (aK z))
 | .buildSlice t n ps=>
  match P.underlying t with
  |some (.slice e)=>(fI P e).bind fun z=>
   if(P.info? e).isSome/\P.cellsOf e≠0/\(aK z).length=P.cellsOf e/\n*P.cellsOf e<=2^24 then
    (jG (fun i=>some (i*P.cellsOf e,P.cellsOf e)) (n*P.cellsOf e) ps.toList).map (.lit e n (dw (aK z) n))
   else none
  |_=>none
 | .load t x=>if(P.info? t).isSome/\(P.underlying t).isSome then(if ez P t then some (.cE (P.cellsOf t) x)else some (.bB x))else none
 | .store t x v=>if(P.info? t).isSome/\P.cellsOf t≠0 then some (.store (P.cellsOf t) x v)else none
 | .nilCheck x=>some (.nilCheck x)
 | .binOp op t x y _=>
  match op with
  | .eql| .neq=>
   match P.underlying t,y with
   |some (.interface _),.const .nilIface=>some (.Qo (match op with| .neq=>true|_=>false) x)
   |_,_=>(shapeOf P fP t).bind fun s=>if Ru s=true\/P.eqGuardType P.depth t=false then some (.eV op s x y)else none
  |_=>some (.eV op .int x y)
 | .unOp op _ x=>some (.un op x)
 | .convert src dst x=>
  match P.underlying src,P.underlying dst with
  |some (.int _),some (.int k)=>some (.conv k x)
  |some (.slice e),some .string=>(match P.underlying e with|some (.int .u8)=>some (.Lz x)|_=>none)
  |some .string,some (.slice e)=>(match P.underlying e with|some (.int .u8)=>some (.Gy e x)|_=>none)
  |_,_=>none
 | .makeInterface t x=>match P.underlying t with|some (.interface _)=>none|some _=>some (.iface t x)|none=>none
 | .makeFunc fn first captured=>some (.func fn first.toList captured.toList)
 | .makeMap t none=>some .Ls
 | .makeSlice t n c=>
  match P.underlying t with
  |some (.slice e)=>(fI P e).bind fun z=>if(P.info? e).isSome/\P.cellsOf e≠0/\(aK z).length=P.cellsOf e then some (.makeSlice e (P.bytesOf e) (P.cellsOf e) (aK z) n c)else none
  |_=>none
 | .slice t x lo hi mx=>
  match P.underlying t with
  |some (.slice e)=>if(P.info? e).isSome/\(mx.isNone\/hi.isSome)then some (.slice (P.cellsOf e) x lo hi mx)else none
  |some .string=>if mx.isNone then some (.Gz x lo hi)else none
  |_=>none
 | .fieldAddr s x f=>
  match P.underlying s with
  |some (.struct fields)=>(fields[f]?).bind fun h=>if(P.info? h.type).isSome/\P.cellsOf h.type≠0 then some (.fieldAddr h.offset x)else none
  |_=>none
 | .field t x f=>
  match P.underlying t with
  |some (.struct fields)=>(fields[f]?).bind fun h=>if(P.info? h.type).isSome/\(P.underlying h.type).isSome then some (.field h.offset (if ez P h.type then some (P.cellsOf h.type)else none) x)else none
  |_=>none
 | .indexAddr t x i=>
  match P.underlying t with
  |some (.slice e)=>if(P.info? e).isSome then some (.indexAddr (P.cellsOf e) x i)else none
  |some (.array n e)=>if(P.info? e).isSome then some (.xp n (P.cellsOf e) x i)else none
  |_=>none
 | .index t x i=>
  match P.underlying t with
  |some .string=>some (.GA x i)
  |some (.array n e)=>if(P.info? e).isSome/\(P.underlying e).isSome then some (.GC n (P.cellsOf e) (if ez P e then some (P.cellsOf e)else none) x i)else none
  |_=>none
 | .lookup t x i ok=>
  match P.underlying t with
  |some (.map k e)=>(cD P k).bind fun s=>(fI P e).map fun z=>.lookup s z ok x i
  |_=>none
 | .mapUpdate t m k v=>match P.underlying t with|some (.map w _)=>(cD P w).map fun s=>.update s m k v|_=>none
 | .extract x i=>some (.extract i x)
 | .typeAssert x _ T false=>(match P.underlying T with|some (.interface _)=>none|some _=>some (.GB T x)|none=>none)
 | .call c=>
  match c.callee with
  | .value (.func f)=>if eR P f then some (.call f c.args.toList)else some (.ext f c.args.toList)
  | .value x=>some (.dyn x c.args.toList)
  | .invoke r name=>some (.invoke r name c.args.toList)
  | .builtin .len=>
   match c.args.toList,(c.argTypes[0]?).bind P.underlying with
   | [x],some (.slice _)=>some (.JX x)
   | [x],some .string=>some (.Qi x)
   | [x],some (.map _ _)=>some (.Qj x)
   |_,_=>none
  | .builtin .append=>
   match c.args.toList,(c.argTypes[0]?).bind P.underlying,(c.argTypes[1]?).bind P.underlying with
   | [x,y],some (.slice e),some d=>(fI P e).bind fun z=>
    if(P.info? e).isSome/\P.cellsOf e≠0/\(aK z).length=P.cellsOf e/\P.bytesOf e≠0/\zj d=true then
     some (.append e (P.cellsOf e) (P.bytesOf e) (aK z) x y)else none
   |_,_,_=>none
  | .builtin .delete=>
   match c.args.toList,(c.argTypes[0]?).bind P.underlying with
   | [m,k],some (.map w _)=>(cD P w).map fun s=>.delete s m k
   |_,_=>none
  | .builtin .clear=>
   match c.args.toList,(c.argTypes[0]?).bind P.underlying with
   | [x],some (.slice e)=>(fI P e).bind fun z=>if(aK z).length≠0 then some (.JW (aK z) x)else none
   |_,_=>none
  | .builtin .min=>some (.Qm c.args.toList)
  | .builtin .max=>some (.Qn c.args.toList)
  |_=>none
 |_=>none
def HZ:Value->List Value->Option Value
 |v,[]=>some v
 |v,u::r=>match v,u with
  | .int k a,.int _ b=>HZ (.int k (if b<a then b else a)) r
  |_,_=>none
def Yo(l:List Value):Option Value:=match l with| []=>none|v::r=>HZ v r
def Ia:Value->List Value->Option Value
 |v,[]=>some v
 |v,u::r=>match v,u with
  | .int k a,.int _ b=>Ia (.int k (if b>a then b else a)) r
  |_,_=>none
def Yp(l:List Value):Option Value:=match l with| []=>none|v::r=>Ia v r
@[go_sem] theorem VO(v:Value)(r:List Value):Yo (v::r)=HZ v r:=(rfl)
@[go_sem] theorem Yq(v:Value):HZ v []=some v:=(rfl)
@[go_sem] theorem VP(k x:IntKind)(a b:Int)(r:List Value):HZ (.int k a) (.int x b::r)=HZ (.int k (if b<a then b else a)) r:=(rfl)
@[go_sem] theorem VQ(v:Value)(r:List Value):Yp (v::r)=Ia v r:=(rfl)
@[go_sem] theorem Yr(v:Value):Ia v []=some v:=(rfl)
@[go_sem] theorem VR(k x:IntKind)(a b:Int)(r:List Value):Ia (.int k a) (.int x b::r)=Ia (.int k (if b>a then b else a)) r:=(rfl)
def nq(ev:Ev)(x:Option Operand)(d:Nat)(F:Int->Prop):Prop:=
 match x with
 |none=>F d
 |some x=>aE (ev x) fun v=>xu v F
@[go_sem ↓] theorem Sp(ev:Ev)(d:Nat)(F:Int->Prop):nq ev none d F=F d:=(rfl)
@[go_sem ↓] theorem Sq(ev:Ev)(x:Operand)(d:Nat)(F:Int->Prop):nq ev (some x) d F=aE (ev x) fun v=>xu v F:=(rfl)
def Im(H:Hp)(r:Option Nat)(F:Nat->Prop):Prop:=
 match r with
 |none=>F 0
 |some b=>aE (H.mp b) fun m=>F m.1.length
@[go_sem ↓] theorem Um(H:Hp)(b:Nat)(F:Nat->Prop):Im H (some b) F=aE (H.mp b) fun m=>F m.1.length:=(rfl)
def gN(ok:Bool)(z:Value)(x:Option Value):Value:=
 bif ok then(match x with|some v=>.tuple [v,.bool true].toArray|none=>.tuple [z,.bool false].toArray)else x.getD z
@[go_sem] theorem NC(z v:Value):gN true z (some v)= .tuple [v,.bool true].toArray:=(rfl)
@[go_sem] theorem ND(z:Value):gN true z none= .tuple [z,.bool false].toArray:=(rfl)
@[go_sem] theorem Rv(z v:Value):gN false z (some v)=v:=(rfl)
@[go_sem] theorem Rx(z:Value):gN false z none=z:=(rfl)
def Eo:Value->Bool
 | .pointer (some _)=>true
 | .iface .. =>true
 | .func (.func _) _ _=>true
 |_=>false
@[go_sem] theorem VS(a:Addr):Eo (.pointer (some a))=true:=(rfl)
@[go_sem] theorem Sr(t:TypeId)(v:Value):Eo (.iface t v)=true:=(rfl)
@[go_sem] theorem Un(f:FuncId)(a b:Array Value):Eo (.func (.func f) a b)=true:=(rfl)
def Mq(P:Program)(v:Value):Prop:=
 Eo v=true\/∃name t u cap,v= .func (.method name) #[.iface t u] cap/\∀w,(nilAhead (P.types.size+Made.depth) t u name).run P w= .ok (some false) w
@[go_sem] theorem Ys(P:Program)(a:Addr):Mq P (.pointer (some a))=True:=eq_true (.inl rfl)
@[go_sem] theorem Uo(P:Program)(t:TypeId)(v:Value):Mq P (.iface t v)=True:=eq_true (.inl rfl)
@[go_sem] theorem VT(P:Program)(f:FuncId)(a b:Array Value):Mq P (.func (.func f) a b)=True:=eq_true (.inl rfl)
def dH.vc(P:Program)(ev:Ev)(H:Hp)(K:Value->Hp->Prop):dH->Prop
 | .cY x=>aE (ev x) fun v=>K v H
 | .pick c a b=>aE (ev c) fun j=>xq j fun t=>aE (bif t then ev a else ev b) fun v=>K v H
 | .box T x=>aE (ev x) fun v=>now (H.new T (aK v)) fun J=>K (.pointer (some ⟨H.size,0,none⟩)) J
 | .zero T l=>now (H.new T l) fun J=>K (.pointer (some ⟨H.size,0,none⟩)) J
 | .build z ps=>xt ev z ps fun l=>now l fun l=>K (.agg l.toArray) H
 | .lit T n z ps=>xt ev z ps fun l=>now (H.new T l) fun J=>K (.slice (some ⟨H.size,0,none⟩) n n) J
 | .bB x=>aE (ev x) fun p=>tP p fun b o=>aE (H.rd b) fun l=>aE l[o]? fun v=>K v H
 | .cE n x=>aE (ev x) fun p=>tP p fun b o=>aE (H.rd b) fun l=>dZ (o+n<=l.length) (K (.agg ((l.drop o).take n).toArray) H)
 | .store n x v=>aE (ev x) fun p=>tP p fun b o=>aE (ev v) fun v=>aE (EG (H.own b) (H.xd b)) fun l=>
   dZ ((aK v).length=n) (dZ (qm (aK v)=true) (dZ (o+n<=l.length) (now (H.wr b (aS l o (aK v))) fun J=>K undef J)))
 | .nilCheck x=>aE (ev x) fun v=>dZ (Mq P v) (K v H)
 | .eV op s x y=>aE (ev x) fun a=>aE (ev y) fun b=>aE (dQ op s a b) fun v=>K v H
 | .un op x=>aE (ev x) fun a=>aE (Yk op a) fun v=>K v H
 | .conv k x=>aE (ev x) fun a=>xu a fun n=>K (.int k (k.wrap n)) H
 | .iface T x=>aE (ev x) fun v=>K (.iface T v) H
 | .func fn first captured=>J8 ev first fun l=>J8 ev captured fun c=>K (.func fn l.toArray c.toArray) H
 | .Ls=>K (.map (some H.size)) H.iG
 | .makeSlice T bytes size z n c=>aE (ev n) fun q=>aE (ev c) fun j=>xu q fun n=>xu j fun c=>
   dZ (0<=n/\n<=c/\c<=2^48/\bytes*c<=2^48) (now (H.new T (dw z c.toNat)) fun J=>K (.slice (some ⟨H.size,0,none⟩) n.toNat c.toNat) J)
 | .slice size x lo hi mx=>aE (ev x) fun v=>nl v fun a n c=>nq ev mx c fun m=>nq ev hi n fun h=>nq ev lo 0 fun l=>
   dZ (0<=l/\l<=h/\h<=m/\m<=c) (K (.slice (if m=l then a else a.map (·.add (l.toNat*size))) (h.toNat - l.toNat) (m.toNat - l.toNat)) H)
 | .Gz x lo hi=>aE (ev x) fun v=>iB v fun s=>nq ev hi s.size fun h=>nq ev lo 0 fun l=>
   dZ (0<=l/\l<=h/\h<=s.size) (K (.string (s.extract l.toNat h.toNat)) H)
 | .fieldAddr off x=>aE (ev x) fun p=>tP p fun b o=>K (.pointer (some ⟨b,o+off,none⟩)) H
 | .field off agg x=>aE (ev x) fun v=>J9 v fun l=>aE (lV l off agg) fun v=>K v H
 | .indexAddr size x i=>aE (ev x) fun v=>aE (ev i) fun e=>nl v fun a n _=>xu e fun i=>dZ (0<=i/\i<n) (qq a fun b o=>K (.pointer (some ⟨b,o+i.toNat*size,none⟩)) H)
 | .xp aY size x i=>aE (ev x) fun p=>aE (ev i) fun e=>tP p fun b o=>xu e fun i=>dZ (0<=i/\i<aY) (K (.pointer (some ⟨b,o+i.toNat*size,none⟩)) H)
 | .GC aY size agg x i=>aE (ev x) fun v=>aE (ev i) fun e=>J9 v fun l=>xu e fun i=>dZ (0<=i/\i<aY) (aE (lV l (i.toNat*size) agg) fun v=>K v H)
 | .GA x i=>aE (ev x) fun v=>aE (ev i) fun e=>iB v fun s=>xu e fun i=>dZ (0<=i) (aE (s[i.toNat]?) fun b=>K (.int .u8 b.toNat) H)
 | .lookup s z ok m k=>aE (ev m) fun g=>aE (ev k) fun w=>zm g fun r=>dZ (A0 s w=true) (AM H s r w fun x=>K (gN ok z x) H)
 | .update s m k v=>aE (ev m) fun g=>aE (ev k) fun w=>aE (ev v) fun B=>zm g fun r=>aE r fun b=>dZ (A0 s w=true) (SF H s b w B fun J=>K undef J)
 | .extract i x=>aE (ev x) fun v=>Mk v fun l=>aE l[i]? fun v=>K v H
 | .call f args=>J8 ev args fun vs=>ee P f vs H K
 | .dyn f args=>aE (ev f) fun d=>J8 ev args fun vs=>Su P d vs H K
 | .invoke r name args=>aE (ev r) fun rv=>J8 ev args fun vs=>fN P rv name vs H K
 | .JX x=>aE (ev x) fun v=>nl v fun _ n _=>K (.int .i64 n) H
 | .Qi x=>aE (ev x) fun v=>iB v fun s=>K (.int .i64 s.size) H
 | .Qj x=>aE (ev x) fun v=>zm v fun r=>Im H r fun n=>K (.int .i64 n) H
 | .append T size bytes z x y=>aE (ev x) fun L=>aE (ev y) fun A=>eI T size bytes z L A H K
 | .delete s m k=>aE (ev m) fun g=>aE (ev k) fun w=>zm g fun r=>aE r fun b=>dZ (A0 s w=true) (SG H s b w fun J=>K (.tuple [].toArray) J)
 | .JW z x=>aE (ev x) fun v=>nl v fun a n _=>Uk H z a n fun J=>K (.tuple [].toArray) J
 | .Qm args=>J8 ev args fun vs=>aE (Yo vs) fun v=>K v H
 | .Qn args=>J8 ev args fun vs=>aE (Yp vs) fun v=>K v H
 | .GB T x=>aE (ev x) fun v=>tB T v fun u=>K u H
 | .Qo neg x=>aE (ev x) fun v=>Ka v fun b=>K (.bool (Lr neg b)) H
 | .Lz x=>aE (ev x) fun v=>rG H v fun l=>K (.string ⟨l.toArray⟩) H
 | .Gy T x=>aE (ev x) fun v=>iB v fun s=>PH T s H K
 | .ext f args=>J8 ev args fun vs=>acv P f vs H K
attribute [go_sem ↓] dH.vc
section
variable {P : Program} {o : Oper} {a : Act} {ev : Ev} {H : Hp} {K : Value → Hp → Prop}
def ed(P:Program)(o:Oper)(a:Act)(H:Hp)(K:Value->Hp->Prop):Prop:=∃v,(∀w,(execOp a.eval o).run P w= .ok (.value v) w)/\K v H
theorem ed.Z2(h:ed P o a H K):ej P o a H K:=by
 obtain⟨v,x,z⟩:=h;exact fun w l=>.inl ⟨v,w,x w,cv.refl w,l▸z⟩
theorem ar{d:TypeDesc}(h:P.underlying t=some d)(w:World):(underlying t).run P w= .ok d w:=run_underlying h w
theorem ew{i:TypeInfo}(h:P.info? t=some i)(w:World):(typeInfo t).run P w= .ok i w:=by simp[typeInfo,h]
theorem bI(h:(P.info? t).isSome=true)(w:World):(sizeOf t).run P w= .ok (P.cellsOf t) w:=by
 obtain⟨i,hi⟩:=Option.isSome_iff_exists.1 h;simp[sizeOf,ew hi,Program.cellsOf,hi]
theorem cK{z:Value}(h:fI P t=some z)(w:World):(zeroValue t).run P w= .ok z w:=by
 unfold fI at h;cases hi:P.info? t with
 |none=>grind
 |some i=>rw[hi]at h;simp only[Option.bind_some]at h;simp[zeroValue,ew hi,h]
theorem xb(h:(P.underlying t).isSome=true)(w:World):(isAgg t).run P w= .ok (ez P t) w:=by
 obtain⟨d,x⟩:=Option.isSome_iff_exists.1 h;unfold isAgg ez;simp only[Sem.run_bind,ar x,Result.andThen_ok,x];cases d<;>rfl
theorem A4(t:TypeId)(v:Value)(w:World):(newVar t v).run P w= .ok ⟨w.heap.size,0,none⟩ {w with heap:=Hp.new w.heap t (aK v)}:=by
 simp only[newVar,newRow,Sem.run_bind,run_newObj,Result.andThen_ok,Sem.run_pure,Hp.new,<-eQ,akQ]
theorem jM(t:TypeId)(c:Array Value)(w:World):(newRow t c).run P w= .ok ⟨w.heap.size,0,none⟩ {w with heap:=Hp.new w.heap t c.toList}:=by
 rfl
theorem iE{w:World}{o:Nat}{l:List Value}(hi:(P.info? t).isSome=true)(z:(P.underlying t).isSome=true)(h:Hp.rd w.heap b=some l):
  (ez P t=true->o+P.cellsOf t<=l.length->(loadVar t ⟨b,o,none⟩).run P w= .ok (.agg ((l.drop o).take (P.cellsOf t)).toArray) w)/\
  (ez P t=false->∀v,l[o]? =some v->(loadVar t ⟨b,o,none⟩).run P w= .ok v w):=by
 refine⟨fun x m=>?_,fun x v c=>?_⟩
 ·simp[loadVar,xb z,x,bI hi,nO (P:=P) (a:=⟨b,o,none⟩) rfl h m]
 ·have n:w.cell? ⟨b,o,none⟩=some v:=(lQ rfl h).trans c;simp[loadVar,xb z,x,n]
theorem FN{w:World}{o:Nat}{l:List Value}{v:Value}(hi:(P.info? t).isSome=true)(c:P.cellsOf t≠0)(h:EG (Hp.own w.heap b) (Hp.xd w.heap b)=some l)
  (z:(aK v).length=P.cellsOf t)(x:dR (aK v))(y:o+P.cellsOf t<=l.length):
  ∃w',(storeVar t ⟨b,o,none⟩ v).run P w= .ok () w'/\cv w w'/\w'.heap=Hp.wr w.heap b (aS l o (aK v)):=by
 obtain⟨w',n,m,g,_⟩:=gY (P:=P) (b:=b) (o:=o) (aK v) 0 w l h O x;refine⟨w',?_,m,Z⟩;have e:v.cells.size=P.cellsOf t:=by rw[<-z,<-eQ];simp
 simp only[storeVar,Sem.run_bind,bI hi,Result.andThen_ok,e,ne_eq,not_true_eq_false,if_false,eQ];exact n
end
end
section
variable{t:TypeId}
section
variable {P : Program} {o : Oper} {a : Act} {ev : Ev} {H : Hp} {K : Value → Hp → Prop}
theorem dZ.out{c F:Prop}(h:dZ c F):c/\F:=h
theorem vO{v:Value}{F:Bool->Prop}(h:xq v F):∃b,v= .bool b/\F b:=by
 unfold xq at h;split at h
 ·exact⟨_,rfl,h⟩
 grind
theorem oN{l:List Value}{off:Nat}{v:Value}(hi:(P.info? t).isSome=true)(z:(P.underlying t).isSome=true)
  (h:lV l off (if ez P t then some (P.cellsOf t)else none)=some v)(w:World):(part t l.toArray off).run P w= .ok v w:=by
 unfold part;simp only[Sem.run_bind,xb z,Result.andThen_ok];cases x:ez P t
 ·rw[x]at h;simp only[akC,if_false,lV]at h ⊢;simp[h]
 ·rw[x]at h;simp only[if_true,lV]at h ⊢;split at h
  ·injection h with h;subst h;simp only[Sem.run_bind,bI hi,Result.andThen_ok,Sem.run_pure];grind
  grind
theorem info_of_underlying(h:(P.underlying t).isSome=true):(P.info? t).isSome=true:=by
 unfold Program.underlying at h;grind
theorem JI(m:Nat){s:Shape}{x y:Value}{b:Bool}{d:Nat}(z:shapeOf P d t=some s)(e:∀n,s≠ .s n)(h:cV s x y=some b)(w:World):
  (Op.equalIn (m+1) t x y).run P w= .ok b w:=by
 cases d with
 |zero=>simp[shapeOf]at z
 |succ d=>
  rw[gu]at z;split at z;case h_9=>
   split at z
   ·cases z
   ·rename_i n c v;cases g:fC P d n.toList with
    |none=>grind
    |some l=>grind
  case h_10=>cases z
  all_goals(injection z with z;subst z)
  all_goals(unfold cV at h;split at h<;>rename_i c<;>first| (cases c;done)| (cases h;done)|skip)
  all_goals(try(split at h<;>first| (cases h;done)|skip))
  all_goals(injection h with h;subst h)
  all_goals(simp only[Op.equalIn,Sem.run_bind,ar ‹P.underlying t=_›,Result.andThen_ok])
  all_goals first|rfl| (rw[if_pos O];rfl)| (simp[*,beq_toListBytes];done)| (simp_all;done)|skip
theorem y9:∀ (d:Nat),
  (∀ (t:TypeId) (s:Shape) (x y:Value) (b:Bool),shapeOf P d t=some s->xf s x y=some b->∀ (m:Nat) (w:World),(Op.equalIn (m+d) t x y).run P w= .ok b w)/\
  (∀ (fs:List Field) (l:List (Nat×Option Nat×Shape)) (xs c:List Value) (b:Bool),fC P d fs=some l->ri l xs c=some b->
   ∀ (m:Nat) (w:World),(Op.eqFields (m+d) xs.toArray c.toArray fs).run P w= .ok b w):=by
 intro d;induction d with
 |zero=>
  refine⟨fun t s x y b n=>(by simp[shapeOf]at n),fun fs l xs c b z h m w=>?_⟩;cases fs with
  |nil=>simp only[y8,ajS]at z;subst z;simp only[ri,ajS]at h;subst h;rfl
  |cons f fs=>simp[nK,shapeOf]at z
 |succ d N=>
  have first:∀ (t:TypeId) (s:Shape) (x y:Value) (b:Bool),shapeOf P (d+1) t=some s->xf s x y=some b->∀ (m:Nat) (w:World),(Op.equalIn (m+(d+1)) t x y).run P w= .ok b w:=by
   intro t s x y b n h m w;by_cases q:∃fs,s= .s fs
   ·obtain⟨l,rfl⟩:=q;cases x with
    |agg xs=>
     cases y with
     |agg c=>
      simp only[xf]at h;rw[gu]at n;split at n;case h_9=>
       split at n
       ·cases n
       ·rename_i fs v F;cases u:fC P d fs.toList with
        |none=>grind
        |some l'=>
         rw[u]at n;simp only[Option.map_some,ajS,Shape.s.injEq]at n;subst n;have j:P.fieldsOf t=fs:=by simp[Program.fieldsOf,v]
         rw[show m+(d+1)=(m+d)+1 by omega,run_equalIn_struct w (m+d) t xs c Z Z,j];cases xs;cases c;grind
      all_goals cases n
     |_=>simp[xf,cV]at h
    |_=>cases y<;>simp[xf,cV]at h
   ·have T:cV s x y=some b:=by
     cases s<;>first|exact h|grind
    grind [JI]
  refine⟨first,fun fs=>?_⟩;induction fs with
  |nil=>intro l xs c b z h m w;simp only[y8,ajS]at z;subst z;simp only[ri,ajS]at h;subst h;rfl
  |cons f fs A=>
   intro l xs c b z h m w;rw[nK]at z;split at z
   ·cases z
   ·rename_i p;split at z
    ·cases z
    ·rename_i C g;cases e:fC P (d+1) fs with
     |none=>grind
     |some l'=>
      rw[e]at z;simp only[Option.map_some,ajS]at z;subst z;unfold ri at h;split at h
      ·cases h
      ·rename_i x B;split at h
       ·cases h
       ·rename_i y L;have v:(P.underlying f.type).isSome=true:=by
         rw[gu]at g;grind
        have hi:=info_of_underlying v;simp only[Op.eqFields,p,ne_eq,not_false_eq_true,if_true,Sem.run_bind,oN hi v B,oN hi v L,Result.andThen_ok];split at h
        ·rename_i r;rw[first f.type C x y true g r m w];simpa using A l' xs c b e h m w
        ·simp_all
        grind
end
end
section
variable{x y:Operand}{t:TypeId}{s:Shape}{u:Value}{b:Bool}
section
variable {P : Program} {o : Oper} {a : Act} {ev : Ev} {H : Hp} {K : Value → Hp → Prop}
abbrev bO(ev:Ev)(a:Act):Prop:=∀x v,ev x=some v->a.eval x=v
theorem bh{F:Value->Prop}(z:bO ev a)(h:aE (ev x) F):F (a.eval x):=by
 obtain⟨v,w,h⟩:=aB h;grind
theorem If(l:bO ev a)(z:o.op= .move x\/o.op= .assign x)(h:(dH.cY x).vc P ev H K):ed P o a H K:=by
 have h:=bh l h;refine⟨_,fun w=>?_,h⟩;rcases z with z|z<;>simp[execOp,z]
theorem Me{c:Operand}(z:bO ev a)(m:o.op= .pick c x y)(h:(dH.pick c x y).vc P ev H K):ed P o a H K:=by
 obtain⟨b,n,h⟩:=vO (bh z h);have l:aE (ev (bif b then x else y)) fun v=>K v H:=by cases b<;>exact h
 have h:=bh z l;refine⟨_,fun w=>?_,h⟩;simp only[execOp,m,n,asBool];cases b<;>simp
theorem EE(l:bO ev a)(n:o.op= .nilCheck x)(h:(dH.nilCheck x).vc P ev H K):ed P o a H K:=by
 obtain⟨z,h⟩:=(bh l h).out;refine⟨_,fun w=>?_,h⟩;simp only[execOp,n];rcases z with z| ⟨name,t,u,cap,m,z⟩
 ·revert z;generalize a.eval x=v;cases v with
  |pointer q=>cases q<;>simp[Eo]
  |func fn x y=>cases fn<;>simp[Eo]
  |_=>simp[Eo]
 ·rw[m];have c:(#[Value.iface t u]:Array Value)[0]? =some (.iface t u):=rfl;simp[c,z w]
theorem Qp{op:UnOp}(l:bO ev a)(n:o.op= .unOp op t x)(h:(dH.un op x).vc P ev H K):ed P o a H K:=by
 obtain⟨v,z,h⟩:=aB (bh l h);refine⟨v,fun w=>?_,h⟩;simp only[execOp,n];revert z;generalize a.eval x=u;intro z;unfold Yk at z;split at z<;>first| (cases z;done)|skip
 all_goals(injection z with z;subst z;rfl)
theorem Mh{s:TypeId}{k e:IntKind}(z:bO ev a)(m:o.op= .convert s t x)(c:P.underlying s=some (.int e))(v:P.underlying t=some (.int k))
  (h:(dH.conv k x).vc P ev H K):ed P o a H K:=by
 obtain⟨g,n,l,h⟩:=gh (bh z h);refine⟨_,fun w=>?_,h⟩;simp only[execOp,m,convert,l,Sem.run_bind,ar c,ar v,Result.andThen_ok,Conv.intToInt];rfl
theorem PI{n:Array (String×TypeId)}(z:P.underlying t=some (.interface n))(v:Value)(b:Bool)(l:(v= .nilIface/\b=true)\/∃x u,v= .iface x u/\b=false)(w:World):(Op.equal t v .nilIface).run P w= .ok b w:=by
 have h:∀m:Nat,(Op.equalIn (m+1) t v .nilIface).run P w= .ok b w:=fun m=>by
  rcases l with ⟨rfl,rfl⟩| ⟨x,u,rfl,rfl⟩<;>simp only[Op.equalIn,Sem.run_bind,ar z,Result.andThen_ok]<;>rfl
 exact h 9999
theorem FT{op:BinOp}{neg:Bool}{z:TypeId}{j:Array (String×TypeId)}(v:bO ev a)(y:o.op= .binOp op t x (.const .nilIface) z)(r:P.underlying t=some (.interface j))
  (n:(op= .eql/\neg=false)\/(op= .neq/\neg=true))(h:(dH.Qo neg x).vc P ev H K):ed P o a H K:=by
 obtain⟨b,l,h⟩:∃b,((a.eval x= .nilIface/\b=true)\/∃z u,a.eval x= .iface z u/\b=false)/\K (.bool (Lr neg b)) H:=by
  rcases FW (bh v h)with ⟨e,h⟩| ⟨z,u,e,h⟩
  ·grind
  grind
 refine⟨_,fun w=>?_,h⟩;have m:=PI (P:=P) r (a.eval x) b l w;have c:a.eval (.const .nilIface)= .nilIface:=rfl;simp only[execOp,y,Sem.run_bind,c];generalize a.eval x=u at l m ⊢;have g:(eqGuard op t x (.const .nilIface) u .nilIface).run P w= .ok () w:=by
  unfold eqGuard;rcases n with ⟨rfl,_⟩| ⟨rfl,_⟩<;>rcases l with ⟨rfl,_⟩| ⟨z,d,rfl,_⟩<;>simp
 rw[g];simp only[Result.andThen_ok];rcases n with ⟨rfl,rfl⟩| ⟨rfl,rfl⟩<;>rcases l with ⟨rfl,rfl⟩| ⟨z,d,rfl,rfl⟩<;>simp[binOp,m,Lr]
theorem Ik{s:TypeId}{d:TypeDesc}(z:bO ev a)(l:o.op= .typeAssert x s t false)(n:P.underlying t=some d)(v:∀c,d≠ .interface c)
  (h:(dH.GB t x).vc P ev H K):ed P o a H K:=by
 obtain⟨u,m,h⟩:=xv (bh z h);refine⟨_,fun w=>?_,h⟩;simp only[execOp,l,m,Instr.typeAssert,Sem.run_bind,ar n,Result.andThen_ok];rfl
theorem J5{d:TypeDesc}(z:bO ev a)(l:o.op= .makeInterface t x)(n:P.underlying t=some d)(c:∀m,d≠ .interface m)
  (h:(dH.iface t x).vc P ev H K):ed P o a H K:=by
 have h:=bh z h;refine⟨_,fun w=>?_,h⟩;simp only[execOp,l,Instr.makeInterface,Sem.run_bind,ar n,Result.andThen_ok];rfl
theorem Mi{fn:Fn}{first captured:Array Operand}(x:bO ev a)(z:o.op= .makeFunc fn first captured)(h:(dH.func fn first.toList captured.toList).vc P ev H K):ed P o a H K:=by
 have h:=jL x (jL x h);refine⟨_,fun w=>?_,h⟩;simp only[execOp,z,Instr.makeFunc,Sem.run_bind,Sem.run_pure,Result.andThen_ok];congr 3
 ·grind
 grind
theorem qn{c:Bool}{m:Sem Unit}{w:World}(h:m.run P w= .ok () w):(if(!c)=true then(pure ():Sem Unit)else m).run P w= .ok () w:=by
 simp_all
theorem tw{op:BinOp}{v:Value}(h:xf s u v=some b)(z:Ru s=true\/P.eqGuardType P.depth t=false)(w:World):
  (eqGuard op t x y u v).run P w= .ok () w:=by
 unfold eqGuard;refine qn ?_;cases u with
 |nilIface=>
  cases v with
  |nilIface=>cases s<;>simp[xf,cV]at h
  |_=>rfl
 |agg xs=>
  cases v with
  |agg l=>
   rcases z with z|z
   ·cases s<;>simp_all[xf,cV,Ru]
   simp_all
  |_=>rfl
 |_=>rfl
theorem Ep{v:Value}(c:shapeOf P fP t=some s)(h:xf s u v=some b)(g:∀k n,u≠ .int k n\/∀r m,v≠ .int r m)
  (e:∀x,u≠ .string x\/∀y,v≠ .string y)(w:World):
  (binOp .eql t u v).run P w= .ok (.bool b) w/\(binOp .neq t u v).run P w= .ok (.bool (!b)) w:=by
 have j:(Op.equal t u v).run P w= .ok b w:=by
  unfold Op.equal Op.maxDepth;have:=(y9 (P:=P) fP).1 t s u v b c h (10000 - fP) w;simpa[fP]using this
 have d:∀ {op},op=BinOp.eql\/op=BinOp.neq->binOp op t u v=(if op=BinOp.eql then(do pure (.bool (<-Op.equal t u v)))else(do pure (.bool (!(<-Op.equal t u v))))):=by
  intro op l;cases u<;>cases v<;>rcases l with rfl|rfl<;>first
   |rfl
   | (rcases g _ _ with z|z<;>first|exact absurd rfl z|exact absurd rfl (z _ _))
   | (rcases e _ with z|z<;>first|exact absurd rfl z|exact absurd rfl (z _))
   | (cases s<;>simp[xf,cV]at h)
 simp_all
def PJ(op:BinOp)(s:Shape)(u z:Value):Option Value:=match op with| .eql=>(xf s u z).map .bool| .neq=>(xf s u z).map fun b=>.bool (!b)|_=>none
theorem Nj{op:BinOp}{z:Value}(h:∀k n,u≠ .int k n\/∀x m,z≠ .int x m)(w:∀p,u≠ .string p\/∀q,z≠ .string q):dQ op s u z=PJ op s u z:=by
 unfold dQ PJ;grind
theorem Cr{op:BinOp}{V:TypeId}(C:bO ev a)(U:o.op= .binOp op t x y V)
  (F:(op= .eql\/op= .neq)->shapeOf P fP t=some s/\(Ru s=true\/P.eqGuardType P.depth t=false))
  (h:(dH.eV op s x y).vc P ev H K):ed P o a H K:=by
 obtain⟨v,l,h⟩:=aB (bh C (bh C h));refine⟨v,fun w=>?_,h⟩;simp only[execOp,U,Sem.run_bind];generalize G:a.eval x=u at l ⊢;generalize D:a.eval y=z at l ⊢;have acw:∀k n g m,u= .int k n->z= .int g m->(eqGuard op t x y u z).run P w= .ok () w/\(binOp op t u z).run P w= .ok v w:=by
  intro k n g m j d;subst j;subst d;refine⟨qn rfl,?_⟩
  ·unfold dQ at l;by_cases T:k=g
   ·subst T;cases op<;>simp only[binOp,Op.shift,Op.intArith,Op.intDiv,Op.intBits,Op.intCmp]at l ⊢ <;>simp at l ⊢ <;>first
     | (subst l;rfl)
     | (split at l<;>first| (cases l;done)| (injection l with l;subst l;rename_i Q;simp[Q];done)|skip)
     | (obtain⟨c,rfl⟩:=l;simp[show¬m<0 by omega])
     | (obtain⟨c,rfl⟩:=l;simp[c])
     |skip
   ·cases op<;>simp[T]at l<;>simp only[binOp,Op.shift]<;>first
     | (obtain⟨c,rfl⟩:=l;simp[show¬m<0 by omega])
     |skip
 have I:∀p q,u= .string p->z= .string q->(eqGuard op t x y u z).run P w= .ok () w/\(binOp op t u z).run P w= .ok v w:=by
  intro p q j d;subst j;subst d;refine⟨qn rfl,?_⟩
  ·unfold dQ at l;cases op<;>simp only[binOp,Op.stringOp]at l ⊢ <;>simp at l ⊢ <;>first
    | (subst l;rfl)
    | (obtain⟨c,rfl⟩:=l;simp[show¬ (9223372036854775807:Int)< (p.size:Int)+q.size by omega])
    | (obtain⟨c,rfl⟩:=l;rw[if_neg O])
    | (cases l;done)
    |skip
 have W:(∀k n,u≠ .int k n\/∀g m,z≠ .int g m)->(∀p,u≠ .string p\/∀q,z≠ .string q)->(eqGuard op t x y u z).run P w= .ok () w/\(binOp op t u z).run P w= .ok v w:=by
  intro c f;have N:=Nj (op:=op) (s:=s) c f;rw[N]at l;cases op<;>simp only[PJ]at l<;>first| (cases l;done)|skip
  ·obtain⟨L,A⟩:=F (.inl rfl);cases r:xf s u z with
   |none=>rw[r]at l;cases l
   |some b=>rw[r]at l;injection l with l;subst l;exact⟨tw r A w,(Ep L r c f w).1⟩
  ·obtain⟨L,A⟩:=F (.inr rfl);cases r:xf s u z with
   |none=>rw[r]at l;cases l
   |some b=>rw[r]at l;injection l with l;subst l;exact⟨tw r A w,(Ep L r c f w).2⟩
 have key:(eqGuard op t x y u z).run P w= .ok () w/\(binOp op t u z).run P w= .ok v w:=by
  by_cases c:∃k n g m,u= .int k n/\z= .int g m
  ·obtain⟨k,n,g,m,j,d⟩:=c;exact acw k n g m j d
  ·by_cases f:∃p q,u= .string p/\z= .string q
   ·obtain⟨p,q,j,d⟩:=f;exact I p q j d
   ·refine W (fun k n=>?_) (fun p=>?_)
    ·by_cases e:u= .int k n
     ·exact .inr fun g m B=>c ⟨k,n,g,m,e,B⟩
     ·exact .inl e
    ·by_cases e:u= .string p
     ·exact .inr fun q B=>f ⟨p,q,e,B⟩
     ·exact .inl e
 simp[key.1,key.2]
end
end
section
variable{x i:Operand}{t e:TypeId}{n f:Nat}
section
variable {P : Program} {o : Oper} {a : Act} {ev : Ev} {H : Hp} {K : Value → Hp → Prop}
theorem GD{i:Nat}(z:bO ev a)(l:o.op= .extract x i)(h:(dH.extract i x).vc P ev H K):ed P o a H K:=by
 obtain⟨vs,n,h⟩:=FU (bh z h);obtain⟨v,hi,h⟩:=aB h;refine⟨v,fun w=>?_,h⟩;have hi':vs[i]? =some v:=by simpa using hi
 simp[execOp,l,n,Instr.extract,hi']
theorem Ct{fields:Array Field}{z:Field}(n:bO ev a)(c:o.op= .fieldAddr t x f)(v:P.underlying t=some (.struct fields))
  (m:fields[f]? =some z)(hi:(P.info? z.type).isSome=true)(l:P.cellsOf z.type≠0)(h:(dH.fieldAddr z.offset x).vc P ev H K):ed P o a H K:=by
 obtain⟨b,off,e,h⟩:=fD (bh n h);refine⟨_,fun w=>?_,h⟩;simp[execOp,c,e,Instr.fieldAt,ar v,m,Instr.sureAddr,fieldPlace,bI hi,l,vK]
theorem J7{fields:Array Field}{z:Field}(l:bO ev a)(m:o.op= .field t x f)(e:P.underlying t=some (.struct fields))
  (n:fields[f]? =some z)(hi:(P.info? z.type).isSome=true)(g:(P.underlying z.type).isSome=true)
  (h:(dH.field z.offset (if ez P z.type then some (P.cellsOf z.type)else none) x).vc P ev H K):ed P o a H K:=by
 obtain⟨vs,y,h⟩:=zk (bh l h);obtain⟨v,c,h⟩:=aB h;refine⟨v,fun w=>?_,h⟩;have:=oN hi g c w;simp only[akQ]at this;simp[execOp,m,y,Instr.field,ar e,n,asAgg,this]
theorem Cu(l:bO ev a)(v:o.op= .indexAddr t x i)(g:P.underlying t=some (.slice e))(hi:(P.info? e).isSome=true)
  (h:(dH.indexAddr (P.cellsOf e) x i).vc P ev H K):ed P o a H K:=by
 obtain⟨r,n,c,y,h⟩:=hO (bh l (bh l h));obtain⟨k,j,m,h⟩:=gh h;obtain⟨z,h⟩:=h.out;obtain⟨b,off,rfl,h⟩:=lE h;refine⟨_,fun w=>?_,h⟩;simp[execOp,v,y,m,Instr.indexAt,ar g,asIntOf,z.1,z.2,bI hi,vK]
theorem EF(l:bO ev a)(c:o.op= .indexAddr t x i)(v:P.underlying t=some (.array n e))(hi:(P.info? e).isSome=true)
  (h:(dH.xp n (P.cellsOf e) x i).vc P ev H K):ed P o a H K:=by
 obtain⟨b,off,g,h⟩:=fD (bh l (bh l h));obtain⟨k,j,m,h⟩:=gh h;obtain⟨z,h⟩:=h.out;refine⟨_,fun w=>?_,h⟩;simp[execOp,c,g,m,Instr.indexAt,ar v,asIntOf,z.1,z.2,bI hi,vK,Instr.sureAddr]
theorem Ii(z:bO ev a)(c:o.op= .index t x i)(v:P.underlying t=some .string)
  (h:(dH.GA x i).vc P ev H K):ed P o a H K:=by
 obtain⟨s,e,h⟩:=kZ (bh z (bh z h));obtain⟨k,j,m,h⟩:=gh h;obtain⟨l,h⟩:=h.out;obtain⟨b,n,h⟩:=aB h;refine⟨_,fun w=>?_,h⟩;simp[execOp,c,e,m,Instr.index,ar v,asIntOf,l,n]
theorem Ij(l:bO ev a)(c:o.op= .index t x i)(y:P.underlying t=some (.array n e))(hi:(P.info? e).isSome=true)(r:(P.underlying e).isSome=true)
  (h:(dH.GC n (P.cellsOf e) (if ez P e then some (P.cellsOf e)else none) x i).vc P ev H K):ed P o a H K:=by
 obtain⟨vs,d,h⟩:=zk (bh l (bh l h));obtain⟨k,j,m,h⟩:=gh h;obtain⟨z,h⟩:=h.out;obtain⟨v,g,h⟩:=aB h;refine⟨v,fun w=>?_,h⟩;have:=oN hi r g w;simp only[akQ]at this;simp[execOp,c,d,m,Instr.index,ar y,asIntOf,z.1,z.2,bI hi,this]
theorem kg{x:Option Operand}{d:Nat}{F:Int->Prop}(z:bO ev a)(h:nq ev x d F):
  ∃n,F n/\((x=none/\n=d)\/∃y k,x=some y/\a.eval y= .int k n):=by
 cases x with
 |none=>exact⟨d,h,.inl ⟨rfl,rfl⟩⟩
 |some y=>
  obtain⟨k,n,w,h⟩:=gh (bh z h);grind
theorem gw{k:IntKind}{i:Int}{y:Nat}{code:BoundsCode}(x:0<=i)(h:i<=y)(w:World):(Instr.sliceBound (.int k i) y code).run P w= .ok i.toNat w:=by
 simp[Instr.sliceBound,asIntOf,x,h]
theorem Er{isS:Bool}{c:Nat}{lo hi mx:Option Operand}{l h m:Int}(v:(lo=none/\l=0)\/∃y k,lo=some y/\a.eval y= .int k l)
  (z:(hi=none/\h=n)\/∃y k,hi=some y/\a.eval y= .int k h)(hm:(mx=none/\m=c)\/∃y k,mx=some y/\a.eval y= .int k m)
  (f:mx.isSome=true->hi.isSome=true)(t:0<=l/\l<=h/\h<=m/\m<=c)(w:World):
  (Instr.sliceBounds isS n c (lo.map a.eval) (hi.map a.eval) (mx.map a.eval)).run P w= .ok (l.toNat,h.toNat,m.toNat) w:=by
 obtain⟨x,q,u,B⟩:=t;unfold Instr.sliceBounds;rcases hm with ⟨rfl,rfl⟩| ⟨A,L,rfl,em⟩
 ·rcases z with ⟨rfl,rfl⟩| ⟨d,r,rfl,e⟩<;>rcases v with ⟨rfl,rfl⟩| ⟨p,j,rfl,g⟩<;>
   simp only[Option.map_none,Option.map_some,Option.isSome_none,Sem.run_bind,Sem.run_pure,Result.andThen_ok, *]
  ·rfl
  ·rw[gw x O];rfl
  ·rw[gw O O];rfl
  ·rw[gw O O];simp only[Result.andThen_ok];rw[gw x O];rfl
 ·rcases z with ⟨rfl,rfl⟩| ⟨d,r,rfl,e⟩
  ·grind
  ·rcases v with ⟨rfl,rfl⟩| ⟨p,j,rfl,g⟩<;>simp only[Option.map_none,Option.map_some,Option.isSome_some,Sem.run_bind,Sem.run_pure,Result.andThen_ok, *]
   ·rw[gw O O];simp only[Result.andThen_ok];rw[gw O O];rfl
   ·rw[gw O O];simp only[Result.andThen_ok];rw[gw O O];simp only[Result.andThen_ok];rw[gw x O];rfl
theorem J6{lo hi mx:Option Operand}(z:bO ev a)(d:o.op= .slice t x lo hi mx)(q:P.underlying t=some (.slice e))(r:(P.info? e).isSome=true)
  (v:mx.isSome=true->hi.isSome=true)(h:(dH.slice (P.cellsOf e) x lo hi mx).vc P ev H K):ed P o a H K:=by
 obtain⟨u,n,c,f,h⟩:=hO (bh z h);obtain⟨m,h,hm⟩:=kg z h;obtain⟨B,h,y⟩:=kg z h;obtain⟨l,h,j⟩:=kg z h;obtain⟨g,h⟩:=h.out;refine⟨_,fun w=>?_,h⟩;have p:=Er (P:=P) (isS:=true) (n:=n) (c:=c) j y hm v g w;simp only[execOp,d,Instr.sliceAt,Sem.run_bind,ar q,Result.andThen_ok,Instr.slice,f,p,bI r,Sem.run_pure];grind
theorem Ih{lo hi:Option Operand}(z:bO ev a)(y:o.op= .slice t x lo hi none)(r:P.underlying t=some .string)
  (h:(dH.Gz x lo hi).vc P ev H K):ed P o a H K:=by
 obtain⟨s,j,h⟩:=kZ (bh z h);obtain⟨p,h,e⟩:=kg z h;obtain⟨l,h,g⟩:=kg z h;obtain⟨d,h⟩:=h.out;refine⟨_,fun w=>?_,h⟩;have v:=Er (P:=P) (isS:=false) (n:=s.size) (c:=s.size) (m:=s.size) (mx:=none) g e Z (by simp) O w;simp only[Option.map_none]at v;simp only[execOp,y,Instr.sliceAt,Sem.run_bind,ar r,Result.andThen_ok,Instr.slice,j,v,Sem.run_pure,Option.map_none,Option.isSome_none,akC,if_false]
theorem HL(vs:List Value):∀ (n off:Nat) (z:Array Value),((vs.zipIdx n).foldl (fun cs (c,j)=>cs.setIfInBounds (off+j) c) z).toList=aS z.toList (off+n) vs:=by
 induction vs with
 |nil=>intro n off z;rfl
 |cons v vs x=>
  intro n off z;rw[List.zipIdx_cons,List.foldl_cons,nf];have:=x (n+1) off (z.setIfInBounds (off+n) v);grind
theorem fill_eq{place:Nat->Option (Nat×Nat)}:∀ (ps:List (Nat×Operand)) (w:List (Nat×Nat×Operand)) (z:Array Value) (F:List Value->Prop),
  List.length ps=List.length w->(∀ (j i:Nat) (x:Operand),ps[j]? =some (i,x)->∃off size:Nat,w[j]? =some (off,size,x)/\place i=some (off,size)/\off+size<=z.size)->bO ev a->xt ev z.toList w F->
   ∃z':Array Value,Instr.fill place z (ps.map fun(i,x)=>(i,a.eval x))=some z'/\F z'.toList:=by
 intro ps;induction ps with
 |nil=>
  intro w z F e n l h;cases w with
  |nil=>exact⟨z,rfl,h⟩
  |cons q w=>grind
 |cons p ps f=>
  intro w z F e n l h;obtain⟨i,x⟩:=p;cases w with
  |nil=>grind
  |cons q w=>
   obtain⟨off,size,m,y,C⟩:=n 0 i x rfl;simp only[akp,ajS]at m;subst m;obtain⟨g,h⟩:=(bh l h).out;have r:(a.eval x).cells.size=size:=by rw[<-g,<-eQ];simp
   rw[akJ,Instr.fill];simp only[y,r,ne_eq,not_true_eq_false,decide_false,Bool.false_or,ak1];rw[if_neg O];have v:((a.eval x).cells.zipIdx.foldl (fun cs (c,j)=>cs.setIfInBounds (off+j) c) z).toList=aS z.toList off (aK (a.eval x)):=by
    have:=HL (a.eval x).cells.toList 0 off z;rw[eQ]at this;rw[<-Array.foldl_toList,Array.toList_zipIdx,eQ];simpa using this
   refine f w _ F Z (fun j d L A=>?_) l Z;obtain⟨u,B,N,t,T⟩:=n (j+1) d L Z;refine⟨u,B,Z,t,?_⟩;have:((a.eval x).cells.zipIdx.foldl (fun cs (c,j)=>cs.setIfInBounds (off+j) c) z).size=z.size:=by
    rw[<-Array.length_toList,v,eA,Array.length_toList]
   grind
end
end
section
variable{t:TypeId}{s:Shape}{x:Operand}{k z:Value}{b n d:Nat}
section
variable {P : Program} {o : Oper} {a : Act} {ev : Ev} {H : Hp} {K : Value → Hp → Prop}
theorem qo{place:Nat->Option (Nat×Nat)}{Up:Nat}:∀ (ps:List (Nat×Operand)) (z:List (Nat×Nat×Operand)),jG place Up ps=some z->
  ps.length=z.length/\∀ (j i:Nat) (x:Operand),ps[j]? =some (i,x)->∃off size:Nat,z[j]? =some (off,size,x)/\place i=some (off,size)/\off+size<=Up:=by
 intro ps;induction ps with
 |nil=>grind [jG]
 |cons p ps m=>
  intro z h;obtain⟨i,x⟩:=p;unfold jG at h;split at h
  ·cases h
  ·rename_i off size l;split at h
   ·rename_i w;cases n:jG place Up ps with
    |none=>grind
    |some c=>
     grind
   grind
theorem JJ(x:List Field)(h:∀f∈x,(P.info? f.type).isSome=true)(w:World):
  (x.mapM fun f=>(do pure (f.offset,<-sizeOf f.type):Sem (Nat×Nat))).run P w= .ok (x.map fun f=>(f.offset,P.cellsOf f.type)) w:=by
 induction x with
 |nil=>rfl
 |cons f x l=>
  rw[List.mapM_cons];simp only[Sem.run_bind,bI (h f akq),Result.andThen_ok,Sem.run_pure,l fun g z=>h g (akr _ z),akJ]
theorem za(ps:Array (Nat×Operand)):(ps.map fun(i,x)=>(i,a.eval x)).toList=ps.toList.map fun(i,x)=>(i,a.eval x):=by simp
theorem J1{ps:Array (Nat×Operand)}{c:List (Nat×Nat×Operand)}(j:bO ev a)(d:o.op= .build t ps)(p:fI P t=some z)
  (x:parts P t (aK z).length ps.toList=some c)(h:(dH.build (aK z) c).vc P ev H K):ed P o a H K:=by
 have y:z.cells.toList=aK z:=eQ z;have A:z.cells.size=(aK z).length:=by rw[<-y];simp
 unfold parts at x;split at x
 ·rename_i fields g;split at x
  ·rename_i u;obtain⟨v,q⟩:=qo _ _ x;obtain⟨r,m,B⟩:=fill_eq (a:=a) (ev:=ev) (place:=((placeOf P fields)[·]?)) ps.toList c z.cells (fun l=>K (.agg l.toArray) H) v
    Z j (by rw[y];exact h)
   refine⟨.agg r,fun w=>?_,O⟩;have L:(fields.mapM fun f=>(do pure (f.offset,<-sizeOf f.type):Sem (Nat×Nat))).run P w= .ok (placeOf P fields) w:=by
    rw[Array.mapM_eq_mapM_toList,Sem.run_map,JJ fields.toList (fun f m=>by
     have:=(akK.1 u) f Z;omega) w]
    simp only[Result.andThen_ok];congr 1;apply Array.ext';simp[placeOf]
   simp only[execOp,d,Instr.build,Sem.run_bind,cK p,ar g,Result.andThen_ok,L,za,m,Sem.run_pure]
  grind
 ·rename_i n e g;split at x
  ·rename_i hi;obtain⟨v,q⟩:=qo _ _ x;obtain⟨r,m,B⟩:=fill_eq (a:=a) (ev:=ev) (place:=fun i=>some (i*P.cellsOf e,P.cellsOf e)) ps.toList c z.cells (fun l=>K (.agg l.toArray) H) v
    Z j (by rw[y];exact h)
   refine⟨.agg r,fun w=>?_,O⟩;simp only[execOp,d,Instr.build,Sem.run_bind,cK p,ar g,Result.andThen_ok,bI hi,za,m,Sem.run_pure]
  grind
 grind
theorem xo{z:Array Value}{size:Nat}(m:z.size=size)(v:size≠0):((Array.range (n*size)).map (z[· %z.size]!)).toList=dw z.toList n:=by
 subst m;induction n with
 |zero=>simp[dw]
 |succ n c=>
  apply akb;intro i;have l:dw z.toList (n+1)=dw z.toList n++z.toList:=by simp[dw,ale]
  have w:(dw z.toList n).length=n*z.size:=by rw[<-c];simp
  rw[l];by_cases hi:i<n*z.size
  ·grind
  ·rw[List.getElem?_append_right O,w];by_cases x:i< (n+1)*z.size
   ·have h:i - n*z.size<z.size:=by rw[akX]at x;omega
    have g:i%z.size=i - n*z.size:=by
     have e:i=(i - n*z.size)+z.size*n:=by rw[Nat.mul_comm z.size n];omega
     rw[e,Nat.add_mul_mod_self_left,Nat.mod_eq_of_lt h];rw[Nat.mul_comm z.size n];omega
    grind
   grind
theorem rK(z:List Value)(n:Nat):(dw z n).length=n*z.length:=by simp[dw]
theorem NO{e:TypeId}{ps:Array (Nat×Operand)}{j:List (Nat×Nat×Operand)}(B:bO ev a)(d:o.op= .buildSlice t n ps)(p:P.underlying t=some (.slice e))
  (F:fI P e=some z)(hi:(P.info? e).isSome=true)(f:P.cellsOf e≠0)(L:(aK z).length=P.cellsOf e)(hm:n*P.cellsOf e<=2^24)
  (A:jG (fun i=>some (i*P.cellsOf e,P.cellsOf e)) (n*P.cellsOf e) ps.toList=some j)(h:(dH.lit e n (dw (aK z) n) j).vc P ev H K):ej P o a H K:=by
 have q:z.cells.toList=aK z:=eQ z;have N:z.cells.size=P.cellsOf e:=by rw[<-L,<-q];simp
 intro w T;subst T;obtain⟨u,Q⟩:=qo _ _ A;have C:∀ (m:Array Value),(n*P.cellsOf e=0\/m=z.cells)->((Array.range (n*P.cellsOf e)).map (m[· %m.size]!)).toList=dw (aK z) n:=by
  intro m v;rcases v with v|rfl
  ·have:n=0:=by
    rcases Nat.mul_eq_zero.1 v with h|h
    ·exact h
    ·omega
   subst this;simp[dw]
  ·rw[xo N f,q]
 have main:∀m:Array Value,(n*P.cellsOf e=0\/m=z.cells)->∃c:Array Value,Instr.fill (fun i=>some (i*P.cellsOf e,P.cellsOf e)) ((Array.range (n*P.cellsOf e)).map (m[· %m.size]!)) (ps.toList.map fun(i,x)=>(i,a.eval x))=some c/\
   K (.slice (some ⟨w.heap.size,0,none⟩) n n) (Hp.new w.heap e c.toList):=by
  intro m v;exact fill_eq (a:=a) (ev:=ev) ps.toList j _ (fun l=>K (.slice (some ⟨w.heap.size,0,none⟩) n n) (Hp.new w.heap e l)) u
   Z B (by rw[C m v];exact h)
 by_cases r:n*P.cellsOf e=0
 ·obtain⟨c,g,y⟩:=main #[] (.inl r);refine .inl ⟨.slice (some ⟨w.heap.size,0,none⟩) n n,{w with heap:=Hp.new w.heap e c.toList},?_,⟨rfl,rfl⟩,y⟩;simp only[execOp,d,Instr.buildSlice,Sem.run_bind,ar p,bI hi,Result.andThen_ok];rw[if_neg O,if_pos r];simp only[Sem.run_pure,Result.andThen_ok,Sem.run_bind,za,g,jM]
 ·obtain⟨c,g,y⟩:=main z.cells (.inr rfl);refine .inl ⟨.slice (some ⟨w.heap.size,0,none⟩) n n,{w with heap:=Hp.new w.heap e c.toList},?_,⟨rfl,rfl⟩,y⟩;simp only[execOp,d,Instr.buildSlice,Sem.run_bind,ar p,bI hi,Result.andThen_ok];rw[if_neg O,if_neg r];simp only[Sem.run_pure,Result.andThen_ok,Sem.run_bind,cK F,za,g,jM]
theorem NN(z:bO ev a)(l:o.op= .box t x)(h:(dH.box t x).vc P ev H K):ej P o a H K:=by
 intro w n;subst n;have h:=bh z h;refine .inl ⟨_,{w with heap:=Hp.new w.heap t (aK (a.eval x))},?_,⟨rfl,rfl⟩,h⟩;simp[execOp,l,Instr.box,A4]
theorem Mf(n:fI P t=some z)(x:o.op= .alloc t)(h:(dH.zero t (aK z)).vc P ev H K):ej P o a H K:=by
 intro w l;subst l;refine .inl ⟨_,{w with heap:=Hp.new w.heap t (aK z)},?_,⟨rfl,rfl⟩,h⟩;simp[execOp,x,Instr.alloc,A4,cK n]
theorem J3(z:bO ev a)(c:o.op= .load t x)(hi:(P.info? t).isSome=true)(e:(P.underlying t).isSome=true)(n:ez P t=false)
  (h:(dH.bB x).vc P ev H K):ej P o a H K:=by
 intro w y;subst y;obtain⟨b,off,r,h⟩:=fD (bh z h);obtain⟨l,m,h⟩:=aB h;obtain⟨v,g,h⟩:=aB h;refine .inl ⟨v,w,?_,cv.refl w,h⟩;simp[execOp,c,Instr.loadAt,r,Instr.sureAddr,(iE hi e m).2 n v g]
theorem J2(z:bO ev a)(v:o.op= .load t x)(hi:(P.info? t).isSome=true)(e:(P.underlying t).isSome=true)(n:ez P t=true)
  (h:(dH.cE (P.cellsOf t) x).vc P ev H K):ej P o a H K:=by
 intro w g;subst g;obtain⟨b,off,y,h⟩:=fD (bh z h);obtain⟨l,m,h⟩:=aB h;obtain⟨c,h⟩:=h.out;refine .inl ⟨_,w,?_,cv.refl w,h⟩;simp only[execOp,v,Instr.loadAt,y,Instr.sureAddr,Sem.run_bind,Sem.run_pure,Result.andThen_ok,(iE hi e m).1 n c]
theorem J4{y:Operand}(z:bO ev a)(j:o.op= .store t x y)(hi:(P.info? t).isSome=true)(n:P.cellsOf t≠0)
  (h:(dH.store (P.cellsOf t) x y).vc P ev H K):ej P o a H K:=by
 intro w q;subst q;obtain⟨b,off,f,h⟩:=fD (bh z h);obtain⟨l,r,h⟩:=aB (bh z h);obtain⟨m,h⟩:=h.out;obtain⟨c,h⟩:=h.out;obtain⟨e,h⟩:=h.out;obtain⟨w',d,p,g⟩:=FN (v:=a.eval y) hi n r m (Nh c) e;refine .inr (.inl ⟨w',?_,p,g▸h⟩);simp[execOp,j,Instr.storeAt,f,Instr.sureAddr,d]
theorem Ig(x:o.op= .makeMap t none)(h:dH.Ls.vc P ev H K):ej P o a H K:=by
 intro w z;subst z;refine .inl ⟨_,{w with heap:=Hp.iG w.heap},?_,⟨rfl,rfl⟩,h⟩;simp only[execOp,x,Option.map_none,Instr.makeMap,Sem.run_bind,Sem.run_pure,Result.andThen_ok,run_newObj,Hp.iG]
theorem wrap_i64{n:Int}(h:0<=n)(z:n<=2^62):IntKind.i64.wrap n=n:=by
 have e:(2^IntKind.i64.bits:Int)=18446744073709551616:=rfl;have x:(2^ (IntKind.i64.bits - 1):Int)=9223372036854775808:=rfl;unfold IntKind.wrap;grind
theorem Cs{e:TypeId}{y:Operand}(v:bO ev a)(q:o.op= .makeSlice t x y)(f:P.underlying t=some (.slice e))(A:fI P e=some z)
  (hi:(P.info? e).isSome=true)(m:P.cellsOf e≠0)(p:(aK z).length=P.cellsOf e)(h:(dH.makeSlice e (P.bytesOf e) (P.cellsOf e) (aK z) x y).vc P ev H K):ej P o a H K:=by
 intro w u;subst u;have h:=bh v (bh v h);obtain⟨k,n,B,h⟩:=gh h;obtain⟨W,c,L,h⟩:=gh h;obtain⟨⟨r,N,Q,U⟩,h⟩:=h.out;refine .inl ⟨_,{w with heap:=Hp.new w.heap e (dw (aK z) c.toNat)},?_,⟨rfl,rfl⟩,h⟩;obtain⟨i,hi'⟩:=Option.isSome_iff_exists.1 hi;have j:i.bytes=P.bytesOf e:=by simp[Program.bytesOf,hi']
 have g:z.cells.toList=aK z:=eQ z;have C:z.cells.size=P.cellsOf e:=by rw[<-p,<-g];simp
 have T:=wrap_i64 r (by omega:n<=2^62);have F:=wrap_i64 (by omega:0<=c) (by omega:c<=2^62);simp only[execOp,q,Instr.makeSlice,Sem.run_bind,ar f,Result.andThen_ok,B,L,asInt,asIntOf,Sem.run_pure,ew hi',j,T,F,run_askRoom,bI hi];have I:(decide (c<0) || decide ((P.bytesOf e:Int)*c>2^48))=false:=by simp;omega
 rw[if_neg Z];simp only[Sem.run_bind,run_askRoom,Result.andThen_ok,bI hi];by_cases l:c.toNat*P.cellsOf e=0
 ·have d:c.toNat=0:=by rcases Nat.mul_eq_zero.1 l with h|h;exact h;exact absurd h m
  rw[if_pos l];simp only[d,aj7,Sem.run_bind,Sem.run_pure,Result.andThen_ok,jM];simp[dw]
 ·rw[if_neg l];simp only[Sem.run_bind,cK A,Sem.run_pure,Result.andThen_ok,jM,xo C m,g]
theorem Ca{H:Hp}{x:List MapEntry×Nat}(h:H.mp b=some x):∃es:Array MapEntry,H[b]? =some (.map es x.2)/\es.toList=x.1:=by
 unfold Hp.mp at h;grind
theorem mJ{w:World}{es:Array MapEntry}{k:Nat}(h:w.heap[b]? =some (.map es k)):(getObj b).run P w= .ok (.map es k) w:=by simp[getObj,Sem.run,h]
theorem mK{w:World}{es x:Array MapEntry}{k z:Nat}(h:w.heap[b]? =some (.map es k)):
  (setObj b (.map x z)).run P w= .ok () {w with heap:=Hp.A9 w.heap b x.toList z}:=by
 simp[setObj,Sem.run,h,Hp.A9]
theorem qM(h:cD P t=some s)(z:∀x,s≠ .s x):shapeOf P fP t=some s/\ng s=true:=by
 grind [fP,cD,shapeOf,ng]
theorem Es(h:cD P t=some s):shapeOf P fP t=some s:=by
 grind [cD,qM]
theorem qN(h:shapeOf P d t=some s)(z:ng s=true)(v:Value)(e:Bool)(n:Nat)(w:World):(Instr.checkKey e (n+1) t v).run P w= .ok () w:=by
 cases d with
 |zero=>simp[shapeOf]at h
 |succ d=>
  rw[gu]at h;split at h
  ·injection h with h;subst h;simp[Instr.checkKey,ar ‹P.underlying t=_›]
  ·injection h with h;subst h;simp[Instr.checkKey,ar ‹P.underlying t=_›]
  ·injection h with h;subst h;simp[Instr.checkKey,ar ‹P.underlying t=_›]
  case h_9=>
   split at h
   ·cases h
   ·rename_i x _ _;cases m:fC P d x.toList with
    |none=>grind
    |some l=>grind [ng]
  all_goals grind [ng]
theorem B7(e:Bool)(n:Nat)(xs:List Value):∀ (h:List Field) (l:List (Nat×Option Nat×Shape)),fC P d h=some l->
  (l.all fun(off,agg,g)=>agg.isNone && ng g)=true->(∀q∈l,(xs[q.1]?).isSome=true)->∀w:World,
  (forIn h PUnit.unit fun f (_:PUnit)=>(do
   if f.name≠ "_" then Instr.checkKey e (n+1) f.type (<-part f.type xs.toArray f.offset)
   pure (ForInStep.yield PUnit.unit):Sem (ForInStep PUnit))).run P w= .ok PUnit.unit w:=by
 intro h;induction h with
 |nil=>simp_all
 |cons f h F=>
  intro l x z L w;rw[nK]at x;split at x
  ·cases x
  ·rename_i j;split at x
   ·cases x
   ·rename_i g m;cases u:fC P d h with
    |none=>grind
    |some l'=>
     rw[u]at x;simp only[Option.map_some,ajS]at x;subst x;rw[List.all_cons]at z;simp only[aki]at z;obtain⟨⟨A,y⟩,C⟩:=z;have r:ez P f.type=false:=by
      cases T:ez P f.type
      ·rfl
      ·grind
     obtain⟨v,B⟩:=Option.isSome_iff_exists.1 (L _ akq);have c:(P.underlying f.type).isSome=true:=by
      cases d with
      |zero=>simp[shapeOf]at m
      |succ d=>rw[gu]at m;grind
     have p:=oN (P:=P) (l:=xs) (t:=f.type) (off:=f.offset) (v:=v) (info_of_underlying c) c (by rw[r];simpa[lV]using B) w;simp only[List.forIn_cons,j,ne_eq,not_false_eq_true,if_true,Sem.run_bind,p,Result.andThen_ok,qN m y,Sem.run_pure];grind
theorem Et(h:cD P t=some s)(c:A0 s k=true)(e:Bool)(n:Nat)(w:World):(Instr.checkKey e (n+1+1) t k).run P w= .ok () w:=by
 by_cases d:∃z,s= .s z
 ·obtain⟨l,rfl⟩:=d;have p:=h;unfold cD at h;split at h
  ·cases h
  ·cases h
  ·cases h
  ·rename_i z g;split at h
   ·split at h
    ·rename_i l' x r;injection h with h;injection h with h;subst h;cases k with
     |agg xs=>
      simp only[show fP=7+1 from rfl,gu,g]at x;split at x
      ·cases x
      ·cases v:fC P 7 z.toList with
       |none=>grind
       |some l=>
        rw[v]at x;simp only[Option.map_some,ajS,Shape.s.injEq]at x;subst x;rw[Instr.checkKey];simp only[Sem.run_bind,ar g,Result.andThen_ok];rw[<-Array.forIn_toList];have:=B7 (P:=P) e n xs.toList z.toList l v r (fun q j=>by
         have m:=(akV.1 c) q j;grind) w
        simp_all
     |_=>simp[A0]at c
    grind
   grind
  grind
 ·obtain⟨m,y⟩:=qM h Z;exact qN m y k e (n+1) w
theorem gO(h:cD P t=some s)(x:A0 s k=true)(e:Bool)(w:World):(Instr.checkKey e 10000 t k).run P w= .ok () w:=
 Et h x e 9998 w
theorem Eu(h:shapeOf P fP t=some s):∀ (es:List MapEntry) (i:Nat) (r:Option (Nat×Value)),iH s k es i=some r->∀w:World,
  (Instr.findAsking t k es i).run P w= .ok r w:=by
 intro es;induction es with
 |nil=>intro i r x w;simp only[iH,ajS]at x;subst x;rfl
 |cons e es n=>
  intro i r x w;unfold iH at x;have l:∀b,xf s k e.key=some b->(Op.equal t k e.key).run P w= .ok b w:=by
   intro b z;unfold Op.equal Op.maxDepth;have:=(y9 (P:=P) fP).1 t s k e.key b h z (10000 - fP) w;simpa[fP]using this
  split at x
  ·rename_i z;injection x with x;subst x;simp[Instr.findAsking,l true z]
  ·rename_i z;simp[Instr.findAsking,l false z,n (i+1) r x w]
  grind
theorem AK{d:TypeDesc}(w:(∃q,d= .int q/\s= .int)\/(d= .string/\s= .str)\/(d= .bool/\s= .bool)):∀ (es:List MapEntry) (i:Nat) (r:Option (Nat×Value)),
  iH s k es i=some r->Instr.findNow d k es i=some r:=by
 intro es;induction es with
 |nil=>intro i r z;simpa[iH,Instr.findNow]using z
 |cons e es n=>
  intro i r z;unfold iH at z;unfold Instr.findNow;have l:∀b,xf s k e.key=some b->Instr.sameNow d k e.key=some b:=by
   intro b x;rcases w with ⟨q,rfl,rfl⟩| ⟨rfl,rfl⟩| ⟨rfl,rfl⟩
   ·cases k<;>cases h:e.key<;>simp only[h,xf,cV]at x<;>first| (cases x;done)|skip
    exact x
   ·cases k<;>cases h:e.key<;>simp only[h,xf,cV]at x<;>first| (cases x;done)|skip
    simpa[Instr.sameNow,beq_toListBytes]using x
   ·cases k<;>cases h:e.key<;>simp only[h,xf,cV]at x<;>first| (cases x;done)|skip
    simpa[Instr.sameNow]using x
  grind
theorem iA{es:List MapEntry}{r:Option (Nat×Value)}(h:cD P t=some s)(z:iH s k es 0=some r)(w:World):
  (Instr.findKey t k es).run P w= .ok r w:=by
 have c:=Es h;unfold Instr.findKey;have x:∃d,P.underlying t=some d:=by
  unfold cD at h;grind
 obtain⟨d,x⟩:=x;simp only[Sem.run_bind,ar x,Result.andThen_ok];by_cases m:∃fs,s= .s fs
 ·obtain⟨l,rfl⟩:=m;have n:∃fs,d= .struct fs:=by
   unfold cD at h;rw[x]at h;split at h
   ·cases h
   ·cases h
   ·cases h
   ·grind
   ·cases h
  obtain⟨fs,rfl⟩:=n;cases es with
  |nil=>simp only[iH,ajS]at z;subst z;rfl
  |cons e es=>
   have:Instr.findNow (.struct fs) k (e::es) 0=none:=by simp[Instr.findNow,Instr.sameNow]
   rw[this];exact Eu c _ _ _ z w
 ·have n:(∃q,d= .int q/\s= .int)\/(d= .string/\s= .str)\/(d= .bool/\s= .bool):=by
   unfold cD at h;rw[x]at h;split at h
   ·grind
   ·grind
   ·grind
   ·grind
   ·cases h
  rw[AK n es 0 r z];rfl
end
end
end Go.Vc
