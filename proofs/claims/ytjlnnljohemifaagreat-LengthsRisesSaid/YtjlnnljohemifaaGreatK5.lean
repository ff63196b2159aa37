/-
  Texts put behind each other by a program: Op.
-/
import Derived.Test.YtjlnnljohemifaaGreatK4
import Derived.Laws.StructEq
set_option linter.unusedVariables false
namespace Go.Vc
attribute [go_sem] List.length_cons List.length_nil List.getElem?_cons_zero List.getElem?_cons_succ List.set_cons_zero List.set_cons_succ List.drop_zero List.drop_succ_cons
  List.take_zero List.take_succ_cons Bool.not_true Bool.not_false Bool.true_and Nat.zero_add
abbrev Ev:=Operand→Option Value
inductive Shape where
 |int|str|bool|ptr|VI|mp|fn|YJ
 |s(fs:List (Nat×Option Nat×Shape))
 deriving Inhabited
def bA:Shape→Value→Value→Option Bool
 | .int,.int k a,.int k' b=>if k=k' then some (decide (a=b))else none
 | .str,.string a,.string b=>some (a.toList==b.toList)
 | .bool,.bool a,.bool b=>some (a==b)
 | .ptr,.pointer none,.pointer b=>some b.isNone
 | .ptr,.pointer (some _),.pointer none=>some false
 | .VI,.slice none _ _,.slice b _ _=>some b.isNone
 | .VI,.slice (some _) _ _,.slice none _ _=>some false
 | .mp,.map none,.map b=>some b.isNone
 | .mp,.map (some _),.map none=>some false
 | .fn,.nilFunc,.nilFunc=>some true
 | .fn,.func ..,.nilFunc=>some false
 | .fn,.nilFunc,.func .. =>some false
 | .YJ,.nilIface,.iface .. =>some false
 | .YJ,.iface ..,.nilIface=>some false
 |_,_,_=>none
def xl(l:List Value)(off:Nat)(agg:Option Nat):Option Value:=
 match agg with
 |some n=>if off+n≤l.length then some (.agg ((l.drop off).take n).toArray)else none
 |none=>l[off]?
@[go_sem] theorem GY(l:List Value)(off:Nat):xl l off none=l[off]? :=(rfl)
@[go_sem] theorem Xj(l:List Value)(off n:Nat):xl l off (some n)=if off+n≤l.length then some (.agg ((l.drop off).take n).toArray)else none:=(rfl)
mutual
def tf:Shape→Value→Value→Option Bool
 | .s fs,.agg xs,.agg ys=>Ct fs xs.toList ys.toList
 |sh,x,y=>bA sh x y
def Ct:List (Nat×Option Nat×Shape)→List Value→List Value→Option Bool
 | [],_,_=>some true
 | (off,agg,sh)::fs,xs,ys=>
  match xl xs off agg with
  |none=>none
  |some x=>
   match xl ys off agg with
   |none=>none
   |some y=>
    match tf sh x y with
    |some true=>Ct fs xs ys
    |some false=>some false
    |none=>none
end
def fB(P:Program)(t:TypeId):Bool:=match P.underlying t with|some (.struct _)|some (.array _ _)=>true|_=>false
def Bc(P:Program)(sh:TypeId→Option Shape):List Field→Option (List (Nat×Option Nat×Shape))
 | []=>some []
 |f::fs=>
  if f.name= "_" then none else
  match sh f.type with
  |none=>none
  |some s=>(Bc P sh fs).map ((f.offset,(if fB P f.type then some (P.cellsOf f.type)else none),s):: ·)
def shapeOf(P:Program):Nat→TypeId→Option Shape
 |0,_=>none
 |d+1,t=>
  match P.underlying t with
  |some (.int _)=>some .int
  |some .string=>some .str
  |some .bool=>some .bool
  |some (.pointer _)=>some .ptr
  |some (.slice _)=>some .VI
  |some (.map _ _)=>some .mp
  |some (.func _ _ _)=>some .fn
  |some (.interface _)=>some .YJ
  |some (.struct fs)=>if P.stoodInHeld t then none else(Bc P (shapeOf P d) fs.toList).map .s
  |_=>none
def fH(P:Program)(d:Nat)(fs:List Field):Option (List (Nat×Option Nat×Shape)):=Bc P (shapeOf P d) fs
theorem CX(P:Program)(d:Nat):fH P d []=some []:=rfl
theorem sk(P:Program)(d:Nat)(f:Field)(fs:List Field):fH P d (f::fs)=
  if f.name= "_" then none else
  match shapeOf P d f.type with
  |none=>none
  |some s=>(fH P d fs).map ((f.offset,(if fB P f.type then some (P.cellsOf f.type)else none),s):: ·):=rfl
theorem ik(P:Program)(d:Nat)(t:TypeId):shapeOf P (d+1) t=
  match P.underlying t with
  |some (.int _)=>some .int
  |some .string=>some .str
  |some .bool=>some .bool
  |some (.pointer _)=>some .ptr
  |some (.slice _)=>some .VI
  |some (.map _ _)=>some .mp
  |some (.func _ _ _)=>some .fn
  |some (.interface _)=>some .YJ
  |some (.struct fs)=>if P.stoodInHeld t then none else(fH P d fs.toList).map .s
  |_=>none:=rfl
def cA(op:BinOp)(s:Shape):Value→Value→Option Value
 | .int k a,.int k' b=>
  match op with
  | .shl=>if b<0 then none else some (.int k (k.wrap (a*2^ (min b.toNat k.bits))))
  | .shr=>if b<0 then none else some (.int k (a.fdiv (2^ (min b.toNat k.bits))))
  |_=>
   if k≠k' then none else
   match op with
   | .add=>some (.int k (k.wrap (a+b)))
   | .sub=>some (.int k (k.wrap (a - b)))
   | .mul=>some (.int k (k.wrap (a*b)))
   | .quo=>if b=0 then none else some (.int k (k.wrap (a.tdiv b)))
   | .rem=>if b=0 then none else some (.int k (a.tmod b))
   | .and=>some (.int k (k.wrap (BitVec.ofInt k.bits a &&& BitVec.ofInt k.bits b).toNat))
   | .or=>some (.int k (k.wrap (BitVec.ofInt k.bits a |||BitVec.ofInt k.bits b).toNat))
   | .xor=>some (.int k (k.wrap (BitVec.ofInt k.bits a^^^BitVec.ofInt k.bits b).toNat))
   | .andNot=>some (.int k (k.wrap (BitVec.ofInt k.bits a &&& ~~~ BitVec.ofInt k.bits b).toNat))
   | .eql=>some (.bool (decide (a=b)))
   | .neq=>some (.bool (!decide (a=b)))
   | .lss=>some (.bool (decide (a<b)))
   | .leq=>some (.bool (decide (a≤b)))
   | .gtr=>some (.bool (decide (a>b)))
   | .geq=>some (.bool (decide (a≥b)))
   |_=>none
 | .string x,.string y=>
  match op with
  | .add=>if((x.size+y.size:Nat):Int)>IntKind.i64.max then none else some (.string (x++y))
  | .eql=>some (.bool (x.toList==y.toList))
  | .neq=>some (.bool (!(x.toList==y.toList)))
  | .lss=>some (.bool (Op.bytesLess x.toList y.toList))
  | .leq=>some (.bool (Op.bytesLess x.toList y.toList || x.toList==y.toList))
  | .gtr=>some (.bool (!(Op.bytesLess x.toList y.toList || x.toList==y.toList)))
  | .geq=>some (.bool (!Op.bytesLess x.toList y.toList))
  |_=>none
 |x,y=>
  match op with
  | .eql=>(tf s x y).map .bool
  | .neq=>(tf s x y).map fun b=>.bool (!b)
  |_=>none
section
variable (s : Shape) (k : IntKind) (a b : Int)
@[go_sem] theorem aaU:cA .add s (.int k a) (.int k b)=some (.int k (k.wrap (a+b))):=by simp[cA]
@[go_sem] theorem aaV:cA .sub s (.int k a) (.int k b)=some (.int k (k.wrap (a - b))):=by simp[cA]
@[go_sem] theorem aaW:cA .mul s (.int k a) (.int k b)=some (.int k (k.wrap (a*b))):=by simp[cA]
@[go_sem] theorem aaX:cA .quo s (.int k a) (.int k b)=if b=0 then none else some (.int k (k.wrap (a.tdiv b))):=by simp[cA]
@[go_sem] theorem aaY:cA .rem s (.int k a) (.int k b)=if b=0 then none else some (.int k (a.tmod b)):=by simp[cA]
@[go_sem] theorem aaZ:cA .eql s (.int k a) (.int k b)=some (.bool (decide (a=b))):=by simp[cA]
@[go_sem] theorem aa0:cA .neq s (.int k a) (.int k b)=some (.bool (!decide (a=b))):=by simp[cA]
@[go_sem] theorem aa1:cA .lss s (.int k a) (.int k b)=some (.bool (decide (a<b))):=by simp[cA]
@[go_sem] theorem aa2:cA .leq s (.int k a) (.int k b)=some (.bool (decide (a≤b))):=by simp[cA]
@[go_sem] theorem aa3:cA .gtr s (.int k a) (.int k b)=some (.bool (decide (a>b))):=by simp[cA]
@[go_sem] theorem aa4:cA .geq s (.int k a) (.int k b)=some (.bool (decide (a≥b))):=by simp[cA]
@[go_sem] theorem aa5:cA .and s (.int k a) (.int k b)=some (.int k (k.wrap (BitVec.ofInt k.bits a &&& BitVec.ofInt k.bits b).toNat)):=by simp[cA]
@[go_sem] theorem ac4:cA .or s (.int k a) (.int k b)=some (.int k (k.wrap (BitVec.ofInt k.bits a |||BitVec.ofInt k.bits b).toNat)):=by simp[cA]
@[go_sem] theorem aa6:cA .xor s (.int k a) (.int k b)=some (.int k (k.wrap (BitVec.ofInt k.bits a^^^BitVec.ofInt k.bits b).toNat)):=by simp[cA]
@[go_sem] theorem aa7(k':IntKind):cA .shl s (.int k a) (.int k' b)=if b<0 then none else some (.int k (k.wrap (a*2^ (min b.toNat k.bits)))):=by simp[cA]
@[go_sem] theorem aa8(k':IntKind):cA .shr s (.int k a) (.int k' b)=if b<0 then none else some (.int k (a.fdiv (2^ (min b.toNat k.bits)))):=by simp[cA]
variable (x y : ByteArray)
@[go_sem] theorem aa9:cA .add s (.string x) (.string y)=if((x.size+y.size:Nat):Int)>IntKind.i64.max then none else some (.string (x++y)):=by simp[cA]
@[go_sem] theorem YK:cA .eql s (.string x) (.string y)=some (.bool (x.toList==y.toList)):=by simp[cA]
@[go_sem] theorem YL:cA .neq s (.string x) (.string y)=some (.bool (!(x.toList==y.toList))):=by simp[cA]
@[go_sem] theorem YM(u v:Bool):cA .eql .bool (.bool u) (.bool v)=some (.bool (u==v)):=by simp[cA,tf,bA]
@[go_sem] theorem YN(u v:Bool):cA .neq .bool (.bool u) (.bool v)=some (.bool (!(u==v))):=by simp[cA,tf,bA]
@[go_sem] theorem YO(u:Option Addr):cA .eql .ptr (.pointer u) (.pointer none)=some (.bool u.isNone):=by cases u<;>simp[cA,tf,bA]
@[go_sem] theorem YP(u:Option Addr):cA .neq .ptr (.pointer u) (.pointer none)=some (.bool (!u.isNone)):=by cases u<;>simp[cA,tf,bA]
@[go_sem] theorem Xk(u:Option Addr)(n c:Nat):cA .eql .VI (.slice u n c) (.slice none 0 0)=some (.bool u.isNone):=by cases u<;>simp[cA,tf,bA]
@[go_sem] theorem Xl(u:Option Addr)(n c:Nat):cA .neq .VI (.slice u n c) (.slice none 0 0)=some (.bool (!u.isNone)):=by cases u<;>simp[cA,tf,bA]
@[go_sem] theorem YQ(t:TypeId)(v:Value):cA .eql .YJ (.iface t v) .nilIface=some (.bool false):=by simp[cA,tf,bA]
@[go_sem] theorem YR(t:TypeId)(v:Value):cA .neq .YJ (.iface t v) .nilIface=some (.bool true):=by simp[cA,tf,bA]
@[go_sem] theorem Us(fs:List (Nat×Option Nat×Shape))(l l':List Value):cA .eql (.s fs) (.agg l.toArray) (.agg l'.toArray)=(Ct fs l l').map .bool:=by simp[cA,tf]
@[go_sem] theorem Ut(fs:List (Nat×Option Nat×Shape))(l l':List Value):cA .neq (.s fs) (.agg l.toArray) (.agg l'.toArray)=(Ct fs l l').map fun b=>.bool (!b):=by simp[cA,tf]
end
@[go_sem] theorem aba(b:Bool)(F:Bool→Prop):am (!b) F=am b fun t=>F (!t):=by cases b<;>rfl
def unF:UnOp→Value→Option Value
 | .neg,.int k n=>some (.int k (k.wrap (0 - n)))
 | .xor,.int k n=>some (.int k (k.wrap (BitVec.ofInt k.bits (if k.signed then -1 else k.max)^^^BitVec.ofInt k.bits n).toNat))
 | .not,.bool b=>some (.bool (!b))
 |_,_=>none
@[go_sem] theorem ac5(b:Bool):unF .not (.bool b)=some (.bool (!b)):=(rfl)
@[go_sem] theorem ac6(k:IntKind)(n:Int):unF .neg (.int k n)=some (.int k (k.wrap (0 - n))):=(rfl)
@[go_sem] theorem ac7(k:IntKind)(n:Int):unF .xor (.int k n)=some (.int k (k.wrap (BitVec.ofInt k.bits (if k.signed then -1 else k.max)^^^BitVec.ofInt k.bits n).toNat)):=(rfl)
def zv(v:Value)(F:Nat→Nat→Prop)(_t:Tag F:=⟨⟩):Prop:=match v with| .pointer (some ⟨b,o,none⟩)=>F b o|_=>False
@[go_sem] theorem ac8(b o:Nat)(F:Nat→Nat→Prop):zv (.pointer (some ⟨b,o,none⟩)) F=F b o:=(rfl)
theorem fM{v:Value}{F:Nat→Nat→Prop}(h:zv v F):∃b o,v= .pointer (some ⟨b,o,none⟩)∧F b o:=by
 unfold zv at h;split at h
 ·exact⟨_,_,rfl,h⟩
 ·exact h.elim
def Ep(v:Value)(F:Int→Prop)(_t:Tag F:=⟨⟩):Prop:=match v with| .int _ n=>F n|_=>False
@[go_sem] theorem ac9(k:IntKind)(n:Int)(F:Int→Prop):Ep (.int k n) F=F n:=(rfl)
theorem kF{v:Value}{F:Int→Prop}(h:Ep v F):∃k n,v= .int k n∧F n:=by
 unfold Ep at h;split at h
 ·exact⟨_,_,rfl,h⟩
 ·exact h.elim
def sm(v:Value)(F:Option Addr→Nat→Nat→Prop)(_t:Tag F:=⟨⟩):Prop:=match v with| .slice a n c=>F a n c|_=>False
@[go_sem] theorem YS(a:Option Addr)(n c:Nat)(F:Option Addr→Nat→Nat→Prop):sm (.slice a n c) F=F a n c:=(rfl)
theorem kG{v:Value}{F:Option Addr→Nat→Nat→Prop}(h:sm v F):∃a n c,v= .slice a n c∧F a n c:=by
 unfold sm at h;split at h
 ·exact⟨_,_,_,rfl,h⟩
 ·exact h.elim
def xC(a:Option Addr)(F:Nat→Nat→Prop)(_t:Tag F:=⟨⟩):Prop:=match a with|some ⟨b,o,none⟩=>F b o|_=>False
@[go_sem] theorem abc(b o:Nat)(F:Nat→Nat→Prop):xC (some ⟨b,o,none⟩) F=F b o:=(rfl)
theorem qF{a:Option Addr}{F:Nat→Nat→Prop}(h:xC a F):∃b o,a=some ⟨b,o,none⟩∧F b o:=by
 unfold xC at h;split at h
 ·exact⟨_,_,rfl,h⟩
 ·exact h.elim
def lU(v:Value)(F:ByteArray→Prop)(_t:Tag F:=⟨⟩):Prop:=match v with| .string s=>F s|_=>False
@[go_sem] theorem Xm(s:ByteArray)(F:ByteArray→Prop):lU (.string s) F=F s:=(rfl)
theorem pH{v:Value}{F:ByteArray→Prop}(h:lU v F):∃s,v= .string s∧F s:=by
 unfold lU at h;split at h
 ·exact⟨_,rfl,h⟩
 ·exact h.elim
def Ql(v:Value)(F:List Value→Prop)(_t:Tag F:=⟨⟩):Prop:=match v with| .tuple vs=>F vs.toList|_=>False
@[go_sem] theorem ada(l:List Value)(F:List Value→Prop):Ql (.tuple l.toArray) F=F l:=(rfl)
theorem Jn{v:Value}{F:List Value→Prop}(h:Ql v F):∃vs,v= .tuple vs∧F vs.toList:=by
 unfold Ql at h;split at h
 ·exact⟨_,rfl,h⟩
 ·exact h.elim
def Qm(v:Value)(F:List Value→Prop)(_t:Tag F:=⟨⟩):Prop:=match v with| .agg vs=>F vs.toList|_=>False
@[go_sem] theorem adb(l:List Value)(F:List Value→Prop):Qm (.agg l.toArray) F=F l:=(rfl)
theorem Jo{v:Value}{F:List Value→Prop}(h:Qm v F):∃vs,v= .agg vs∧F vs.toList:=by
 unfold Qm at h;split at h
 ·exact⟨_,rfl,h⟩
 ·exact h.elim
def Er(v:Value)(F:Option Nat→Prop)(_t:Tag F:=⟨⟩):Prop:=match v with| .map r=>F r|_=>False
@[go_sem] theorem ade(r:Option Nat)(F:Option Nat→Prop):Er (.map r) F=F r:=(rfl)
theorem mV{v:Value}{F:Option Nat→Prop}(h:Er v F):∃r,v= .map r∧F r:=by
 unfold Er at h;split at h
 ·exact⟨_,rfl,h⟩
 ·exact h.elim
def NQ(ev:Ev):List Operand→(List Value→Prop)→Prop
 | [],F=>F []
 |x::xs,F=>aE (ev x) fun v=>NQ ev xs fun vs=>F (v::vs)
@[go_sem ↓] theorem adf(ev:Ev)(F:List Value→Prop):NQ ev [] F=F []:=(rfl)
@[go_sem ↓] theorem abd(ev:Ev)(x:Operand)(xs:List Operand)(F:List Value→Prop):NQ ev (x::xs) F=aE (ev x) fun v=>NQ ev xs fun vs=>F (v::vs):=(rfl)
theorem nS{ev:Ev}{ρ:Operand→Value}(bH:∀x v,ev x=some v→ρ x=v):∀ {xs:List Operand} {F:List Value→Prop},NQ ev xs F→F (xs.map ρ):=by
 intro xs
 induction xs with
 |nil=>intro F h;exact h
 |cons x xs ih=>
  intro F h
  obtain⟨v,hv,h⟩:=aC h
  have:=ih h
  rw[List.map_cons,bH x v hv]
  exact this
def CY(ev:Ev):List Value→List (Nat×Nat×Operand)→(List Value→Prop)→Prop
 |z,[],K=>K z
 |z,(off,size,x)::r,K=>aE (ev x) fun v=>eC ((aJ v).length=size) (CY ev (bq z off (aJ v)) r K)
@[go_sem ↓] theorem YT(ev:Ev)(z:List Value)(K:List Value→Prop):CY ev z [] K=K z:=(rfl)
@[go_sem ↓] theorem Xn(ev:Ev)(z:List Value)(off size:Nat)(x:Operand)(r:List (Nat×Nat×Operand))(K:List Value→Prop):
  CY ev z ((off,size,x)::r) K=aE (ev x) fun v=>eC ((aJ v).length=size) (CY ev (bq z off (aJ v)) r K):=(rfl)
def cQ(z:List Value)(k:Nat):List Value:=(List.replicate k z).flatten
def ic(s:Shape)(k:Value):List MapEntry→Nat→Option (Option (Nat×Value))
 | [],_=>some none
 |e::es,i=>
  match tf s k e.key with
  |some true=>some (some (i,e.val))
  |some false=>ic s k es (i+1)
  |none=>none
def nh:Shape→Bool| .int| .str| .bool=>true|_=>false
def CI:Shape→Value→Bool
 | .int,.int _ _=>true
 | .str,.string _=>true
 | .bool,.bool _=>true
 | .s fs,.agg xs=>fs.all fun(off,agg,sh)=>agg.isNone && nh sh && (match sh,xs[off]? with| .int,some (.int _ _)=>true| .str,some (.string _)=>true| .bool,some (.bool _)=>true|_,_=>false)
 |_,_=>false
def zF(H:Hp)(s:Shape)(r:Option Nat)(k:Value)(F:Option Value→Prop)(_t:Tag F:=⟨⟩):Prop:=
 match r with
 |none=>F none
 |some b=>aE (H.mp b) fun m=>aE (ic s k m.1 0) fun x=>F (x.map (·.2))
def LO(es:List MapEntry)(x:Option (Nat×Value))(k v:Value)(clock:Nat):List MapEntry:=
 match x with
 |some (i,_)=>es.modify i fun e=>{e with key:=k,val:=v}
 |none=>es++[{key:=k,val:=v,born:=clock}]
def Kp(x:Option (Nat×Value))(clock:Nat):Nat:=match x with|some _=>clock|none=>clock+1
def FR(es:List MapEntry)(x:Option (Nat×Value))(k:Value):Bool:=
 match x with
 |some (i,_)=>Instr.sameBits 10000 (((es[i]?).map (·.key)).getD k) k
 |none=>true
@[go_sem] theorem Uu(es:List MapEntry)(k:Value):FR es none k=true:=(rfl)
def G9(es:List MapEntry)(x:Option (Nat×Value)):List MapEntry:=match x with|some (i,_)=>es.eraseIdx i|none=>es
def Sb(H:Hp)(s:Shape)(b:Nat)(k v:Value)(F:Hp→Prop)(_t:Tag F:=⟨⟩):Prop:=
 aE (H.mp b) fun es=>aE (ic s k es.1 0) fun x=>eC (FR es.1 x k=true) (F (H.Ey b (LO es.1 x k v es.2) (Kp x es.2)))
def Xo(H:Hp)(s:Shape)(b:Nat)(k:Value)(F:Hp→Prop)(_t:Tag F:=⟨⟩):Prop:=
 aE (H.mp b) fun es=>aE (ic s k es.1 0) fun x=>F (H.Ey b (G9 es.1 x) es.2)
def Xp(H:Hp)(z:List Value)(a:Option Addr)(n:Nat)(F:Hp→Prop)(_t:Tag F:=⟨⟩):Prop:=
 (n=0∧F H)∨(n≠0∧∃b o l,a=some ⟨b,o,none⟩∧Kg (H.own b) (H.C8 b)=some l∧jX (cQ z n)∧o+n*z.length≤l.length∧F (H.wr b (bq l o (cQ z n))))
@[go_sem] theorem YU(k:IntKind)(n:Int):CI .int (.int k n)=true:=(rfl)
@[go_sem] theorem YV(s:ByteArray):CI .str (.string s)=true:=(rfl)
def eV(P:Program)(f:FuncId):Bool:=match P.funcs[f]? with|some fn=>fn.name != "runtime.NumGoroutine" && fn.body.isSome|none=>false
def SN(P:Program)(H:Hp)(T:TypeId)(v:Value)(name:String)(f:FuncId)(rv:Value):Prop:=
 eV P f=true∧∀w,w.heap=H→(method (P.types.size+Made.depth) T v name).run P w= .ok (f,rv) w
def jf(P:Program)(recv:Value)(name:String)(args:List Value)(H:Hp)(K:Value→Hp→Prop)(_t:Tag K:=⟨⟩):Prop:=
 ∃T v f rv,recv= .iface T v∧SN P H T v name f rv∧ah P f (rv::args) H K
def Xq(P:Program)(fv:Value)(args:List Value)(H:Hp)(K:Value→Hp→Prop)(_t:Tag K:=⟨⟩):Prop:=
 match fv with
 | .func (.func f) first captured=>eV P f=true∧ah P f (first.toList++args++captured.toList) H K
 |_=>False
def Ui(P:Program)(f:FuncId)(vs:List Value)(H:Hp)(K:Value→Hp→Prop)(_t:Tag K:=⟨⟩):Prop:=∃v,(∀w,(callFunc f vs.toArray).run P w= .ok (.value v) w)∧K v H
theorem Ui.mk{P:Program}{f:FuncId}{vs:List Value}{H:Hp}{K:Value→Hp→Prop}{v:Value}(h:∀w,(callFunc f vs.toArray).run P w= .ok (.value v) w)(k:K v H):Ui P f vs H K:=⟨v,h,k⟩
def rowOf(H:Hp)(size:Nat)(v:Value)(F:Nat→List Value→Prop)(_t:Tag F:=⟨⟩):Prop:=
 match v with
 | .slice a n _=>G7 (n==0) (F 0 []) (xC a fun b o=>aE (H.rd b) fun l=>eC (o+n*size≤l.length) (F n ((l.drop o).take (n*size))))
 | .string s=>eC (size=1) (F s.size (s.data.toList.map fun b=>.int .u8 b.toNat))
 |_=>False
def lI(T size bytes:Nat)(z:List Value)(s x:Value)(H:Hp)(K:Value→Hp→Prop)(_t:Tag K:=⟨⟩):Prop:=
 sm s fun base n c=>rowOf H size x fun m new=>
  (n+m≤c→m=0→K (.slice base n c) H)∧
  (n+m≤c→m≠0→xC base fun b o=>aE (Kg (H.own b) (H.C8 b)) fun l=>eC (o+(n+m)*size≤l.length∧jX new) (K (.slice base (n+m) c) (H.wr b (bq l (o+n*size) new))))∧
  (c<n+m→Builtin.nextslicecap (n+m) c*bytes≤2^48∧
   rowOf H size s fun _ Sp=>∀c',n+m≤c'→K (.slice (some ⟨H.size,0,none⟩) (n+m) c') (H.new T (Sp++new++cQ z (c' - (n+m)))))
def SO(T:TypeId)(s:ByteArray)(H:Hp)(K:Value→Hp→Prop)(_t:Tag K:=⟨⟩):Prop:=
 ∀c,s.size≤c→K (.slice (some ⟨H.size,0,none⟩) s.size c) (H.NM T ((s.data.toList.map fun b=>.int .u8 b.toNat)++List.replicate (c - s.size) (.int .u8 0)))
def xY(T:TypeId)(v:Value)(F:Value→Prop)(_t:Tag F:=⟨⟩):Prop:=match v with| .iface t u=>eC (t=T) (F u)|_=>False
@[go_sem] theorem Xr(T t:TypeId)(u:Value)(F:Value→Prop):xY T (.iface t u) F=eC (t=T) (F u):=(rfl)
def NR(v:Value)(F:Bool→Prop)(_t:Tag F:=⟨⟩):Prop:=match v with| .nilIface=>F true| .iface _ _=>F false|_=>False
@[go_sem] theorem abe(F:Bool→Prop):NR .nilIface F=F true:=(rfl)
@[go_sem] theorem adg(t:TypeId)(u:Value)(F:Bool→Prop):NR (.iface t u) F=F false:=(rfl)
theorem Jp{v:Value}{F:Bool→Prop}(h:NR v F):(v= .nilIface∧F true)∨∃t u,v= .iface t u∧F false:=by
 unfold NR at h;split at h
 ·exact .inl ⟨rfl,h⟩
 ·exact .inr ⟨_,_,rfl,h⟩
 ·exact h.elim
def NS(neg b:Bool):Bool:=bif neg then !b else b
@[go_sem] theorem adh:NS false false=false:=(rfl)
@[go_sem] theorem adi:NS false true=true:=(rfl)
@[go_sem] theorem adj:NS true false=true:=(rfl)
@[go_sem] theorem adk:NS true true=false:=(rfl)
theorem CZ{T:TypeId}{v:Value}{F:Value→Prop}(h:xY T v F):∃u,v= .iface T u∧F u:=by
 unfold xY at h;split at h
 ·obtain⟨rfl,h⟩:=h;exact⟨_,rfl,h⟩
 ·exact h.elim
def bytesOf:List Value→Option (List UInt8)
 | []=>some []
 | .int .u8 n::r=>(bytesOf r).map (UInt8.ofNat n.toNat:: ·)
 |_::_=>none
@[go_sem] theorem Vp:bytesOf []=some []:=(rfl)
@[go_sem] theorem Uv(n:Int)(r:List Value):bytesOf (.int .u8 n::r)=(bytesOf r).map (UInt8.ofNat n.toNat:: ·):=(rfl)
def xG(H:Hp)(v:Value)(F:List UInt8→Prop)(_t:Tag F:=⟨⟩):Prop:=
 match v with
 | .slice a n c=>rowOf H 1 (.slice a n c) fun _ l=>aE (bytesOf l) F
 |_=>False
@[go_sem] theorem YW(H:Hp)(a:Option Addr)(n c:Nat)(F:List UInt8→Prop):xG H (.slice a n c) F=rowOf H 1 (.slice a n c) fun _ l=>aE (bytesOf l) F:=(rfl)
inductive dc where
 |di(x:Operand)
 |pick(c a b:Operand)
 |box(T:TypeId)(x:Operand)
 |zero(T:TypeId)(l:List Value)
 |build(z:List Value)(parts:List (Nat×Nat×Operand))
 |lit(T:TypeId)(n:Nat)(z:List Value)(parts:List (Nat×Nat×Operand))
 |gC(x:Operand)
 |uR(n:Nat)(x:Operand)
 |store(n:Nat)(x v:Operand)
 |nilCheck(x:Operand)
 |aD(op:BinOp)(s:Shape)(x y:Operand)
 |un(op:UnOp)(x:Operand)
 |conv(k:IntKind)(x:Operand)
 |iface(T:TypeId)(x:Operand)
 |func(fn:Fn)(first captured:List Operand)
 |Ah
 |makeSlice(T bytes size:Nat)(z:List Value)(n c:Operand)
 |slice(size:Nat)(x:Operand)(lo hi mx:Option Operand)
 |Kq(x:Operand)(lo hi:Option Operand)
 |fieldAddr(off:Nat)(x:Operand)
 |field(off:Nat)(agg:Option Nat)(x:Operand)
 |indexAddr(size:Nat)(x i:Operand)
 |dB(len size:Nat)(x i:Operand)
 |Ks(x i:Operand)
 |lookup(s:Shape)(z:Value)(ok:Bool)(m k:Operand)
 |update(s:Shape)(m k v:Operand)
 |extract(i:Nat)(x:Operand)
 |call(f:FuncId)(args:List Operand)
 |dyn(f:Operand)(args:List Operand)
 |invoke(r:Operand)(name:String)(args:List Operand)
 |bz(x:Operand)
 |Uw(x:Operand)
 |Ux(x:Operand)
 |append(T size bytes:Nat)(z:List Value)(x y:Operand)
 |delete(s:Shape)(m k:Operand)
 |JO(z:List Value)(x:Operand)
 |Uy(args:List Operand)
 |Pb(args:List Operand)
 |Ga(T:TypeId)(x:Operand)
 |Uz(neg:Bool)(x:Operand)
 |OY(x:Operand)
 |Kt(T:TypeId)(x:Operand)
 |ext(f:FuncId)(args:List Operand)
 deriving Inhabited
def gz(P:Program)(t:TypeId):Option Value:=(P.info? t).bind (·.zero)
def fC:Nat:=8
def ni(place:Nat→Option (Nat×Nat))(Ku:Nat):List (Nat×Operand)→Option (List (Nat×Nat×Operand))
 | []=>some []
 | (i,x)::r=>
  match place i with
  |none=>none
  |some (off,size)=>if off+size≤Ku then(ni place Ku r).map ((off,size,x):: ·)else none
def L9(P:Program)(fs:Array Field):Bool:=fs.all fun f=>(P.info? f.type).isSome
def placeOf(P:Program)(fs:Array Field):Array (Nat×Nat):=fs.map fun f=>(f.offset,P.cellsOf f.type)
def parts(P:Program)(t:TypeId)(Ku:Nat)(ps:List (Nat×Operand)):Option (List (Nat×Nat×Operand)):=
 match P.underlying t with
 |some (.struct fields)=>if L9 P fields then ni ((placeOf P fields)[·]?) Ku ps else none
 |some (.array _ e)=>if(P.info? e).isSome then ni (fun i=>some (i*P.cellsOf e,P.cellsOf e)) Ku ps else none
 |_=>none
end Go.Vc
