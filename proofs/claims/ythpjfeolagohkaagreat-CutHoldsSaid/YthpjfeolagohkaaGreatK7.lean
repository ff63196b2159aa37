/- Texts put behind each other. -/
import Derived.Test.YthpjfeolagohkaaGreatK98
import Derived.Test.YthpjfeolagohkaaGreatK5
import Derived.Laws.StructEq
set_option maxRecDepth 100000
set_option maxHeartbeats 8000000
set_option linter.unusedVariables false
namespace Go.Vc
attribute [go_sem] aqx arh aqE aq6 arv aqU asi List.drop_succ_cons
  List.take_zero List.take_succ_cons ark ars arx aqa
abbrev Ev:=Operand→Option Value
inductive Shape where
 |int|str|bool|ptr|XX|mp|fn|ifc
 |s(fs:List (Nat×Option Nat×Shape))
 deriving Inhabited
def bE:Shape→Value→Value→Option Bool
 | .int,.int k a,.int k' b=>if k=k' then some (decide (a=b))else none
 | .str,.string a,.string b=>some (a.toList==b.toList)
 | .bool,.bool a,.bool b=>some (a==b)
 | .ptr,.pointer none,.pointer b=>some b.isNone
 | .ptr,.pointer (some _),.pointer none=>some false
 | .XX,.slice none _ _,.slice b _ _=>some b.isNone
 | .XX,.slice (some _) _ _,.slice none _ _=>some false
 | .mp,.map none,.map b=>some b.isNone
 | .mp,.map (some _),.map none=>some false
 | .fn,.nilFunc,.nilFunc=>some true
 | .fn,.func ..,.nilFunc=>some false
 | .fn,.nilFunc,.func .. =>some false
 | .ifc,.nilIface,.iface .. =>some false
 | .ifc,.iface ..,.nilIface=>some false
 |_,_,_=>none
def tE(l:List Value)(off:Nat)(agg:Option Nat):Option Value:=
 match agg with
 |some n=>if off+n≤l.length then some (.agg ((l.drop off).take n).toArray)else none
 |none=>l[off]?
@[go_sem] theorem O0(l:List Value)(off:Nat):tE l off none=l[off]? :=(rfl)
@[go_sem] theorem ZU(l:List Value)(off n:Nat):tE l off (some n)=if off+n≤l.length then some (.agg ((l.drop off).take n).toArray)else none:=(rfl)
mutual
def rG:Shape→Value→Value→Option Bool
 | .s fs,.agg xs,.agg ys=>Fj fs xs.toList ys.toList
 |sh,x,y=>bE sh x y
def Fj:List (Nat×Option Nat×Shape)→List Value→List Value→Option Bool
 | [],_,_=>some true
 | (off,agg,sh)::fs,xs,ys=>
  match tE xs off agg with
  |none=>none
  |some x=>
   match tE ys off agg with
   |none=>none
   |some y=>
    match rG sh x y with
    |some true=>Fj fs xs ys
    |some false=>some false
    |none=>none
end
def fy(P:Program)(t:TypeId):Bool:=match P.underlying t with|some (.struct _)|some (.array _ _)=>true|_=>false
def AE(P:Program)(sh:TypeId→Option Shape):List Field→Option (List (Nat×Option Nat×Shape))
 | []=>some []
 |f::fs=>
  if f.name= "_" then none else
  match sh f.type with
  |none=>none
  |some s=>(AE P sh fs).map ((f.offset,(if fy P f.type then some (P.cellsOf f.type)else none),s):: ·)
def shapeOf(P:Program):Nat→TypeId→Option Shape
 |0,_=>none
 |d+1,t=>
  match P.underlying t with
  |some (.int _)=>some .int
  |some .string=>some .str
  |some .bool=>some .bool
  |some (.pointer _)=>some .ptr
  |some (.slice _)=>some .XX
  |some (.map _ _)=>some .mp
  |some (.func _ _ _)=>some .fn
  |some (.interface _)=>some .ifc
  |some (.struct fs)=>if P.stoodInHeld t then none else(AE P (shapeOf P d) fs.toList).map .s
  |_=>none
def fK(P:Program)(d:Nat)(fs:List Field):Option (List (Nat×Option Nat×Shape)):=AE P (shapeOf P d) fs
theorem CC(P:Program)(d:Nat):fK P d []=some []:=rfl
theorem qa(P:Program)(d:Nat)(f:Field)(fs:List Field):fK P d (f::fs)=
  if f.name= "_" then none else
  match shapeOf P d f.type with
  |none=>none
  |some s=>(fK P d fs).map ((f.offset,(if fy P f.type then some (P.cellsOf f.type)else none),s):: ·):=rfl
theorem gD(P:Program)(d:Nat)(t:TypeId):shapeOf P (d+1) t=
  match P.underlying t with
  |some (.int _)=>some .int
  |some .string=>some .str
  |some .bool=>some .bool
  |some (.pointer _)=>some .ptr
  |some (.slice _)=>some .XX
  |some (.map _ _)=>some .mp
  |some (.func _ _ _)=>some .fn
  |some (.interface _)=>some .ifc
  |some (.struct fs)=>if P.stoodInHeld t then none else(fK P d fs.toList).map .s
  |_=>none:=rfl
def cB(op:BinOp)(s:Shape):Value→Value→Option Value
 | .int k a,.int k' b=>
  match op with
  | .shl=>if b<0 then none else some (.int k (k.wrap (a*2^ (min b.toNat k.bits))))
  | .shr=>if b<0 then none else some (.int k (a.fdiv (2^ (min b.toNat k.bits))))
  |_=>
   if k≠k' then none else
   match op with
   | .add=>some (.int k (k.wrap (a+b)))
   | .sub=>some (.int k (k.wrap (a - b)))
   | .mul=>some (.int k (k.wrap (a*b)))
   | .quo=>if b=0 then none else some (.int k (k.wrap (a.tdiv b)))
   | .rem=>if b=0 then none else some (.int k (a.tmod b))
   | .and=>some (.int k (k.wrap (BitVec.ofInt k.bits a &&& BitVec.ofInt k.bits b).toNat))
   | .or=>some (.int k (k.wrap (BitVec.ofInt k.bits a |||BitVec.ofInt k.bits b).toNat))
   | .xor=>some (.int k (k.wrap (BitVec.ofInt k.bits a^^^BitVec.ofInt k.bits b).toNat))
   | .andNot=>some (.int k (k.wrap (BitVec.ofInt k.bits a &&& ~~~ BitVec.ofInt k.bits b).toNat))
   | .eql=>some (.bool (decide (a=b)))
   | .neq=>some (.bool (!decide (a=b)))
   | .lss=>some (.bool (decide (a<b)))
   | .leq=>some (.bool (decide (a≤b)))
   | .gtr=>some (.bool (decide (a>b)))
   | .geq=>some (.bool (decide (a≥b)))
   |_=>none
 | .string x,.string y=>
  match op with
  | .add=>if((x.size+y.size:Nat):Int)>IntKind.i64.max then none else some (.string (x++y))
  | .eql=>some (.bool (x.toList==y.toList))
  | .neq=>some (.bool (!(x.toList==y.toList)))
  | .lss=>some (.bool (Op.bytesLess x.toList y.toList))
  | .leq=>some (.bool (Op.bytesLess x.toList y.toList || x.toList==y.toList))
  | .gtr=>some (.bool (!(Op.bytesLess x.toList y.toList || x.toList==y.toList)))
  | .geq=>some (.bool (!Op.bytesLess x.toList y.toList))
  |_=>none
 |x,y=>
  match op with
  | .eql=>(rG s x y).map .bool
  | .neq=>(rG s x y).map fun b=>.bool (!b)
  |_=>none
section
variable (s : Shape) (k : IntKind) (a b : Int)
@[go_sem] theorem aee:cB .add s (.int k a) (.int k b)=some (.int k (k.wrap (a+b))):=by simp[cB]
@[go_sem] theorem aef:cB .sub s (.int k a) (.int k b)=some (.int k (k.wrap (a - b))):=by simp[cB]
@[go_sem] theorem aeg:cB .mul s (.int k a) (.int k b)=some (.int k (k.wrap (a*b))):=by simp[cB]
@[go_sem] theorem aeh:cB .quo s (.int k a) (.int k b)=if b=0 then none else some (.int k (k.wrap (a.tdiv b))):=by simp[cB]
@[go_sem] theorem aei:cB .rem s (.int k a) (.int k b)=if b=0 then none else some (.int k (a.tmod b)):=by simp[cB]
@[go_sem] theorem aej:cB .eql s (.int k a) (.int k b)=some (.bool (decide (a=b))):=by simp[cB]
@[go_sem] theorem aek:cB .neq s (.int k a) (.int k b)=some (.bool (!decide (a=b))):=by simp[cB]
@[go_sem] theorem ael:cB .lss s (.int k a) (.int k b)=some (.bool (decide (a<b))):=by simp[cB]
@[go_sem] theorem aem:cB .leq s (.int k a) (.int k b)=some (.bool (decide (a≤b))):=by simp[cB]
@[go_sem] theorem aen:cB .gtr s (.int k a) (.int k b)=some (.bool (decide (a>b))):=by simp[cB]
@[go_sem] theorem aeo:cB .geq s (.int k a) (.int k b)=some (.bool (decide (a≥b))):=by simp[cB]
@[go_sem] theorem aep:cB .and s (.int k a) (.int k b)=some (.int k (k.wrap (BitVec.ofInt k.bits a &&& BitVec.ofInt k.bits b).toNat)):=by simp[cB]
@[go_sem] theorem af7:cB .or s (.int k a) (.int k b)=some (.int k (k.wrap (BitVec.ofInt k.bits a |||BitVec.ofInt k.bits b).toNat)):=by simp[cB]
@[go_sem] theorem aeq:cB .xor s (.int k a) (.int k b)=some (.int k (k.wrap (BitVec.ofInt k.bits a^^^BitVec.ofInt k.bits b).toNat)):=by simp[cB]
@[go_sem] theorem aer(k':IntKind):cB .shl s (.int k a) (.int k' b)=if b<0 then none else some (.int k (k.wrap (a*2^ (min b.toNat k.bits)))):=by simp[cB]
@[go_sem] theorem aes(k':IntKind):cB .shr s (.int k a) (.int k' b)=if b<0 then none else some (.int k (a.fdiv (2^ (min b.toNat k.bits)))):=by simp[cB]
variable (x y : ByteArray)
@[go_sem] theorem aet:cB .add s (.string x) (.string y)=if((x.size+y.size:Nat):Int)>IntKind.i64.max then none else some (.string (x++y)):=by simp[cB]
@[go_sem] theorem aaW:cB .eql s (.string x) (.string y)=some (.bool (x.toList==y.toList)):=by simp[cB]
@[go_sem] theorem aaX:cB .neq s (.string x) (.string y)=some (.bool (!(x.toList==y.toList))):=by simp[cB]
@[go_sem] theorem aaY(u v:Bool):cB .eql .bool (.bool u) (.bool v)=some (.bool (u==v)):=by simp[cB,rG,bE]
@[go_sem] theorem aaZ(u v:Bool):cB .neq .bool (.bool u) (.bool v)=some (.bool (!(u==v))):=by simp[cB,rG,bE]
@[go_sem] theorem aa0(u:Option Addr):cB .eql .ptr (.pointer u) (.pointer none)=some (.bool u.isNone):=by cases u<;>simp[cB,rG,bE]
@[go_sem] theorem aa1(u:Option Addr):cB .neq .ptr (.pointer u) (.pointer none)=some (.bool (!u.isNone)):=by cases u<;>simp[cB,rG,bE]
@[go_sem] theorem ZV(u:Option Addr)(n c:Nat):cB .eql .XX (.slice u n c) (.slice none 0 0)=some (.bool u.isNone):=by cases u<;>simp[cB,rG,bE]
@[go_sem] theorem ZW(u:Option Addr)(n c:Nat):cB .neq .XX (.slice u n c) (.slice none 0 0)=some (.bool (!u.isNone)):=by cases u<;>simp[cB,rG,bE]
@[go_sem] theorem aa2(t:TypeId)(v:Value):cB .eql .ifc (.iface t v) .nilIface=some (.bool false):=by simp[cB,rG,bE]
@[go_sem] theorem aa3(t:TypeId)(v:Value):cB .neq .ifc (.iface t v) .nilIface=some (.bool true):=by simp[cB,rG,bE]
@[go_sem] theorem Wf(fs:List (Nat×Option Nat×Shape))(l l':List Value):cB .eql (.s fs) (.agg l.toArray) (.agg l'.toArray)=(Fj fs l l').map .bool:=by simp[cB,rG]
@[go_sem] theorem Wg(fs:List (Nat×Option Nat×Shape))(l l':List Value):cB .neq (.s fs) (.agg l.toArray) (.agg l'.toArray)=(Fj fs l l').map fun b=>.bool (!b):=by simp[cB,rG]
end
@[go_sem] theorem aeu(b:Bool)(F:Bool→Prop):ar (!b) F=ar b fun t=>F (!t):=by cases b<;>rfl
def unF:UnOp→Value→Option Value
 | .neg,.int k n=>some (.int k (k.wrap (0 - n)))
 | .xor,.int k n=>some (.int k (k.wrap (BitVec.ofInt k.bits (if k.signed then -1 else k.max)^^^BitVec.ofInt k.bits n).toNat))
 | .not,.bool b=>some (.bool (!b))
 |_,_=>none
@[go_sem] theorem af8(b:Bool):unF .not (.bool b)=some (.bool (!b)):=(rfl)
@[go_sem] theorem af9(k:IntKind)(n:Int):unF .neg (.int k n)=some (.int k (k.wrap (0 - n))):=(rfl)
@[go_sem] theorem aga(k:IntKind)(n:Int):unF .xor (.int k n)=some (.int k (k.wrap (BitVec.ofInt k.bits (if k.signed then -1 else k.max)^^^BitVec.ofInt k.bits n).toNat)):=(rfl)
def wQ(v:Value)(F:Nat→Nat→Prop)(_t:Tag F:=⟨⟩):Prop:=match v with| .pointer (some ⟨b,o,none⟩)=>F b o|_=>False
@[go_sem] theorem agb(b o:Nat)(F:Nat→Nat→Prop):wQ (.pointer (some ⟨b,o,none⟩)) F=F b o:=(rfl)
theorem fL{v:Value}{F:Nat→Nat→Prop}(h:wQ v F):∃b o,v= .pointer (some ⟨b,o,none⟩)∧F b o:=by
 unfold wQ at h;split at h
 ·exact⟨_,_,rfl,h⟩
 ·exact h.elim
def CO(v:Value)(F:Int→Prop)(_t:Tag F:=⟨⟩):Prop:=match v with| .int _ n=>F n|_=>False
@[go_sem] theorem agc(k:IntKind)(n:Int)(F:Int→Prop):CO (.int k n) F=F n:=(rfl)
theorem iA{v:Value}{F:Int→Prop}(h:CO v F):∃k n,v= .int k n∧F n:=by
 unfold CO at h;split at h
 ·exact⟨_,_,rfl,h⟩
 ·exact h.elim
def pA(v:Value)(F:Option Addr→Nat→Nat→Prop)(_t:Tag F:=⟨⟩):Prop:=match v with| .slice a n c=>F a n c|_=>False
@[go_sem] theorem aa4(a:Option Addr)(n c:Nat)(F:Option Addr→Nat→Nat→Prop):pA (.slice a n c) F=F a n c:=(rfl)
theorem iz{v:Value}{F:Option Addr→Nat→Nat→Prop}(h:pA v F):∃a n c,v= .slice a n c∧F a n c:=by
 unfold pA at h;split at h
 ·exact⟨_,_,_,rfl,h⟩
 ·exact h.elim
def uQ(a:Option Addr)(F:Nat→Nat→Prop)(_t:Tag F:=⟨⟩):Prop:=match a with|some ⟨b,o,none⟩=>F b o|_=>False
@[go_sem] theorem aew(b o:Nat)(F:Nat→Nat→Prop):uQ (some ⟨b,o,none⟩) F=F b o:=(rfl)
theorem nu{a:Option Addr}{F:Nat→Nat→Prop}(h:uQ a F):∃b o,a=some ⟨b,o,none⟩∧F b o:=by
 unfold uQ at h;split at h
 ·exact⟨_,_,rfl,h⟩
 ·exact h.elim
def iU(v:Value)(F:ByteArray→Prop)(_t:Tag F:=⟨⟩):Prop:=match v with| .string s=>F s|_=>False
@[go_sem] theorem ZX(s:ByteArray)(F:ByteArray→Prop):iU (.string s) F=F s:=(rfl)
theorem mN{v:Value}{F:ByteArray→Prop}(h:iU v F):∃s,v= .string s∧F s:=by
 unfold iU at h;split at h
 ·exact⟨_,rfl,h⟩
 ·exact h.elim
def Qs(v:Value)(F:List Value→Prop)(_t:Tag F:=⟨⟩):Prop:=match v with| .tuple vs=>F vs.toList|_=>False
@[go_sem] theorem agd(l:List Value)(F:List Value→Prop):Qs (.tuple l.toArray) F=F l:=(rfl)
theorem Jp{v:Value}{F:List Value→Prop}(h:Qs v F):∃vs,v= .tuple vs∧F vs.toList:=by
 unfold Qs at h;split at h
 ·exact⟨_,rfl,h⟩
 ·exact h.elim
def Qu(v:Value)(F:List Value→Prop)(_t:Tag F:=⟨⟩):Prop:=match v with| .agg vs=>F vs.toList|_=>False
@[go_sem] theorem age(l:List Value)(F:List Value→Prop):Qu (.agg l.toArray) F=F l:=(rfl)
theorem Jq{v:Value}{F:List Value→Prop}(h:Qu v F):∃vs,v= .agg vs∧F vs.toList:=by
 unfold Qu at h;split at h
 ·exact⟨_,rfl,h⟩
 ·exact h.elim
def CP(v:Value)(F:Option Nat→Prop)(_t:Tag F:=⟨⟩):Prop:=match v with| .map r=>F r|_=>False
@[go_sem] theorem agf(r:Option Nat)(F:Option Nat→Prop):CP (.map r) F=F r:=(rfl)
theorem j0{v:Value}{F:Option Nat→Prop}(h:CP v F):∃r,v= .map r∧F r:=by
 unfold CP at h;split at h
 ·exact⟨_,rfl,h⟩
 ·exact h.elim
def NN(ev:Ev):List Operand→(List Value→Prop)→Prop
 | [],F=>F []
 |x::xs,F=>aE (ev x) fun v=>NN ev xs fun vs=>F (v::vs)
@[go_sem ↓] theorem agh(ev:Ev)(F:List Value→Prop):NN ev [] F=F []:=(rfl)
@[go_sem ↓] theorem aex(ev:Ev)(x:Operand)(xs:List Operand)(F:List Value→Prop):NN ev (x::xs) F=aE (ev x) fun v=>NN ev xs fun vs=>F (v::vs):=(rfl)
theorem kL{ev:Ev}{ρ:Operand→Value}(bJ:∀x v,ev x=some v→ρ x=v):∀ {xs:List Operand} {F:List Value→Prop},NN ev xs F→F (xs.map ρ):=by
 intro xs
 induction xs with
 |nil=>intro F h;exact h
 |cons x xs ih=>
  intro F h
  obtain⟨v,hv,h⟩:=aD h
  have:=ih h
  rw[aqY,bJ x v hv]
  exact this
def AT(ev:Ev):List Value→List (Nat×Nat×Operand)→(List Value→Prop)→Prop
 |z,[],K=>K z
 |z,(off,size,x)::r,K=>aE (ev x) fun v=>dO ((aH v).length=size) (AT ev (bh z off (aH v)) r K)
@[go_sem ↓] theorem aa5(ev:Ev)(z:List Value)(K:List Value→Prop):AT ev z [] K=K z:=(rfl)
@[go_sem ↓] theorem ZY(ev:Ev)(z:List Value)(off size:Nat)(x:Operand)(r:List (Nat×Nat×Operand))(K:List Value→Prop):
  AT ev z ((off,size,x)::r) K=aE (ev x) fun v=>dO ((aH v).length=size) (AT ev (bh z off (aH v)) r K):=(rfl)
def aV(z:List Value)(k:Nat):List Value:=(List.replicate k z).flatten
def fV(s:Shape)(k:Value):List MapEntry→Nat→Option (Option (Nat×Value))
 | [],_=>some none
 |e::es,i=>
  match rG s k e.key with
  |some true=>some (some (i,e.val))
  |some false=>fV s k es (i+1)
  |none=>none
def kF:Shape→Bool| .int| .str| .bool=>true|_=>false
def Co:Shape→Value→Bool
 | .int,.int _ _=>true
 | .str,.string _=>true
 | .bool,.bool _=>true
 | .s fs,.agg xs=>fs.all fun(off,agg,sh)=>agg.isNone && kF sh && (match sh,xs[off]? with| .int,some (.int _ _)=>true| .str,some (.string _)=>true| .bool,some (.bool _)=>true|_,_=>false)
 |_,_=>false
def yo(H:Hp)(s:Shape)(r:Option Nat)(k:Value)(F:Option Value→Prop)(_t:Tag F:=⟨⟩):Prop:=
 match r with
 |none=>F none
 |some b=>aE (H.mp b) fun m=>aE (fV s k m.1 0) fun x=>F (x.map (·.2))
def Lz(es:List MapEntry)(x:Option (Nat×Value))(k v:Value)(clock:Nat):List MapEntry:=
 match x with
 |some (i,_)=>es.modify i fun e=>{e with key:=k,val:=v}
 |none=>es++[{key:=k,val:=v,born:=clock}]
def J2(x:Option (Nat×Value))(clock:Nat):Nat:=match x with|some _=>clock|none=>clock+1
def FI(es:List MapEntry)(x:Option (Nat×Value))(k:Value):Bool:=
 match x with
 |some (i,_)=>Instr.sameBits 10000 (((es[i]?).map (·.key)).getD k) k
 |none=>true
@[go_sem] theorem Wh(es:List MapEntry)(k:Value):FI es none k=true:=(rfl)
def F7(es:List MapEntry)(x:Option (Nat×Value)):List MapEntry:=match x with|some (i,_)=>es.eraseIdx i|none=>es
def Sg(H:Hp)(s:Shape)(b:Nat)(k v:Value)(F:Hp→Prop)(_t:Tag F:=⟨⟩):Prop:=
 aE (H.mp b) fun es=>aE (fV s k es.1 0) fun x=>dO (FI es.1 x k=true) (F (H.Ei b (Lz es.1 x k v es.2) (J2 x es.2)))
def XW(H:Hp)(s:Shape)(b:Nat)(k:Value)(F:Hp→Prop)(_t:Tag F:=⟨⟩):Prop:=
 aE (H.mp b) fun es=>aE (fV s k es.1 0) fun x=>F (H.Ei b (F7 es.1 x) es.2)
def ZZ(H:Hp)(z:List Value)(a:Option Addr)(n:Nat)(F:Hp→Prop)(_t:Tag F:=⟨⟩):Prop:=
 (n=0∧F H)∨(n≠0∧∃b o l,a=some ⟨b,o,none⟩∧Kb (H.own b) (H.CG b)=some l∧gJ (aV z n)∧o+n*z.length≤l.length∧F (H.wr b (bh l o (aV z n))))
@[go_sem] theorem aa6(k:IntKind)(n:Int):Co .int (.int k n)=true:=(rfl)
@[go_sem] theorem aa7(s:ByteArray):Co .str (.string s)=true:=(rfl)
def dN(P:Program)(f:FuncId):Bool:=match P.funcs[f]? with|some fn=>fn.name != "runtime.NumGoroutine" && fn.body.isSome|none=>false
def Si(P:Program)(H:Hp)(T:TypeId)(v:Value)(name:String)(f:FuncId)(rv:Value):Prop:=
 dN P f=true∧∀w,w.heap=H→(method (P.types.size+Made.depth) T v name).run P w= .ok (f,rv) w
def gQ(P:Program)(recv:Value)(name:String)(args:List Value)(H:Hp)(K:Value→Hp→Prop)(_t:Tag K:=⟨⟩):Prop:=
 ∃T v f rv,recv= .iface T v∧Si P H T v name f rv∧af P f (rv::args) H K
def XG(P:Program)(fv:Value)(args:List Value)(H:Hp)(K:Value→Hp→Prop)(_t:Tag K:=⟨⟩):Prop:=
 match fv with
 | .func (.func f) first captured=>dN P f=true∧af P f (first.toList++args++captured.toList) H K
 |_=>False
def ajb(P:Program)(f:FuncId)(vs:List Value)(H:Hp)(K:Value→Hp→Prop)(_t:Tag K:=⟨⟩):Prop:=∃v,(∀w,(callFunc f vs.toArray).run P w= .ok (.value v) w)∧K v H
def rowOf(H:Hp)(size:Nat)(v:Value)(F:Nat→List Value→Prop)(_t:Tag F:=⟨⟩):Prop:=
 match v with
 | .slice a n _=>Gg (n==0) (F 0 []) (uQ a fun b o=>aE (H.rd b) fun l=>dO (o+n*size≤l.length) (F n ((l.drop o).take (n*size))))
 | .string s=>dO (size=1) (F s.size (s.data.toList.map fun b=>.int .u8 b.toNat))
 |_=>False
def fA(T size bytes:Nat)(z:List Value)(s x:Value)(H:Hp)(K:Value→Hp→Prop)(_t:Tag K:=⟨⟩):Prop:=
 pA s fun base n c=>rowOf H size x fun m new=>
  (n+m≤c→m=0→K (.slice base n c) H)∧
  (n+m≤c→m≠0→uQ base fun b o=>aE (Kb (H.own b) (H.CG b)) fun l=>dO (o+(n+m)*size≤l.length∧gJ new) (K (.slice base (n+m) c) (H.wr b (bh l (o+n*size) new))))∧
  (c<n+m→Builtin.nextslicecap (n+m) c*bytes≤2^48∧
   rowOf H size s fun _ R6=>∀c',n+m≤c'→K (.slice (some ⟨H.size,0,none⟩) (n+m) c') (H.new T (R6++new++aV z (c' - (n+m)))))
def T5(T:TypeId)(s:ByteArray)(H:Hp)(K:Value→Hp→Prop)(_t:Tag K:=⟨⟩):Prop:=
 ∀c,s.size≤c→K (.slice (some ⟨H.size,0,none⟩) s.size c) (H.NC T ((s.data.toList.map fun b=>.int .u8 b.toNat)++List.replicate (c - s.size) (.int .u8 0)))
def wz(T:TypeId)(v:Value)(F:Value→Prop)(_t:Tag F:=⟨⟩):Prop:=match v with| .iface t u=>dO (t=T) (F u)|_=>False
@[go_sem] theorem Z0(T t:TypeId)(u:Value)(F:Value→Prop):wz T (.iface t u) F=dO (t=T) (F u):=(rfl)
def NO(v:Value)(F:Bool→Prop)(_t:Tag F:=⟨⟩):Prop:=match v with| .nilIface=>F true| .iface _ _=>F false|_=>False
@[go_sem] theorem aey(F:Bool→Prop):NO .nilIface F=F true:=(rfl)
@[go_sem] theorem agi(t:TypeId)(u:Value)(F:Bool→Prop):NO (.iface t u) F=F false:=(rfl)
theorem Jr{v:Value}{F:Bool→Prop}(h:NO v F):(v= .nilIface∧F true)∨∃t u,v= .iface t u∧F false:=by
 unfold NO at h;split at h
 ·exact .inl ⟨rfl,h⟩
 ·exact .inr ⟨_,_,rfl,h⟩
 ·exact h.elim
def Pf(neg b:Bool):Bool:=bif neg then !b else b
@[go_sem] theorem agj:Pf false false=false:=(rfl)
@[go_sem] theorem agk:Pf false true=true:=(rfl)
@[go_sem] theorem agl:Pf true false=true:=(rfl)
@[go_sem] theorem agm:Pf true true=false:=(rfl)
theorem AU{T:TypeId}{v:Value}{F:Value→Prop}(h:wz T v F):∃u,v= .iface T u∧F u:=by
 unfold wz at h;split at h
 ·obtain⟨rfl,h⟩:=h;exact⟨_,rfl,h⟩
 ·exact h.elim
def bytesOf:List Value→Option (List UInt8)
 | []=>some []
 | .int .u8 n::r=>(bytesOf r).map (UInt8.ofNat n.toNat:: ·)
 |_::_=>none
@[go_sem] theorem W5:bytesOf []=some []:=(rfl)
@[go_sem] theorem Wi(n:Int)(r:List Value):bytesOf (.int .u8 n::r)=(bytesOf r).map (UInt8.ofNat n.toNat:: ·):=(rfl)
def uP(H:Hp)(v:Value)(F:List UInt8→Prop)(_t:Tag F:=⟨⟩):Prop:=
 match v with
 | .slice a n c=>rowOf H 1 (.slice a n c) fun _ l=>aE (bytesOf l) F
 |_=>False
@[go_sem] theorem aa8(H:Hp)(a:Option Addr)(n c:Nat)(F:List UInt8→Prop):uP H (.slice a n c) F=rowOf H 1 (.slice a n c) fun _ l=>aE (bytesOf l) F:=(rfl)
inductive dw where
 |ak(x:Operand)
 |pick(c a b:Operand)
 |box(T:TypeId)(x:Operand)
 |zero(T:TypeId)(l:List Value)
 |build(z:List Value)(parts:List (Nat×Nat×Operand))
 |lit(T:TypeId)(n:Nat)(z:List Value)(parts:List (Nat×Nat×Operand))
 |aj(x:Operand)
 |cJ(n:Nat)(x:Operand)
 |store(n:Nat)(x v:Operand)
 |nilCheck(x:Operand)
 |fj(op:BinOp)(s:Shape)(x y:Operand)
 |un(op:UnOp)(x:Operand)
 |conv(k:IntKind)(x:Operand)
 |iface(T:TypeId)(x:Operand)
 |func(fn:Fn)(first captured:List Operand)
 |nI
 |makeSlice(T bytes size:Nat)(z:List Value)(n c:Operand)
 |slice(size:Nat)(x:Operand)(lo hi mx:Option Operand)
 |J5(x:Operand)(lo hi:Option Operand)
 |fieldAddr(off:Nat)(x:Operand)
 |field(off:Nat)(agg:Option Nat)(x:Operand)
 |indexAddr(size:Nat)(x i:Operand)
 |AR(len size:Nat)(x i:Operand)
 |J6(x i:Operand)
 |lookup(s:Shape)(z:Value)(ok:Bool)(m k:Operand)
 |update(s:Shape)(m k v:Operand)
 |extract(i:Nat)(x:Operand)
 |call(f:FuncId)(args:List Operand)
 |dyn(f:Operand)(args:List Operand)
 |invoke(r:Operand)(name:String)(args:List Operand)
 |lL(x:Operand)
 |UJ(x:Operand)
 |UK(x:Operand)
 |append(T size bytes:Nat)(z:List Value)(x y:Operand)
 |delete(s:Shape)(m k:Operand)
 |Nz(z:List Value)(x:Operand)
 |UN(args:List Operand)
 |UO(args:List Operand)
 |J7(T:TypeId)(x:Operand)
 |UP(neg:Bool)(x:Operand)
 |Pq(x:Operand)
 |J4(T:TypeId)(x:Operand)
 |ext(f:FuncId)(args:List Operand)
 deriving Inhabited
def fO(P:Program)(t:TypeId):Option Value:=(P.info? t).bind (·.zero)
def fu:Nat:=8
def kw(place:Nat→Option (Nat×Nat))(Ld:Nat):List (Nat×Operand)→Option (List (Nat×Nat×Operand))
 | []=>some []
 | (i,x)::r=>
  match place i with
  |none=>none
  |some (off,size)=>if off+size≤Ld then(kw place Ld r).map ((off,size,x):: ·)else none
def Nh(P:Program)(fs:Array Field):Bool:=fs.all fun f=>(P.info? f.type).isSome
def placeOf(P:Program)(fs:Array Field):Array (Nat×Nat):=fs.map fun f=>(f.offset,P.cellsOf f.type)
def parts(P:Program)(t:TypeId)(Ld:Nat)(ps:List (Nat×Operand)):Option (List (Nat×Nat×Operand)):=
 match P.underlying t with
 |some (.struct fields)=>if Nh P fields then kw ((placeOf P fields)[·]?) Ld ps else none
 |some (.array _ e)=>if(P.info? e).isSome then kw (fun i=>some (i*P.cellsOf e,P.cellsOf e)) Ld ps else none
 |_=>none
end Go.Vc
