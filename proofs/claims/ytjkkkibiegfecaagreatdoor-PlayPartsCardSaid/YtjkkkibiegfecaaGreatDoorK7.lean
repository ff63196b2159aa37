/- Texts put behind each other. -/
import Derived.Test.YtjkkkibiegfecaaGreatDoorK98
import Derived.Test.YtjkkkibiegfecaaGreatDoorK5
import Derived.Laws.StructEq
set_option maxRecDepth 100000
set_option maxHeartbeats 8000000
set_option linter.unusedVariables false
namespace Go.Vc
attribute [go_sem] aop aoH ao7 apw apH List.set_cons_succ List.drop_zero List.drop_succ_cons
  List.take_zero List.take_succ_cons apD apz Bool.true_and aoi
abbrev Ev:=Operand→Option Value
inductive Shape where
 |int|str|bool|ptr|Z1|mp|fn|Z2
 |s(fs:List (Nat×Option Nat×Shape))
 deriving Inhabited
def dI:Shape→Value→Value→Option Bool
 | .int,.int k a,.int k' b=>if k=k' then some (decide (a=b))else none
 | .str,.string a,.string b=>some (a.toList==b.toList)
 | .bool,.bool a,.bool b=>some (a==b)
 | .ptr,.pointer none,.pointer b=>some b.isNone
 | .ptr,.pointer (some _),.pointer none=>some false
 | .Z1,.slice none _ _,.slice b _ _=>some b.isNone
 | .Z1,.slice (some _) _ _,.slice none _ _=>some false
 | .mp,.map none,.map b=>some b.isNone
 | .mp,.map (some _),.map none=>some false
 | .fn,.nilFunc,.nilFunc=>some true
 | .fn,.func ..,.nilFunc=>some false
 | .fn,.nilFunc,.func .. =>some false
 | .Z2,.nilIface,.iface .. =>some false
 | .Z2,.iface ..,.nilIface=>some false
 |_,_,_=>none
def rE(l:List Value)(off:Nat)(agg:Option Nat):Option Value:=
 match agg with
 |some n=>if off+n≤l.length then some (.agg ((l.drop off).take n).toArray)else none
 |none=>l[off]?
@[go_sem] theorem YK(l:List Value)(off:Nat):rE l off none=l[off]? :=(rfl)
@[go_sem] theorem YL(l:List Value)(off n:Nat):rE l off (some n)=if off+n≤l.length then some (.agg ((l.drop off).take n).toArray)else none:=(rfl)
mutual
def CH:Shape→Value→Value→Option Bool
 | .s fs,.agg xs,.agg ys=>BX fs xs.toList ys.toList
 |sh,x,y=>dI sh x y
def BX:List (Nat×Option Nat×Shape)→List Value→List Value→Option Bool
 | [],_,_=>some true
 | (off,agg,sh)::fs,xs,ys=>
  match rE xs off agg with
  |none=>none
  |some x=>
   match rE ys off agg with
   |none=>none
   |some y=>
    match CH sh x y with
    |some true=>BX fs xs ys
    |some false=>some false
    |none=>none
end
def eI(P:Program)(t:TypeId):Bool:=match P.underlying t with|some (.struct _)|some (.array _ _)=>true|_=>false
def Av(P:Program)(sh:TypeId→Option Shape):List Field→Option (List (Nat×Option Nat×Shape))
 | []=>some []
 |f::fs=>
  if f.name= "_" then none else
  match sh f.type with
  |none=>none
  |some s=>(Av P sh fs).map ((f.offset,(if eI P f.type then some (P.cellsOf f.type)else none),s):: ·)
def shapeOf(P:Program):Nat→TypeId→Option Shape
 |0,_=>none
 |d+1,t=>
  match P.underlying t with
  |some (.int _)=>some .int
  |some .string=>some .str
  |some .bool=>some .bool
  |some (.pointer _)=>some .ptr
  |some (.slice _)=>some .Z1
  |some (.map _ _)=>some .mp
  |some (.func _ _ _)=>some .fn
  |some (.interface _)=>some .Z2
  |some (.struct fs)=>if P.stoodInHeld t then none else(Av P (shapeOf P d) fs.toList).map .s
  |_=>none
def fF(P:Program)(d:Nat)(fs:List Field):Option (List (Nat×Option Nat×Shape)):=Av P (shapeOf P d) fs
theorem CD(P:Program)(d:Nat):fF P d []=some []:=rfl
theorem qm(P:Program)(d:Nat)(f:Field)(fs:List Field):fF P d (f::fs)=
  if f.name= "_" then none else
  match shapeOf P d f.type with
  |none=>none
  |some s=>(fF P d fs).map ((f.offset,(if eI P f.type then some (P.cellsOf f.type)else none),s):: ·):=rfl
theorem gM(P:Program)(d:Nat)(t:TypeId):shapeOf P (d+1) t=
  match P.underlying t with
  |some (.int _)=>some .int
  |some .string=>some .str
  |some .bool=>some .bool
  |some (.pointer _)=>some .ptr
  |some (.slice _)=>some .Z1
  |some (.map _ _)=>some .mp
  |some (.func _ _ _)=>some .fn
  |some (.interface _)=>some .Z2
  |some (.struct fs)=>if P.stoodInHeld t then none else(fF P d fs.toList).map .s
  |_=>none:=rfl
def dJ(op:BinOp)(s:Shape):Value→Value→Option Value
 | .int k a,.int k' b=>
  match op with
  | .shl=>if b<0 then none else some (.int k (k.wrap (a*2^ (min b.toNat k.bits))))
  | .shr=>if b<0 then none else some (.int k (a.fdiv (2^ (min b.toNat k.bits))))
  |_=>
   if k≠k' then none else
   match op with
   | .add=>some (.int k (k.wrap (a+b)))
   | .sub=>some (.int k (k.wrap (a - b)))
   | .mul=>some (.int k (k.wrap (a*b)))
   | .quo=>if b=0 then none else some (.int k (k.wrap (a.tdiv b)))
   | .rem=>if b=0 then none else some (.int k (a.tmod b))
   | .and=>some (.int k (k.wrap (BitVec.ofInt k.bits a &&& BitVec.ofInt k.bits b).toNat))
   | .or=>some (.int k (k.wrap (BitVec.ofInt k.bits a |||BitVec.ofInt k.bits b).toNat))
   | .xor=>some (.int k (k.wrap (BitVec.ofInt k.bits a^^^BitVec.ofInt k.bits b).toNat))
   | .andNot=>some (.int k (k.wrap (BitVec.ofInt k.bits a &&& ~~~ BitVec.ofInt k.bits b).toNat))
   | .eql=>some (.bool (decide (a=b)))
   | .neq=>some (.bool (!decide (a=b)))
   | .lss=>some (.bool (decide (a<b)))
   | .leq=>some (.bool (decide (a≤b)))
   | .gtr=>some (.bool (decide (a>b)))
   | .geq=>some (.bool (decide (a≥b)))
   |_=>none
 | .string x,.string y=>
  match op with
  | .add=>if((x.size+y.size:Nat):Int)>IntKind.i64.max then none else some (.string (x++y))
  | .eql=>some (.bool (x.toList==y.toList))
  | .neq=>some (.bool (!(x.toList==y.toList)))
  | .lss=>some (.bool (Op.bytesLess x.toList y.toList))
  | .leq=>some (.bool (Op.bytesLess x.toList y.toList || x.toList==y.toList))
  | .gtr=>some (.bool (!(Op.bytesLess x.toList y.toList || x.toList==y.toList)))
  | .geq=>some (.bool (!Op.bytesLess x.toList y.toList))
  |_=>none
 |x,y=>
  match op with
  | .eql=>(CH s x y).map .bool
  | .neq=>(CH s x y).map fun b=>.bool (!b)
  |_=>none
section
variable (s : Shape) (k : IntKind) (a b : Int)
@[go_sem] theorem acw:dJ .add s (.int k a) (.int k b)=some (.int k (k.wrap (a+b))):=by simp[dJ]
@[go_sem] theorem acx:dJ .sub s (.int k a) (.int k b)=some (.int k (k.wrap (a - b))):=by simp[dJ]
@[go_sem] theorem acy:dJ .mul s (.int k a) (.int k b)=some (.int k (k.wrap (a*b))):=by simp[dJ]
@[go_sem] theorem acz:dJ .quo s (.int k a) (.int k b)=if b=0 then none else some (.int k (k.wrap (a.tdiv b))):=by simp[dJ]
@[go_sem] theorem acA:dJ .rem s (.int k a) (.int k b)=if b=0 then none else some (.int k (a.tmod b)):=by simp[dJ]
@[go_sem] theorem acB:dJ .eql s (.int k a) (.int k b)=some (.bool (decide (a=b))):=by simp[dJ]
@[go_sem] theorem acC:dJ .neq s (.int k a) (.int k b)=some (.bool (!decide (a=b))):=by simp[dJ]
@[go_sem] theorem acD:dJ .lss s (.int k a) (.int k b)=some (.bool (decide (a<b))):=by simp[dJ]
@[go_sem] theorem acE:dJ .leq s (.int k a) (.int k b)=some (.bool (decide (a≤b))):=by simp[dJ]
@[go_sem] theorem acF:dJ .gtr s (.int k a) (.int k b)=some (.bool (decide (a>b))):=by simp[dJ]
@[go_sem] theorem acG:dJ .geq s (.int k a) (.int k b)=some (.bool (decide (a≥b))):=by simp[dJ]
@[go_sem] theorem acH:dJ .and s (.int k a) (.int k b)=some (.int k (k.wrap (BitVec.ofInt k.bits a &&& BitVec.ofInt k.bits b).toNat)):=by simp[dJ]
@[go_sem] theorem aek:dJ .or s (.int k a) (.int k b)=some (.int k (k.wrap (BitVec.ofInt k.bits a |||BitVec.ofInt k.bits b).toNat)):=by simp[dJ]
@[go_sem] theorem acI:dJ .xor s (.int k a) (.int k b)=some (.int k (k.wrap (BitVec.ofInt k.bits a^^^BitVec.ofInt k.bits b).toNat)):=by simp[dJ]
@[go_sem] theorem acJ(k':IntKind):dJ .shl s (.int k a) (.int k' b)=if b<0 then none else some (.int k (k.wrap (a*2^ (min b.toNat k.bits)))):=by rfl
@[go_sem] theorem acK(k':IntKind):dJ .shr s (.int k a) (.int k' b)=if b<0 then none else some (.int k (a.fdiv (2^ (min b.toNat k.bits)))):=by rfl
variable (x y : ByteArray)
@[go_sem] theorem acL:dJ .add s (.string x) (.string y)=if((x.size+y.size:Nat):Int)>IntKind.i64.max then none else some (.string (x++y)):=by rfl
@[go_sem] theorem Z3:dJ .eql s (.string x) (.string y)=some (.bool (x.toList==y.toList)):=by rfl
@[go_sem] theorem Z4:dJ .neq s (.string x) (.string y)=some (.bool (!(x.toList==y.toList))):=by rfl
@[go_sem] theorem Z5(u v:Bool):dJ .eql .bool (.bool u) (.bool v)=some (.bool (u==v)):=by rfl
@[go_sem] theorem Z6(u v:Bool):dJ .neq .bool (.bool u) (.bool v)=some (.bool (!(u==v))):=by rfl
@[go_sem] theorem Z7(u:Option Addr):dJ .eql .ptr (.pointer u) (.pointer none)=some (.bool u.isNone):=by cases u<;>rfl
@[go_sem] theorem Z8(u:Option Addr):dJ .neq .ptr (.pointer u) (.pointer none)=some (.bool (!u.isNone)):=by cases u<;>rfl
@[go_sem] theorem YM(u:Option Addr)(n c:Nat):dJ .eql .Z1 (.slice u n c) (.slice none 0 0)=some (.bool u.isNone):=by cases u<;>rfl
@[go_sem] theorem YN(u:Option Addr)(n c:Nat):dJ .neq .Z1 (.slice u n c) (.slice none 0 0)=some (.bool (!u.isNone)):=by cases u<;>rfl
@[go_sem] theorem Z9(t:TypeId)(v:Value):dJ .eql .Z2 (.iface t v) .nilIface=some (.bool false):=by rfl
@[go_sem] theorem aaa(t:TypeId)(v:Value):dJ .neq .Z2 (.iface t v) .nilIface=some (.bool true):=by rfl
@[go_sem] theorem VQ(fs:List (Nat×Option Nat×Shape))(l l':List Value):dJ .eql (.s fs) (.agg l.toArray) (.agg l'.toArray)=(BX fs l l').map .bool:=by rfl
@[go_sem] theorem VR(fs:List (Nat×Option Nat×Shape))(l l':List Value):dJ .neq (.s fs) (.agg l.toArray) (.agg l'.toArray)=(BX fs l l').map fun b=>.bool (!b):=by rfl
end
@[go_sem] theorem acM(b:Bool)(F:Bool→Prop):ar (!b) F=ar b fun t=>F (!t):=by cases b<;>rfl
def unF:UnOp→Value→Option Value
 | .neg,.int k n=>some (.int k (k.wrap (0 - n)))
 | .xor,.int k n=>some (.int k (k.wrap (BitVec.ofInt k.bits (if k.signed then -1 else k.max)^^^BitVec.ofInt k.bits n).toNat))
 | .not,.bool b=>some (.bool (!b))
 |_,_=>none
@[go_sem] theorem ael(b:Bool):unF .not (.bool b)=some (.bool (!b)):=(rfl)
@[go_sem] theorem aem(k:IntKind)(n:Int):unF .neg (.int k n)=some (.int k (k.wrap (0 - n))):=(rfl)
@[go_sem] theorem aen(k:IntKind)(n:Int):unF .xor (.int k n)=some (.int k (k.wrap (BitVec.ofInt k.bits (if k.signed then -1 else k.max)^^^BitVec.ofInt k.bits n).toNat)):=(rfl)
def wU(v:Value)(F:Nat→Nat→Prop)(_t:Tag F:=⟨⟩):Prop:=match v with| .pointer (some ⟨b,o,none⟩)=>F b o|_=>False
@[go_sem] theorem aeo(b o:Nat)(F:Nat→Nat→Prop):wU (.pointer (some ⟨b,o,none⟩)) F=F b o:=(rfl)
theorem fG{v:Value}{F:Nat→Nat→Prop}(h:wU v F):∃b o,v= .pointer (some ⟨b,o,none⟩)∧F b o:=by
 unfold wU at h;grind
def AM(v:Value)(F:Int→Prop)(_t:Tag F:=⟨⟩):Prop:=match v with| .int _ n=>F n|_=>False
@[go_sem] theorem aep(k:IntKind)(n:Int)(F:Int→Prop):AM (.int k n) F=F n:=(rfl)
theorem gG{v:Value}{F:Int→Prop}(h:AM v F):∃k n,v= .int k n∧F n:=by
 unfold AM at h;grind
def pP(v:Value)(F:Option Addr→Nat→Nat→Prop)(_t:Tag F:=⟨⟩):Prop:=match v with| .slice a n c=>F a n c|_=>False
@[go_sem] theorem aab(a:Option Addr)(n c:Nat)(F:Option Addr→Nat→Nat→Prop):pP (.slice a n c) F=F a n c:=(rfl)
theorem iM{v:Value}{F:Option Addr→Nat→Nat→Prop}(h:pP v F):∃a n c,v= .slice a n c∧F a n c:=by
 unfold pP at h;grind
def tq(a:Option Addr)(F:Nat→Nat→Prop)(_t:Tag F:=⟨⟩):Prop:=match a with|some ⟨b,o,none⟩=>F b o|_=>False
@[go_sem] theorem acO(b o:Nat)(F:Nat→Nat→Prop):tq (some ⟨b,o,none⟩) F=F b o:=(rfl)
theorem nR{a:Option Addr}{F:Nat→Nat→Prop}(h:tq a F):∃b o,a=some ⟨b,o,none⟩∧F b o:=by
 unfold tq at h;grind
def jp(v:Value)(F:ByteArray→Prop)(_t:Tag F:=⟨⟩):Prop:=match v with| .string s=>F s|_=>False
@[go_sem] theorem YO(s:ByteArray)(F:ByteArray→Prop):jp (.string s) F=F s:=(rfl)
theorem nu{v:Value}{F:ByteArray→Prop}(h:jp v F):∃s,v= .string s∧F s:=by
 unfold jp at h;grind
def Qt(v:Value)(F:List Value→Prop)(_t:Tag F:=⟨⟩):Prop:=match v with| .tuple vs=>F vs.toList|_=>False
@[go_sem] theorem aeq(l:List Value)(F:List Value→Prop):Qt (.tuple l.toArray) F=F l:=(rfl)
theorem Jt{v:Value}{F:List Value→Prop}(h:Qt v F):∃vs,v= .tuple vs∧F vs.toList:=by
 unfold Qt at h;grind
def NM(v:Value)(F:List Value→Prop)(_t:Tag F:=⟨⟩):Prop:=match v with| .agg vs=>F vs.toList|_=>False
@[go_sem] theorem aer(l:List Value)(F:List Value→Prop):NM (.agg l.toArray) F=F l:=(rfl)
theorem CN{v:Value}{F:List Value→Prop}(h:NM v F):∃vs,v= .agg vs∧F vs.toList:=by
 unfold NM at h;grind
def CO(v:Value)(F:Option Nat→Prop)(_t:Tag F:=⟨⟩):Prop:=match v with| .map r=>F r|_=>False
@[go_sem] theorem aes(r:Option Nat)(F:Option Nat→Prop):CO (.map r) F=F r:=(rfl)
theorem kQ{v:Value}{F:Option Nat→Prop}(h:CO v F):∃r,v= .map r∧F r:=by
 unfold CO at h;grind
def NL(ev:Ev):List Operand→(List Value→Prop)→Prop
 | [],F=>F []
 |x::xs,F=>aD (ev x) fun v=>NL ev xs fun vs=>F (v::vs)
@[go_sem ↓] theorem aet(ev:Ev)(F:List Value→Prop):NL ev [] F=F []:=(rfl)
@[go_sem ↓] theorem acP(ev:Ev)(x:Operand)(xs:List Operand)(F:List Value→Prop):NL ev (x::xs) F=aD (ev x) fun v=>NL ev xs fun vs=>F (v::vs):=(rfl)
theorem lz{ev:Ev}{ρ:Operand→Value}(bO:∀x v,ev x=some v→ρ x=v):∀ {xs:List Operand} {F:List Value→Prop},NL ev xs F→F (xs.map ρ):=by
 intro xs
 induction xs with
 |nil=>intro F h;exact h
 |cons x xs ih=>
  intro F h
  obtain⟨v,hv,h⟩:=aB h
  grind
def AL(ev:Ev):List Value→List (Nat×Nat×Operand)→(List Value→Prop)→Prop
 |z,[],K=>K z
 |z,(off,size,x)::r,K=>aD (ev x) fun v=>eo ((aI v).length=size) (AL ev (aX z off (aI v)) r K)
@[go_sem ↓] theorem aac(ev:Ev)(z:List Value)(K:List Value→Prop):AL ev z [] K=K z:=(rfl)
@[go_sem ↓] theorem YP(ev:Ev)(z:List Value)(off size:Nat)(x:Operand)(r:List (Nat×Nat×Operand))(K:List Value→Prop):
  AL ev z ((off,size,x)::r) K=aD (ev x) fun v=>eo ((aI v).length=size) (AL ev (aX z off (aI v)) r K):=(rfl)
def dE(z:List Value)(k:Nat):List Value:=(List.replicate k z).flatten
def jt(s:Shape)(k:Value):List MapEntry→Nat→Option (Option (Nat×Value))
 | [],_=>some none
 |e::es,i=>
  match CH s k e.key with
  |some true=>some (some (i,e.val))
  |some false=>jt s k es (i+1)
  |none=>none
def pM:Shape→Bool| .int| .str| .bool=>true|_=>false
def Ek:Shape→Value→Bool
 | .int,.int _ _=>true
 | .str,.string _=>true
 | .bool,.bool _=>true
 | .s fs,.agg xs=>fs.all fun(off,agg,sh)=>agg.isNone && pM sh && (match sh,xs[off]? with| .int,some (.int _ _)=>true| .str,some (.string _)=>true| .bool,some (.bool _)=>true|_,_=>false)
 |_,_=>false
def D1(H:Hp)(s:Shape)(r:Option Nat)(k:Value)(F:Option Value→Prop)(_t:Tag F:=⟨⟩):Prop:=
 match r with
 |none=>F none
 |some b=>aD (H.mp b) fun m=>aD (jt s k m.1 0) fun x=>F (x.map (·.2))
def Nv(es:List MapEntry)(x:Option (Nat×Value))(k v:Value)(clock:Nat):List MapEntry:=
 match x with
 |some (i,_)=>es.modify i fun e=>{e with key:=k,val:=v}
 |none=>es++[{key:=k,val:=v,born:=clock}]
def J4(x:Option (Nat×Value))(clock:Nat):Nat:=match x with|some _=>clock|none=>clock+1
def Fw(es:List MapEntry)(x:Option (Nat×Value))(k:Value):Bool:=
 match x with
 |some (i,_)=>Instr.sameBits 10000 (((es[i]?).map (·.key)).getD k) k
 |none=>true
@[go_sem] theorem VS(es:List MapEntry)(k:Value):Fw es none k=true:=(rfl)
def FN(es:List MapEntry)(x:Option (Nat×Value)):List MapEntry:=match x with|some (i,_)=>es.eraseIdx i|none=>es
def Xb(H:Hp)(s:Shape)(b:Nat)(k v:Value)(F:Hp→Prop)(_t:Tag F:=⟨⟩):Prop:=
 aD (H.mp b) fun es=>aD (jt s k es.1 0) fun x=>eo (Fw es.1 x k=true) (F (H.Eo b (Nv es.1 x k v es.2) (J4 x es.2)))
def Xc(H:Hp)(s:Shape)(b:Nat)(k:Value)(F:Hp→Prop)(_t:Tag F:=⟨⟩):Prop:=
 aD (H.mp b) fun es=>aD (jt s k es.1 0) fun x=>F (H.Eo b (FN es.1 x) es.2)
def YQ(H:Hp)(z:List Value)(a:Option Addr)(n:Nat)(F:Hp→Prop)(_t:Tag F:=⟨⟩):Prop:=
 (n=0∧F H)∨(n≠0∧∃b o l,a=some ⟨b,o,none⟩∧Ie (H.own b) (H.Az b)=some l∧fK (dE z n)∧o+n*z.length≤l.length∧F (H.wr b (aX l o (dE z n))))
@[go_sem] theorem aad(k:IntKind)(n:Int):Ek .int (.int k n)=true:=(rfl)
@[go_sem] theorem aae(s:ByteArray):Ek .str (.string s)=true:=(rfl)
def eZ(P:Program)(f:FuncId):Bool:=match P.funcs[f]? with|some fn=>fn.name != "runtime.NumGoroutine" && fn.body.isSome|none=>false
def Sj(P:Program)(H:Hp)(T:TypeId)(v:Value)(name:String)(f:FuncId)(rv:Value):Prop:=
 eZ P f=true∧∀w,w.heap=H→(method (P.types.size+Made.depth) T v name).run P w= .ok (f,rv) w
def fW(P:Program)(recv:Value)(name:String)(args:List Value)(H:Hp)(K:Value→Hp→Prop)(_t:Tag K:=⟨⟩):Prop:=
 ∃T v f rv,recv= .iface T v∧Sj P H T v name f rv∧ag P f (rv::args) H K
def WW(P:Program)(fv:Value)(args:List Value)(H:Hp)(K:Value→Hp→Prop)(_t:Tag K:=⟨⟩):Prop:=
 match fv with
 | .func (.func f) first captured=>eZ P f=true∧ag P f (first.toList++args++captured.toList) H K
 |_=>False
def aho(P:Program)(f:FuncId)(vs:List Value)(H:Hp)(K:Value→Hp→Prop)(_t:Tag K:=⟨⟩):Prop:=∃v,(∀w,(callFunc f vs.toArray).run P w= .ok (.value v) w)∧K v H
def rowOf(H:Hp)(size:Nat)(v:Value)(F:Nat→List Value→Prop)(_t:Tag F:=⟨⟩):Prop:=
 match v with
 | .slice a n _=>FW (n==0) (F 0 []) (tq a fun b o=>aD (H.rd b) fun l=>eo (o+n*size≤l.length) (F n ((l.drop o).take (n*size))))
 | .string s=>eo (size=1) (F s.size (s.data.toList.map fun b=>.int .u8 b.toNat))
 |_=>False
def gH(T size bytes:Nat)(z:List Value)(s x:Value)(H:Hp)(K:Value→Hp→Prop)(_t:Tag K:=⟨⟩):Prop:=
 pP s fun base n c=>rowOf H size x fun m new=>
  (n+m≤c→m=0→K (.slice base n c) H)∧
  (n+m≤c→m≠0→tq base fun b o=>aD (Ie (H.own b) (H.Az b)) fun l=>eo (o+(n+m)*size≤l.length∧fK new) (K (.slice base (n+m) c) (H.wr b (aX l (o+n*size) new))))∧
  (c<n+m→Builtin.nextslicecap (n+m) c*bytes≤2^48∧
   rowOf H size s fun _ Qn=>∀c',n+m≤c'→K (.slice (some ⟨H.size,0,none⟩) (n+m) c') (H.new T (Qn++new++dE z (c' - (n+m)))))
def T0(T:TypeId)(s:ByteArray)(H:Hp)(K:Value→Hp→Prop)(_t:Tag K:=⟨⟩):Prop:=
 ∀c,s.size≤c→K (.slice (some ⟨H.size,0,none⟩) s.size c) (H.NA T ((s.data.toList.map fun b=>.int .u8 b.toNat)++List.replicate (c - s.size) (.int .u8 0)))
def wH(T:TypeId)(v:Value)(F:Value→Prop)(_t:Tag F:=⟨⟩):Prop:=match v with| .iface t u=>eo (t=T) (F u)|_=>False
@[go_sem] theorem YR(T t:TypeId)(u:Value)(F:Value→Prop):wH T (.iface t u) F=eo (t=T) (F u):=(rfl)
def NN(v:Value)(F:Bool→Prop)(_t:Tag F:=⟨⟩):Prop:=match v with| .nilIface=>F true| .iface _ _=>F false|_=>False
@[go_sem] theorem acQ(F:Bool→Prop):NN .nilIface F=F true:=(rfl)
@[go_sem] theorem aeu(t:TypeId)(u:Value)(F:Bool→Prop):NN (.iface t u) F=F false:=(rfl)
theorem Jv{v:Value}{F:Bool→Prop}(h:NN v F):(v= .nilIface∧F true)∨∃t u,v= .iface t u∧F false:=by
 unfold NN at h;grind
def Pp(neg b:Bool):Bool:=bif neg then !b else b
@[go_sem] theorem aev:Pp false false=false:=(rfl)
@[go_sem] theorem aew:Pp false true=true:=(rfl)
@[go_sem] theorem aex:Pp true false=true:=(rfl)
@[go_sem] theorem aey:Pp true true=false:=(rfl)
theorem AN{T:TypeId}{v:Value}{F:Value→Prop}(h:wH T v F):∃u,v= .iface T u∧F u:=by
 unfold wH at h;split at h
 ·obtain⟨rfl,h⟩:=h;grind
 grind
def bytesOf:List Value→Option (List UInt8)
 | []=>some []
 | .int .u8 n::r=>(bytesOf r).map (UInt8.ofNat n.toNat:: ·)
 |_::_=>none
@[go_sem] theorem WN:bytesOf []=some []:=(rfl)
@[go_sem] theorem VT(n:Int)(r:List Value):bytesOf (.int .u8 n::r)=(bytesOf r).map (UInt8.ofNat n.toNat:: ·):=(rfl)
def uO(H:Hp)(v:Value)(F:List UInt8→Prop)(_t:Tag F:=⟨⟩):Prop:=
 match v with
 | .slice a n c=>rowOf H 1 (.slice a n c) fun _ l=>aD (bytesOf l) F
 |_=>False
@[go_sem] theorem aaf(H:Hp)(a:Option Addr)(n c:Nat)(F:List UInt8→Prop):uO H (.slice a n c) F=rowOf H 1 (.slice a n c) fun _ l=>aD (bytesOf l) F:=(rfl)
inductive dD where
 |ax(x:Operand)
 |pick(c a b:Operand)
 |box(T:TypeId)(x:Operand)
 |zero(T:TypeId)(l:List Value)
 |build(z:List Value)(parts:List (Nat×Nat×Operand))
 |lit(T:TypeId)(n:Nat)(z:List Value)(parts:List (Nat×Nat×Operand))
 |aq(x:Operand)
 |gO(n:Nat)(x:Operand)
 |store(n:Nat)(x v:Operand)
 |nilCheck(x:Operand)
 |jY(op:BinOp)(s:Shape)(x y:Operand)
 |un(op:UnOp)(x:Operand)
 |conv(k:IntKind)(x:Operand)
 |iface(T:TypeId)(x:Operand)
 |func(fn:Fn)(first captured:List Operand)
 |Pq
 |makeSlice(T bytes size:Nat)(z:List Value)(n c:Operand)
 |slice(size:Nat)(x:Operand)(lo hi mx:Option Operand)
 |J7(x:Operand)(lo hi:Option Operand)
 |fieldAddr(off:Nat)(x:Operand)
 |field(off:Nat)(agg:Option Nat)(x:Operand)
 |indexAddr(size:Nat)(x i:Operand)
 |AJ(len size:Nat)(x i:Operand)
 |J8(x i:Operand)
 |Ka(len size:Nat)(agg:Option Nat)(x i:Operand)
 |lookup(s:Shape)(z:Value)(ok:Bool)(m k:Operand)
 |update(s:Shape)(m k v:Operand)
 |extract(i:Nat)(x:Operand)
 |call(f:FuncId)(args:List Operand)
 |dyn(f:Operand)(args:List Operand)
 |invoke(r:Operand)(name:String)(args:List Operand)
 |uN(x:Operand)
 |UG(x:Operand)
 |UH(x:Operand)
 |append(T size bytes:Nat)(z:List Value)(x y:Operand)
 |delete(s:Shape)(m k:Operand)
 |Ny(z:List Value)(x:Operand)
 |UK(args:List Operand)
 |UL(args:List Operand)
 |J9(T:TypeId)(x:Operand)
 |UN(neg:Bool)(x:Operand)
 |Py(x:Operand)
 |J6(T:TypeId)(x:Operand)
 |ext(f:FuncId)(args:List Operand)
 deriving Inhabited
def fO(P:Program)(t:TypeId):Option Value:=(P.info? t).bind (·.zero)
def fY:Nat:=8
def lf(place:Nat→Option (Nat×Nat))(Ll:Nat):List (Nat×Operand)→Option (List (Nat×Nat×Operand))
 | []=>some []
 | (i,x)::r=>
  match place i with
  |none=>none
  |some (off,size)=>if off+size≤Ll then(lf place Ll r).map ((off,size,x):: ·)else none
def Nc(P:Program)(fs:Array Field):Bool:=fs.all fun f=>(P.info? f.type).isSome
def placeOf(P:Program)(fs:Array Field):Array (Nat×Nat):=fs.map fun f=>(f.offset,P.cellsOf f.type)
def parts(P:Program)(t:TypeId)(Ll:Nat)(ps:List (Nat×Operand)):Option (List (Nat×Nat×Operand)):=
 match P.underlying t with
 |some (.struct fields)=>if Nc P fields then lf ((placeOf P fields)[·]?) Ll ps else none
 |some (.array _ e)=>if(P.info? e).isSome then lf (fun i=>some (i*P.cellsOf e,P.cellsOf e)) Ll ps else none
 |_=>none
end Go.Vc
