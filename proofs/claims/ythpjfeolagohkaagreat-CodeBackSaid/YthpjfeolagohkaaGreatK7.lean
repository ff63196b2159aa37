/- Texts put behind each other. -/
import Derived.Test.YthpjfeolagohkaaGreatK98
import Derived.Test.YthpjfeolagohkaaGreatK5
import Derived.Laws.StructEq
set_option maxRecDepth 100000
set_option maxHeartbeats 8000000
set_option linter.unusedVariables false
namespace Go.Vc
attribute [go_sem] aoI apo ao2 api apM apb apO List.drop_succ_cons
  ap1 List.take_succ_cons Bool.not_true Bool.not_false aqD aor
abbrev Ev:=Operand→Option Value
inductive Shape where
 |int|str|bool|ptr|slc|mp|fn|ifc
 |s(fs:List (Nat×Option Nat×Shape))
 deriving Inhabited
def bq:Shape→Value→Value→Option Bool
 | .int,.int k a,.int k' b=>if k=k' then some (decide (a=b))else none
 | .str,.string a,.string b=>some (a.toList==b.toList)
 | .bool,.bool a,.bool b=>some (a==b)
 | .ptr,.pointer none,.pointer b=>some b.isNone
 | .ptr,.pointer (some _),.pointer none=>some false
 | .slc,.slice none _ _,.slice b _ _=>some b.isNone
 | .slc,.slice (some _) _ _,.slice none _ _=>some false
 | .mp,.map none,.map b=>some b.isNone
 | .mp,.map (some _),.map none=>some false
 | .fn,.nilFunc,.nilFunc=>some true
 | .fn,.func ..,.nilFunc=>some false
 | .fn,.nilFunc,.func .. =>some false
 | .ifc,.nilIface,.iface .. =>some false
 | .ifc,.iface ..,.nilIface=>some false
 |_,_,_=>none
def uM(l:List Value)(off:Nat)(agg:Option Nat):Option Value:=
 match agg with
 |some n=>if off+n≤l.length then some (.agg ((l.drop off).take n).toArray)else none
 |none=>l[off]?
@[go_sem] theorem Oc(l:List Value)(off:Nat):uM l off none=l[off]? :=(rfl)
@[go_sem] theorem Ze(l:List Value)(off n:Nat):uM l off (some n)=if off+n≤l.length then some (.agg ((l.drop off).take n).toArray)else none:=(rfl)
mutual
def qu:Shape→Value→Value→Option Bool
 | .s fs,.agg xs,.agg ys=>Ey fs xs.toList ys.toList
 |sh,x,y=>bq sh x y
def Ey:List (Nat×Option Nat×Shape)→List Value→List Value→Option Bool
 | [],_,_=>some true
 | (off,agg,sh)::fs,xs,ys=>
  match uM xs off agg with
  |none=>none
  |some x=>
   match uM ys off agg with
   |none=>none
   |some y=>
    match qu sh x y with
    |some true=>Ey fs xs ys
    |some false=>some false
    |none=>none
end
def eK(P:Program)(t:TypeId):Bool:=match P.underlying t with|some (.struct _)|some (.array _ _)=>true|_=>false
def zv(P:Program)(sh:TypeId→Option Shape):List Field→Option (List (Nat×Option Nat×Shape))
 | []=>some []
 |f::fs=>
  if f.name= "_" then none else
  match sh f.type with
  |none=>none
  |some s=>(zv P sh fs).map ((f.offset,(if eK P f.type then some (P.cellsOf f.type)else none),s):: ·)
def shapeOf(P:Program):Nat→TypeId→Option Shape
 |0,_=>none
 |d+1,t=>
  match P.underlying t with
  |some (.int _)=>some .int
  |some .string=>some .str
  |some .bool=>some .bool
  |some (.pointer _)=>some .ptr
  |some (.slice _)=>some .slc
  |some (.map _ _)=>some .mp
  |some (.func _ _ _)=>some .fn
  |some (.interface _)=>some .ifc
  |some (.struct fs)=>if P.stoodInHeld t then none else(zv P (shapeOf P d) fs.toList).map .s
  |_=>none
def eY(P:Program)(d:Nat)(fs:List Field):Option (List (Nat×Option Nat×Shape)):=zv P (shapeOf P d) fs
theorem BL(P:Program)(d:Nat):eY P d []=some []:=rfl
theorem oY(P:Program)(d:Nat)(f:Field)(fs:List Field):eY P d (f::fs)=
  if f.name= "_" then none else
  match shapeOf P d f.type with
  |none=>none
  |some s=>(eY P d fs).map ((f.offset,(if eK P f.type then some (P.cellsOf f.type)else none),s):: ·):=rfl
theorem fX(P:Program)(d:Nat)(t:TypeId):shapeOf P (d+1) t=
  match P.underlying t with
  |some (.int _)=>some .int
  |some .string=>some .str
  |some .bool=>some .bool
  |some (.pointer _)=>some .ptr
  |some (.slice _)=>some .slc
  |some (.map _ _)=>some .mp
  |some (.func _ _ _)=>some .fn
  |some (.interface _)=>some .ifc
  |some (.struct fs)=>if P.stoodInHeld t then none else(eY P d fs.toList).map .s
  |_=>none:=rfl
def cj(op:BinOp)(s:Shape):Value→Value→Option Value
 | .int k a,.int k' b=>
  match op with
  | .shl=>if b<0 then none else some (.int k (k.wrap (a*2^ (min b.toNat k.bits))))
  | .shr=>if b<0 then none else some (.int k (a.fdiv (2^ (min b.toNat k.bits))))
  |_=>
   if k≠k' then none else
   match op with
   | .add=>some (.int k (k.wrap (a+b)))
   | .sub=>some (.int k (k.wrap (a - b)))
   | .mul=>some (.int k (k.wrap (a*b)))
   | .quo=>if b=0 then none else some (.int k (k.wrap (a.tdiv b)))
   | .rem=>if b=0 then none else some (.int k (a.tmod b))
   | .and=>some (.int k (k.wrap (BitVec.ofInt k.bits a &&& BitVec.ofInt k.bits b).toNat))
   | .or=>some (.int k (k.wrap (BitVec.ofInt k.bits a |||BitVec.ofInt k.bits b).toNat))
   | .xor=>some (.int k (k.wrap (BitVec.ofInt k.bits a^^^BitVec.ofInt k.bits b).toNat))
   | .andNot=>some (.int k (k.wrap (BitVec.ofInt k.bits a &&& ~~~ BitVec.ofInt k.bits b).toNat))
   | .eql=>some (.bool (decide (a=b)))
   | .neq=>some (.bool (!decide (a=b)))
   | .lss=>some (.bool (decide (a<b)))
   | .leq=>some (.bool (decide (a≤b)))
   | .gtr=>some (.bool (decide (a>b)))
   | .geq=>some (.bool (decide (a≥b)))
   |_=>none
 | .string x,.string y=>
  match op with
  | .add=>if((x.size+y.size:Nat):Int)>IntKind.i64.max then none else some (.string (x++y))
  | .eql=>some (.bool (x.toList==y.toList))
  | .neq=>some (.bool (!(x.toList==y.toList)))
  | .lss=>some (.bool (Op.bytesLess x.toList y.toList))
  | .leq=>some (.bool (Op.bytesLess x.toList y.toList || x.toList==y.toList))
  | .gtr=>some (.bool (!(Op.bytesLess x.toList y.toList || x.toList==y.toList)))
  | .geq=>some (.bool (!Op.bytesLess x.toList y.toList))
  |_=>none
 |x,y=>
  match op with
  | .eql=>(qu s x y).map .bool
  | .neq=>(qu s x y).map fun b=>.bool (!b)
  |_=>none
section
variable (s : Shape) (k : IntKind) (a b : Int)
@[go_sem] theorem adg:cj .add s (.int k a) (.int k b)=some (.int k (k.wrap (a+b))):=by simp[cj]
@[go_sem] theorem adh:cj .sub s (.int k a) (.int k b)=some (.int k (k.wrap (a - b))):=by simp[cj]
@[go_sem] theorem adi:cj .mul s (.int k a) (.int k b)=some (.int k (k.wrap (a*b))):=by simp[cj]
@[go_sem] theorem adj:cj .quo s (.int k a) (.int k b)=if b=0 then none else some (.int k (k.wrap (a.tdiv b))):=by simp[cj]
@[go_sem] theorem adk:cj .rem s (.int k a) (.int k b)=if b=0 then none else some (.int k (a.tmod b)):=by simp[cj]
@[go_sem] theorem adl:cj .eql s (.int k a) (.int k b)=some (.bool (decide (a=b))):=by simp[cj]
@[go_sem] theorem adm:cj .neq s (.int k a) (.int k b)=some (.bool (!decide (a=b))):=by simp[cj]
@[go_sem] theorem adn:cj .lss s (.int k a) (.int k b)=some (.bool (decide (a<b))):=by simp[cj]
@[go_sem] theorem ado:cj .leq s (.int k a) (.int k b)=some (.bool (decide (a≤b))):=by simp[cj]
@[go_sem] theorem adp:cj .gtr s (.int k a) (.int k b)=some (.bool (decide (a>b))):=by simp[cj]
@[go_sem] theorem adq:cj .geq s (.int k a) (.int k b)=some (.bool (decide (a≥b))):=by simp[cj]
@[go_sem] theorem adr:cj .and s (.int k a) (.int k b)=some (.int k (k.wrap (BitVec.ofInt k.bits a &&& BitVec.ofInt k.bits b).toNat)):=by simp[cj]
@[go_sem] theorem aeU:cj .or s (.int k a) (.int k b)=some (.int k (k.wrap (BitVec.ofInt k.bits a |||BitVec.ofInt k.bits b).toNat)):=by simp[cj]
@[go_sem] theorem ads:cj .xor s (.int k a) (.int k b)=some (.int k (k.wrap (BitVec.ofInt k.bits a^^^BitVec.ofInt k.bits b).toNat)):=by simp[cj]
@[go_sem] theorem adt(k':IntKind):cj .shl s (.int k a) (.int k' b)=if b<0 then none else some (.int k (k.wrap (a*2^ (min b.toNat k.bits)))):=by simp[cj]
@[go_sem] theorem adu(k':IntKind):cj .shr s (.int k a) (.int k' b)=if b<0 then none else some (.int k (a.fdiv (2^ (min b.toNat k.bits)))):=by simp[cj]
variable (x y : ByteArray)
@[go_sem] theorem adv:cj .add s (.string x) (.string y)=if((x.size+y.size:Nat):Int)>IntKind.i64.max then none else some (.string (x++y)):=by simp[cj]
@[go_sem] theorem aae:cj .eql s (.string x) (.string y)=some (.bool (x.toList==y.toList)):=by simp[cj]
@[go_sem] theorem aaf:cj .neq s (.string x) (.string y)=some (.bool (!(x.toList==y.toList))):=by simp[cj]
@[go_sem] theorem aag(u v:Bool):cj .eql .bool (.bool u) (.bool v)=some (.bool (u==v)):=by simp[cj,qu,bq]
@[go_sem] theorem aah(u v:Bool):cj .neq .bool (.bool u) (.bool v)=some (.bool (!(u==v))):=by simp[cj,qu,bq]
@[go_sem] theorem aai(u:Option Addr):cj .eql .ptr (.pointer u) (.pointer none)=some (.bool u.isNone):=by cases u<;>simp[cj,qu,bq]
@[go_sem] theorem aaj(u:Option Addr):cj .neq .ptr (.pointer u) (.pointer none)=some (.bool (!u.isNone)):=by cases u<;>simp[cj,qu,bq]
@[go_sem] theorem Zf(u:Option Addr)(n c:Nat):cj .eql .slc (.slice u n c) (.slice none 0 0)=some (.bool u.isNone):=by cases u<;>simp[cj,qu,bq]
@[go_sem] theorem Zg(u:Option Addr)(n c:Nat):cj .neq .slc (.slice u n c) (.slice none 0 0)=some (.bool (!u.isNone)):=by cases u<;>simp[cj,qu,bq]
@[go_sem] theorem aak(t:TypeId)(v:Value):cj .eql .ifc (.iface t v) .nilIface=some (.bool false):=by simp[cj,qu,bq]
@[go_sem] theorem aal(t:TypeId)(v:Value):cj .neq .ifc (.iface t v) .nilIface=some (.bool true):=by simp[cj,qu,bq]
@[go_sem] theorem VK(fs:List (Nat×Option Nat×Shape))(l l':List Value):cj .eql (.s fs) (.agg l.toArray) (.agg l'.toArray)=(Ey fs l l').map .bool:=by simp[cj,qu]
@[go_sem] theorem VL(fs:List (Nat×Option Nat×Shape))(l l':List Value):cj .neq (.s fs) (.agg l.toArray) (.agg l'.toArray)=(Ey fs l l').map fun b=>.bool (!b):=by simp[cj,qu]
end
@[go_sem] theorem adw(b:Bool)(F:Bool→Prop):ai (!b) F=ai b fun t=>F (!t):=by cases b<;>rfl
def unF:UnOp→Value→Option Value
 | .neg,.int k n=>some (.int k (k.wrap (0 - n)))
 | .xor,.int k n=>some (.int k (k.wrap (BitVec.ofInt k.bits (if k.signed then -1 else k.max)^^^BitVec.ofInt k.bits n).toNat))
 | .not,.bool b=>some (.bool (!b))
 |_,_=>none
@[go_sem] theorem aeV(b:Bool):unF .not (.bool b)=some (.bool (!b)):=(rfl)
@[go_sem] theorem aeW(k:IntKind)(n:Int):unF .neg (.int k n)=some (.int k (k.wrap (0 - n))):=(rfl)
@[go_sem] theorem aeX(k:IntKind)(n:Int):unF .xor (.int k n)=some (.int k (k.wrap (BitVec.ofInt k.bits (if k.signed then -1 else k.max)^^^BitVec.ofInt k.bits n).toNat)):=(rfl)
def vH(v:Value)(F:Nat→Nat→Prop)(_t:Tag F:=⟨⟩):Prop:=match v with| .pointer (some ⟨b,o,none⟩)=>F b o|_=>False
@[go_sem] theorem aeY(b o:Nat)(F:Nat→Nat→Prop):vH (.pointer (some ⟨b,o,none⟩)) F=F b o:=(rfl)
theorem eZ{v:Value}{F:Nat→Nat→Prop}(h:vH v F):∃b o,v= .pointer (some ⟨b,o,none⟩)∧F b o:=by
 unfold vH at h;split at h
 ·exact⟨_,_,rfl,h⟩
 ·exact h.elim
def BZ(v:Value)(F:Int→Prop)(_t:Tag F:=⟨⟩):Prop:=match v with| .int _ n=>F n|_=>False
@[go_sem] theorem aeZ(k:IntKind)(n:Int)(F:Int→Prop):BZ (.int k n) F=F n:=(rfl)
theorem gX{v:Value}{F:Int→Prop}(h:BZ v F):∃k n,v= .int k n∧F n:=by
 unfold BZ at h;split at h
 ·exact⟨_,_,rfl,h⟩
 ·exact h.elim
def oz(v:Value)(F:Option Addr→Nat→Nat→Prop)(_t:Tag F:=⟨⟩):Prop:=match v with| .slice a n c=>F a n c|_=>False
@[go_sem] theorem aam(a:Option Addr)(n c:Nat)(F:Option Addr→Nat→Nat→Prop):oz (.slice a n c) F=F a n c:=(rfl)
theorem gW{v:Value}{F:Option Addr→Nat→Nat→Prop}(h:oz v F):∃a n c,v= .slice a n c∧F a n c:=by
 unfold oz at h;split at h
 ·exact⟨_,_,_,rfl,h⟩
 ·exact h.elim
def rU(a:Option Addr)(F:Nat→Nat→Prop)(_t:Tag F:=⟨⟩):Prop:=match a with|some ⟨b,o,none⟩=>F b o|_=>False
@[go_sem] theorem ady(b o:Nat)(F:Nat→Nat→Prop):rU (some ⟨b,o,none⟩) F=F b o:=(rfl)
theorem mF{a:Option Addr}{F:Nat→Nat→Prop}(h:rU a F):∃b o,a=some ⟨b,o,none⟩∧F b o:=by
 unfold rU at h;split at h
 ·exact⟨_,_,rfl,h⟩
 ·exact h.elim
def ix(v:Value)(F:ByteArray→Prop)(_t:Tag F:=⟨⟩):Prop:=match v with| .string s=>F s|_=>False
@[go_sem] theorem Zh(s:ByteArray)(F:ByteArray→Prop):ix (.string s) F=F s:=(rfl)
theorem me{v:Value}{F:ByteArray→Prop}(h:ix v F):∃s,v= .string s∧F s:=by
 unfold ix at h;split at h
 ·exact⟨_,rfl,h⟩
 ·exact h.elim
def PJ(v:Value)(F:List Value→Prop)(_t:Tag F:=⟨⟩):Prop:=match v with| .tuple vs=>F vs.toList|_=>False
@[go_sem] theorem ae0(l:List Value)(F:List Value→Prop):PJ (.tuple l.toArray) F=F l:=(rfl)
theorem IF{v:Value}{F:List Value→Prop}(h:PJ v F):∃vs,v= .tuple vs∧F vs.toList:=by
 unfold PJ at h;split at h
 ·exact⟨_,rfl,h⟩
 ·exact h.elim
def PL(v:Value)(F:List Value→Prop)(_t:Tag F:=⟨⟩):Prop:=match v with| .agg vs=>F vs.toList|_=>False
@[go_sem] theorem ae1(l:List Value)(F:List Value→Prop):PL (.agg l.toArray) F=F l:=(rfl)
theorem IG{v:Value}{F:List Value→Prop}(h:PL v F):∃vs,v= .agg vs∧F vs.toList:=by
 unfold PL at h;split at h
 ·exact⟨_,rfl,h⟩
 ·exact h.elim
def B0(v:Value)(F:Option Nat→Prop)(_t:Tag F:=⟨⟩):Prop:=match v with| .map r=>F r|_=>False
@[go_sem] theorem ae2(r:Option Nat)(F:Option Nat→Prop):B0 (.map r) F=F r:=(rfl)
theorem jD{v:Value}{F:Option Nat→Prop}(h:B0 v F):∃r,v= .map r∧F r:=by
 unfold B0 at h;split at h
 ·exact⟨_,rfl,h⟩
 ·exact h.elim
def M9(ev:Ev):List Operand→(List Value→Prop)→Prop
 | [],F=>F []
 |x::xs,F=>aA (ev x) fun v=>M9 ev xs fun vs=>F (v::vs)
@[go_sem ↓] theorem ae3(ev:Ev)(F:List Value→Prop):M9 ev [] F=F []:=(rfl)
@[go_sem ↓] theorem adz(ev:Ev)(x:Operand)(xs:List Operand)(F:List Value→Prop):M9 ev (x::xs) F=aA (ev x) fun v=>M9 ev xs fun vs=>F (v::vs):=(rfl)
theorem jQ{ev:Ev}{ρ:Operand→Value}(bz:∀x v,ev x=some v→ρ x=v):∀ {xs:List Operand} {F:List Value→Prop},M9 ev xs F→F (xs.map ρ):=by
 intro xs
 induction xs with
 |nil=>intro F h;exact h
 |cons x xs ih=>
  intro F h
  obtain⟨v,hv,h⟩:=az h
  have:=ih h
  rw[apg,bz x v hv]
  exact this
def zP(ev:Ev):List Value→List (Nat×Nat×Operand)→(List Value→Prop)→Prop
 |z,[],K=>K z
 |z,(off,size,x)::r,K=>aA (ev x) fun v=>dW ((aF v).length=size) (zP ev (aY z off (aF v)) r K)
@[go_sem ↓] theorem aan(ev:Ev)(z:List Value)(K:List Value→Prop):zP ev z [] K=K z:=(rfl)
@[go_sem ↓] theorem Zi(ev:Ev)(z:List Value)(off size:Nat)(x:Operand)(r:List (Nat×Nat×Operand))(K:List Value→Prop):
  zP ev z ((off,size,x)::r) K=aA (ev x) fun v=>dW ((aF v).length=size) (zP ev (aY z off (aF v)) r K):=(rfl)
def ce(z:List Value)(k:Nat):List Value:=(List.replicate k z).flatten
def fF(s:Shape)(k:Value):List MapEntry→Nat→Option (Option (Nat×Value))
 | [],_=>some none
 |e::es,i=>
  match qu s k e.key with
  |some true=>some (some (i,e.val))
  |some false=>fF s k es (i+1)
  |none=>none
def jM:Shape→Bool| .int| .str| .bool=>true|_=>false
def Br:Shape→Value→Bool
 | .int,.int _ _=>true
 | .str,.string _=>true
 | .bool,.bool _=>true
 | .s fs,.agg xs=>fs.all fun(off,agg,sh)=>agg.isNone && jM sh && (match sh,xs[off]? with| .int,some (.int _ _)=>true| .str,some (.string _)=>true| .bool,some (.bool _)=>true|_,_=>false)
 |_,_=>false
def xm(H:Hp)(s:Shape)(r:Option Nat)(k:Value)(F:Option Value→Prop)(_t:Tag F:=⟨⟩):Prop:=
 match r with
 |none=>F none
 |some b=>aA (H.mp b) fun m=>aA (fF s k m.1 0) fun x=>F (x.map (·.2))
def KQ(es:List MapEntry)(x:Option (Nat×Value))(k v:Value)(clock:Nat):List MapEntry:=
 match x with
 |some (i,_)=>es.modify i fun e=>{e with key:=k,val:=v}
 |none=>es++[{key:=k,val:=v,born:=clock}]
def Jd(x:Option (Nat×Value))(clock:Nat):Nat:=match x with|some _=>clock|none=>clock+1
def EV(es:List MapEntry)(x:Option (Nat×Value))(k:Value):Bool:=
 match x with
 |some (i,_)=>Instr.sameBits 10000 (((es[i]?).map (·.key)).getD k) k
 |none=>true
@[go_sem] theorem VM(es:List MapEntry)(k:Value):EV es none k=true:=(rfl)
def Fg(es:List MapEntry)(x:Option (Nat×Value)):List MapEntry:=match x with|some (i,_)=>es.eraseIdx i|none=>es
def R3(H:Hp)(s:Shape)(b:Nat)(k v:Value)(F:Hp→Prop)(_t:Tag F:=⟨⟩):Prop:=
 aA (H.mp b) fun es=>aA (fF s k es.1 0) fun x=>dW (EV es.1 x k=true) (F (H.Du b (KQ es.1 x k v es.2) (Jd x es.2)))
def Xy(H:Hp)(s:Shape)(b:Nat)(k:Value)(F:Hp→Prop)(_t:Tag F:=⟨⟩):Prop:=
 aA (H.mp b) fun es=>aA (fF s k es.1 0) fun x=>F (H.Du b (Fg es.1 x) es.2)
def Zj(H:Hp)(z:List Value)(a:Option Addr)(n:Nat)(F:Hp→Prop)(_t:Tag F:=⟨⟩):Prop:=
 (n=0∧F H)∨(n≠0∧∃b o l,a=some ⟨b,o,none⟩∧DW (H.own b) (H.nX b)=some l∧fE (ce z n)∧o+n*z.length≤l.length∧F (H.wr b (aY l o (ce z n))))
@[go_sem] theorem aao(k:IntKind)(n:Int):Br .int (.int k n)=true:=(rfl)
@[go_sem] theorem aap(s:ByteArray):Br .str (.string s)=true:=(rfl)
def dv(P:Program)(f:FuncId):Bool:=match P.funcs[f]? with|some fn=>fn.name != "runtime.NumGoroutine" && fn.body.isSome|none=>false
def R5(P:Program)(H:Hp)(T:TypeId)(v:Value)(name:String)(f:FuncId)(rv:Value):Prop:=
 dv P f=true∧∀w,w.heap=H→(method (P.types.size+Made.depth) T v name).run P w= .ok (f,rv) w
def gw(P:Program)(recv:Value)(name:String)(args:List Value)(H:Hp)(K:Value→Hp→Prop)(_t:Tag K:=⟨⟩):Prop:=
 ∃T v f rv,recv= .iface T v∧R5 P H T v name f rv∧af P f (rv::args) H K
def Xj(P:Program)(fv:Value)(args:List Value)(H:Hp)(K:Value→Hp→Prop)(_t:Tag K:=⟨⟩):Prop:=
 match fv with
 | .func (.func f) first captured=>dv P f=true∧af P f (first.toList++args++captured.toList) H K
 |_=>False
def ahM(P:Program)(f:FuncId)(vs:List Value)(H:Hp)(K:Value→Hp→Prop)(_t:Tag K:=⟨⟩):Prop:=∃v,(∀w,(callFunc f vs.toArray).run P w= .ok (.value v) w)∧K v H
def rowOf(H:Hp)(size:Nat)(v:Value)(F:Nat→List Value→Prop)(_t:Tag F:=⟨⟩):Prop:=
 match v with
 | .slice a n _=>DV (n==0) (F 0 []) (rU a fun b o=>aA (H.rd b) fun l=>dW (o+n*size≤l.length) (F n ((l.drop o).take (n*size))))
 | .string s=>dW (size=1) (F s.size (s.data.toList.map fun b=>.int .u8 b.toNat))
 |_=>False
def eM(T size bytes:Nat)(z:List Value)(s x:Value)(H:Hp)(K:Value→Hp→Prop)(_t:Tag K:=⟨⟩):Prop:=
 oz s fun base n c=>rowOf H size x fun m new=>
  (n+m≤c→m=0→K (.slice base n c) H)∧
  (n+m≤c→m≠0→rU base fun b o=>aA (DW (H.own b) (H.nX b)) fun l=>dW (o+(n+m)*size≤l.length∧fE new) (K (.slice base (n+m) c) (H.wr b (aY l (o+n*size) new))))∧
  (c<n+m→Builtin.nextslicecap (n+m) c*bytes≤2^48∧
   rowOf H size s fun _ PD=>∀c',n+m≤c'→K (.slice (some ⟨H.size,0,none⟩) (n+m) c') (H.new T (PD++new++ce z (c' - (n+m)))))
def TN(T:TypeId)(s:ByteArray)(H:Hp)(K:Value→Hp→Prop)(_t:Tag K:=⟨⟩):Prop:=
 ∀c,s.size≤c→K (.slice (some ⟨H.size,0,none⟩) s.size c) (H.jR T ((s.data.toList.map fun b=>.int .u8 b.toNat)++List.replicate (c - s.size) (.int .u8 0)))
def vp(T:TypeId)(v:Value)(F:Value→Prop)(_t:Tag F:=⟨⟩):Prop:=match v with| .iface t u=>dW (t=T) (F u)|_=>False
@[go_sem] theorem Zk(T t:TypeId)(u:Value)(F:Value→Prop):vp T (.iface t u) F=dW (t=T) (F u):=(rfl)
def Na(v:Value)(F:Bool→Prop)(_t:Tag F:=⟨⟩):Prop:=match v with| .nilIface=>F true| .iface _ _=>F false|_=>False
@[go_sem] theorem adA(F:Bool→Prop):Na .nilIface F=F true:=(rfl)
@[go_sem] theorem ae4(t:TypeId)(u:Value)(F:Bool→Prop):Na (.iface t u) F=F false:=(rfl)
theorem IH{v:Value}{F:Bool→Prop}(h:Na v F):(v= .nilIface∧F true)∨∃t u,v= .iface t u∧F false:=by
 unfold Na at h;split at h
 ·exact .inl ⟨rfl,h⟩
 ·exact .inr ⟨_,_,rfl,h⟩
 ·exact h.elim
def Ow(neg b:Bool):Bool:=bif neg then !b else b
@[go_sem] theorem ae5:Ow false false=false:=(rfl)
@[go_sem] theorem ae6:Ow false true=true:=(rfl)
@[go_sem] theorem ae7:Ow true false=true:=(rfl)
@[go_sem] theorem ae8:Ow true true=false:=(rfl)
theorem zQ{T:TypeId}{v:Value}{F:Value→Prop}(h:vp T v F):∃u,v= .iface T u∧F u:=by
 unfold vp at h;split at h
 ·obtain⟨rfl,h⟩:=h;exact⟨_,rfl,h⟩
 ·exact h.elim
def bytesOf:List Value→Option (List UInt8)
 | []=>some []
 | .int .u8 n::r=>(bytesOf r).map (UInt8.ofNat n.toNat:: ·)
 |_::_=>none
@[go_sem] theorem WI:bytesOf []=some []:=(rfl)
@[go_sem] theorem l9(n:Int)(r:List Value):bytesOf (.int .u8 n::r)=(bytesOf r).map (UInt8.ofNat n.toNat:: ·):=(rfl)
def tK(H:Hp)(v:Value)(F:List UInt8→Prop)(_t:Tag F:=⟨⟩):Prop:=
 match v with
 | .slice a n c=>rowOf H 1 (.slice a n c) fun _ l=>aA (bytesOf l) F
 |_=>False
@[go_sem] theorem aaq(H:Hp)(a:Option Addr)(n c:Nat)(F:List UInt8→Prop):tK H (.slice a n c) F=rowOf H 1 (.slice a n c) fun _ l=>aA (bytesOf l) F:=(rfl)
inductive de where
 |ay(x:Operand)
 |pick(c a b:Operand)
 |box(T:TypeId)(x:Operand)
 |zero(T:TypeId)(l:List Value)
 |build(z:List Value)(parts:List (Nat×Nat×Operand))
 |lit(T:TypeId)(n:Nat)(z:List Value)(parts:List (Nat×Nat×Operand))
 |aw(x:Operand)
 |rT(n:Nat)(x:Operand)
 |store(n:Nat)(x v:Operand)
 |nilCheck(x:Operand)
 |sG(op:BinOp)(s:Shape)(x y:Operand)
 |un(op:UnOp)(x:Operand)
 |conv(k:IntKind)(x:Operand)
 |iface(T:TypeId)(x:Operand)
 |func(fn:Fn)(first captured:List Operand)
 |Ox
 |makeSlice(T bytes size:Nat)(z:List Value)(n c:Operand)
 |slice(size:Nat)(x:Operand)(lo hi mx:Option Operand)
 |Jg(x:Operand)(lo hi:Option Operand)
 |fieldAddr(off:Nat)(x:Operand)
 |field(off:Nat)(agg:Option Nat)(x:Operand)
 |indexAddr(size:Nat)(x i:Operand)
 |zN(len size:Nat)(x i:Operand)
 |Jh(x i:Operand)
 |lookup(s:Shape)(z:Value)(ok:Bool)(m k:Operand)
 |update(s:Shape)(m k v:Operand)
 |extract(i:Nat)(x:Operand)
 |call(f:FuncId)(args:List Operand)
 |dyn(f:Operand)(args:List Operand)
 |invoke(r:Operand)(name:String)(args:List Operand)
 |DU(x:Operand)
 |Uf(x:Operand)
 |Ug(x:Operand)
 |append(T size bytes:Nat)(z:List Value)(x y:Operand)
 |delete(s:Shape)(m k:Operand)
 |MW(z:List Value)(x:Operand)
 |Uj(args:List Operand)
 |Uk(args:List Operand)
 |Ji(T:TypeId)(x:Operand)
 |Ul(neg:Bool)(x:Operand)
 |OF(x:Operand)
 |Jf(T:TypeId)(x:Operand)
 |ext(f:FuncId)(args:List Operand)
 deriving Inhabited
def fj(P:Program)(t:TypeId):Option Value:=(P.info? t).bind (·.zero)
def eJ:Nat:=8
def jK(place:Nat→Option (Nat×Nat))(Kq:Nat):List (Nat×Operand)→Option (List (Nat×Nat×Operand))
 | []=>some []
 | (i,x)::r=>
  match place i with
  |none=>none
  |some (off,size)=>if off+size≤Kq then(jK place Kq r).map ((off,size,x):: ·)else none
def Mz(P:Program)(fs:Array Field):Bool:=fs.all fun f=>(P.info? f.type).isSome
def placeOf(P:Program)(fs:Array Field):Array (Nat×Nat):=fs.map fun f=>(f.offset,P.cellsOf f.type)
def parts(P:Program)(t:TypeId)(Kq:Nat)(ps:List (Nat×Operand)):Option (List (Nat×Nat×Operand)):=
 match P.underlying t with
 |some (.struct fields)=>if Mz P fields then jK ((placeOf P fields)[·]?) Kq ps else none
 |some (.array _ e)=>if(P.info? e).isSome then jK (fun i=>some (i*P.cellsOf e,P.cellsOf e)) Kq ps else none
 |_=>none
end Go.Vc
