/- Texts put behind each other. -/
import Derived.Test.YtjlnnljohemifaaGreatK98
import Derived.Test.YtjlnnljohemifaaGreatK4
import Derived.Laws.StructEq
set_option maxRecDepth 100000
set_option maxHeartbeats 8000000
set_option linter.unusedVariables false
namespace Go.Vc
attribute [go_sem] anw aoi anG aod aoD anV apa List.drop_succ_cons
  List.take_zero List.take_succ_cons ao6 aoT aov am9
abbrev Ev:=Operand→Option Value
inductive Shape where
 |int|str|bool|ptr|YA|mp|fn|YB
 |s(fs:List (Nat×Option Nat×Shape))
 deriving Inhabited
def bc:Shape→Value→Value→Option Bool
 | .int,.int k a,.int k' b=>if k=k' then some (decide (a=b))else none
 | .str,.string a,.string b=>some (a.toList==b.toList)
 | .bool,.bool a,.bool b=>some (a==b)
 | .ptr,.pointer none,.pointer b=>some b.isNone
 | .ptr,.pointer (some _),.pointer none=>some false
 | .YA,.slice none _ _,.slice b _ _=>some b.isNone
 | .YA,.slice (some _) _ _,.slice none _ _=>some false
 | .mp,.map none,.map b=>some b.isNone
 | .mp,.map (some _),.map none=>some false
 | .fn,.nilFunc,.nilFunc=>some true
 | .fn,.func ..,.nilFunc=>some false
 | .fn,.nilFunc,.func .. =>some false
 | .YB,.nilIface,.iface .. =>some false
 | .YB,.iface ..,.nilIface=>some false
 |_,_,_=>none
def dR(l:List Value)(off:Nat)(agg:Option Nat):Option Value:=
 match agg with
 |some n=>if off+n≤l.length then some (.agg ((l.drop off).take n).toArray)else none
 |none=>l[off]?
@[go_sem] theorem Mn(l:List Value)(off:Nat):dR l off none=l[off]? :=(rfl)
@[go_sem] theorem W3(l:List Value)(off n:Nat):dR l off (some n)=if off+n≤l.length then some (.agg ((l.drop off).take n).toArray)else none:=(rfl)
mutual
def mO:Shape→Value→Value→Option Bool
 | .s fs,.agg xs,.agg ys=>vP fs xs.toList ys.toList
 |sh,x,y=>bc sh x y
def vP:List (Nat×Option Nat×Shape)→List Value→List Value→Option Bool
 | [],_,_=>some true
 | (off,agg,sh)::fs,xs,ys=>
  match dR xs off agg with
  |none=>none
  |some x=>
   match dR ys off agg with
   |none=>none
   |some y=>
    match mO sh x y with
    |some true=>vP fs xs ys
    |some false=>some false
    |none=>none
end
def eE(P:Program)(t:TypeId):Bool:=match P.underlying t with|some (.struct _)|some (.array _ _)=>true|_=>false
def yt(P:Program)(sh:TypeId→Option Shape):List Field→Option (List (Nat×Option Nat×Shape))
 | []=>some []
 |f::fs=>
  if f.name= "_" then none else
  match sh f.type with
  |none=>none
  |some s=>(yt P sh fs).map ((f.offset,(if eE P f.type then some (P.cellsOf f.type)else none),s):: ·)
def shapeOf(P:Program):Nat→TypeId→Option Shape
 |0,_=>none
 |d+1,t=>
  match P.underlying t with
  |some (.int _)=>some .int
  |some .string=>some .str
  |some .bool=>some .bool
  |some (.pointer _)=>some .ptr
  |some (.slice _)=>some .YA
  |some (.map _ _)=>some .mp
  |some (.func _ _ _)=>some .fn
  |some (.interface _)=>some .YB
  |some (.struct fs)=>if P.stoodInHeld t then none else(yt P (shapeOf P d) fs.toList).map .s
  |_=>none
def eM(P:Program)(d:Nat)(fs:List Field):Option (List (Nat×Option Nat×Shape)):=yt P (shapeOf P d) fs
theorem Ap(P:Program)(d:Nat):eM P d []=some []:=rfl
theorem nP(P:Program)(d:Nat)(f:Field)(fs:List Field):eM P d (f::fs)=
  if f.name= "_" then none else
  match shapeOf P d f.type with
  |none=>none
  |some s=>(eM P d fs).map ((f.offset,(if eE P f.type then some (P.cellsOf f.type)else none),s):: ·):=rfl
theorem fT(P:Program)(d:Nat)(t:TypeId):shapeOf P (d+1) t=
  match P.underlying t with
  |some (.int _)=>some .int
  |some .string=>some .str
  |some .bool=>some .bool
  |some (.pointer _)=>some .ptr
  |some (.slice _)=>some .YA
  |some (.map _ _)=>some .mp
  |some (.func _ _ _)=>some .fn
  |some (.interface _)=>some .YB
  |some (.struct fs)=>if P.stoodInHeld t then none else(eM P d fs.toList).map .s
  |_=>none:=rfl
def cd(op:BinOp)(s:Shape):Value→Value→Option Value
 | .int k a,.int k' b=>
  match op with
  | .shl=>if b<0 then none else some (.int k (k.wrap (a*2^ (min b.toNat k.bits))))
  | .shr=>if b<0 then none else some (.int k (a.fdiv (2^ (min b.toNat k.bits))))
  |_=>
   if k≠k' then none else
   match op with
   | .add=>some (.int k (k.wrap (a+b)))
   | .sub=>some (.int k (k.wrap (a - b)))
   | .mul=>some (.int k (k.wrap (a*b)))
   | .quo=>if b=0 then none else some (.int k (k.wrap (a.tdiv b)))
   | .rem=>if b=0 then none else some (.int k (a.tmod b))
   | .and=>some (.int k (k.wrap (BitVec.ofInt k.bits a &&& BitVec.ofInt k.bits b).toNat))
   | .or=>some (.int k (k.wrap (BitVec.ofInt k.bits a |||BitVec.ofInt k.bits b).toNat))
   | .xor=>some (.int k (k.wrap (BitVec.ofInt k.bits a^^^BitVec.ofInt k.bits b).toNat))
   | .andNot=>some (.int k (k.wrap (BitVec.ofInt k.bits a &&& ~~~ BitVec.ofInt k.bits b).toNat))
   | .eql=>some (.bool (decide (a=b)))
   | .neq=>some (.bool (!decide (a=b)))
   | .lss=>some (.bool (decide (a<b)))
   | .leq=>some (.bool (decide (a≤b)))
   | .gtr=>some (.bool (decide (a>b)))
   | .geq=>some (.bool (decide (a≥b)))
   |_=>none
 | .string x,.string y=>
  match op with
  | .add=>if((x.size+y.size:Nat):Int)>IntKind.i64.max then none else some (.string (x++y))
  | .eql=>some (.bool (x.toList==y.toList))
  | .neq=>some (.bool (!(x.toList==y.toList)))
  | .lss=>some (.bool (Op.bytesLess x.toList y.toList))
  | .leq=>some (.bool (Op.bytesLess x.toList y.toList || x.toList==y.toList))
  | .gtr=>some (.bool (!(Op.bytesLess x.toList y.toList || x.toList==y.toList)))
  | .geq=>some (.bool (!Op.bytesLess x.toList y.toList))
  |_=>none
 |x,y=>
  match op with
  | .eql=>(mO s x y).map .bool
  | .neq=>(mO s x y).map fun b=>.bool (!b)
  |_=>none
section
variable (s : Shape) (k : IntKind) (a b : Int)
@[go_sem] theorem abb:cd .add s (.int k a) (.int k b)=some (.int k (k.wrap (a+b))):=by simp[cd]
@[go_sem] theorem abc:cd .sub s (.int k a) (.int k b)=some (.int k (k.wrap (a - b))):=by simp[cd]
@[go_sem] theorem abd:cd .mul s (.int k a) (.int k b)=some (.int k (k.wrap (a*b))):=by simp[cd]
@[go_sem] theorem abe:cd .quo s (.int k a) (.int k b)=if b=0 then none else some (.int k (k.wrap (a.tdiv b))):=by simp[cd]
@[go_sem] theorem abf:cd .rem s (.int k a) (.int k b)=if b=0 then none else some (.int k (a.tmod b)):=by simp[cd]
@[go_sem] theorem abg:cd .eql s (.int k a) (.int k b)=some (.bool (decide (a=b))):=by simp[cd]
@[go_sem] theorem abh:cd .neq s (.int k a) (.int k b)=some (.bool (!decide (a=b))):=by simp[cd]
@[go_sem] theorem abi:cd .lss s (.int k a) (.int k b)=some (.bool (decide (a<b))):=by simp[cd]
@[go_sem] theorem abj:cd .leq s (.int k a) (.int k b)=some (.bool (decide (a≤b))):=by simp[cd]
@[go_sem] theorem abk:cd .gtr s (.int k a) (.int k b)=some (.bool (decide (a>b))):=by simp[cd]
@[go_sem] theorem abl:cd .geq s (.int k a) (.int k b)=some (.bool (decide (a≥b))):=by simp[cd]
@[go_sem] theorem abm:cd .and s (.int k a) (.int k b)=some (.int k (k.wrap (BitVec.ofInt k.bits a &&& BitVec.ofInt k.bits b).toNat)):=by simp[cd]
@[go_sem] theorem adt:cd .or s (.int k a) (.int k b)=some (.int k (k.wrap (BitVec.ofInt k.bits a |||BitVec.ofInt k.bits b).toNat)):=by simp[cd]
@[go_sem] theorem abn:cd .xor s (.int k a) (.int k b)=some (.int k (k.wrap (BitVec.ofInt k.bits a^^^BitVec.ofInt k.bits b).toNat)):=by simp[cd]
@[go_sem] theorem abo(k':IntKind):cd .shl s (.int k a) (.int k' b)=if b<0 then none else some (.int k (k.wrap (a*2^ (min b.toNat k.bits)))):=by simp[cd]
@[go_sem] theorem abp(k':IntKind):cd .shr s (.int k a) (.int k' b)=if b<0 then none else some (.int k (a.fdiv (2^ (min b.toNat k.bits)))):=by simp[cd]
variable (x y : ByteArray)
@[go_sem] theorem abq:cd .add s (.string x) (.string y)=if((x.size+y.size:Nat):Int)>IntKind.i64.max then none else some (.string (x++y)):=by simp[cd]
@[go_sem] theorem YC:cd .eql s (.string x) (.string y)=some (.bool (x.toList==y.toList)):=by simp[cd]
@[go_sem] theorem YD:cd .neq s (.string x) (.string y)=some (.bool (!(x.toList==y.toList))):=by simp[cd]
@[go_sem] theorem YE(u v:Bool):cd .eql .bool (.bool u) (.bool v)=some (.bool (u==v)):=by simp[cd,mO,bc]
@[go_sem] theorem YF(u v:Bool):cd .neq .bool (.bool u) (.bool v)=some (.bool (!(u==v))):=by simp[cd,mO,bc]
@[go_sem] theorem YG(u:Option Addr):cd .eql .ptr (.pointer u) (.pointer none)=some (.bool u.isNone):=by cases u<;>simp[cd,mO,bc]
@[go_sem] theorem YH(u:Option Addr):cd .neq .ptr (.pointer u) (.pointer none)=some (.bool (!u.isNone)):=by cases u<;>simp[cd,mO,bc]
@[go_sem] theorem W4(u:Option Addr)(n c:Nat):cd .eql .YA (.slice u n c) (.slice none 0 0)=some (.bool u.isNone):=by cases u<;>simp[cd,mO,bc]
@[go_sem] theorem W5(u:Option Addr)(n c:Nat):cd .neq .YA (.slice u n c) (.slice none 0 0)=some (.bool (!u.isNone)):=by cases u<;>simp[cd,mO,bc]
@[go_sem] theorem YI(t:TypeId)(v:Value):cd .eql .YB (.iface t v) .nilIface=some (.bool false):=by simp[cd,mO,bc]
@[go_sem] theorem YJ(t:TypeId)(v:Value):cd .neq .YB (.iface t v) .nilIface=some (.bool true):=by simp[cd,mO,bc]
@[go_sem] theorem TE(fs:List (Nat×Option Nat×Shape))(l l':List Value):cd .eql (.s fs) (.agg l.toArray) (.agg l'.toArray)=(vP fs l l').map .bool:=by simp[cd,mO]
@[go_sem] theorem TF(fs:List (Nat×Option Nat×Shape))(l l':List Value):cd .neq (.s fs) (.agg l.toArray) (.agg l'.toArray)=(vP fs l l').map fun b=>.bool (!b):=by simp[cd,mO]
end
@[go_sem] theorem abr(b:Bool)(F:Bool→Prop):ak (!b) F=ak b fun t=>F (!t):=by cases b<;>rfl
def unF:UnOp→Value→Option Value
 | .neg,.int k n=>some (.int k (k.wrap (0 - n)))
 | .xor,.int k n=>some (.int k (k.wrap (BitVec.ofInt k.bits (if k.signed then -1 else k.max)^^^BitVec.ofInt k.bits n).toNat))
 | .not,.bool b=>some (.bool (!b))
 |_,_=>none
@[go_sem] theorem adu(b:Bool):unF .not (.bool b)=some (.bool (!b)):=(rfl)
@[go_sem] theorem adv(k:IntKind)(n:Int):unF .neg (.int k n)=some (.int k (k.wrap (0 - n))):=(rfl)
@[go_sem] theorem adw(k:IntKind)(n:Int):unF .xor (.int k n)=some (.int k (k.wrap (BitVec.ofInt k.bits (if k.signed then -1 else k.max)^^^BitVec.ofInt k.bits n).toNat)):=(rfl)
def wk(v:Value)(F:Nat→Nat→Prop)(_t:Tag F:=⟨⟩):Prop:=match v with| .pointer (some ⟨b,o,none⟩)=>F b o|_=>False
@[go_sem] theorem adx(b o:Nat)(F:Nat→Nat→Prop):wk (.pointer (some ⟨b,o,none⟩)) F=F b o:=(rfl)
theorem eQ{v:Value}{F:Nat→Nat→Prop}(h:wk v F):∃b o,v= .pointer (some ⟨b,o,none⟩)∧F b o:=by
 unfold wk at h;split at h
 ·exact⟨_,_,rfl,h⟩
 ·exact h.elim
def B6(v:Value)(F:Int→Prop)(_t:Tag F:=⟨⟩):Prop:=match v with| .int _ n=>F n|_=>False
@[go_sem] theorem ady(k:IntKind)(n:Int)(F:Int→Prop):B6 (.int k n) F=F n:=(rfl)
theorem iu{v:Value}{F:Int→Prop}(h:B6 v F):∃k n,v= .int k n∧F n:=by
 unfold B6 at h;split at h
 ·exact⟨_,_,rfl,h⟩
 ·exact h.elim
def nQ(v:Value)(F:Option Addr→Nat→Nat→Prop)(_t:Tag F:=⟨⟩):Prop:=match v with| .slice a n c=>F a n c|_=>False
@[go_sem] theorem YK(a:Option Addr)(n c:Nat)(F:Option Addr→Nat→Nat→Prop):nQ (.slice a n c) F=F a n c:=(rfl)
theorem iw{v:Value}{F:Option Addr→Nat→Nat→Prop}(h:nQ v F):∃a n c,v= .slice a n c∧F a n c:=by
 unfold nQ at h;split at h
 ·exact⟨_,_,_,rfl,h⟩
 ·exact h.elim
def tH(a:Option Addr)(F:Nat→Nat→Prop)(_t:Tag F:=⟨⟩):Prop:=match a with|some ⟨b,o,none⟩=>F b o|_=>False
@[go_sem] theorem abu(b o:Nat)(F:Nat→Nat→Prop):tH (some ⟨b,o,none⟩) F=F b o:=(rfl)
theorem mG{a:Option Addr}{F:Nat→Nat→Prop}(h:tH a F):∃b o,a=some ⟨b,o,none⟩∧F b o:=by
 unfold tH at h;split at h
 ·exact⟨_,_,rfl,h⟩
 ·exact h.elim
def jd(v:Value)(F:ByteArray→Prop)(_t:Tag F:=⟨⟩):Prop:=match v with| .string s=>F s|_=>False
@[go_sem] theorem W6(s:ByteArray)(F:ByteArray→Prop):jd (.string s) F=F s:=(rfl)
theorem lM{v:Value}{F:ByteArray→Prop}(h:jd v F):∃s,v= .string s∧F s:=by
 unfold jd at h;split at h
 ·exact⟨_,rfl,h⟩
 ·exact h.elim
def O7(v:Value)(F:List Value→Prop)(_t:Tag F:=⟨⟩):Prop:=match v with| .tuple vs=>F vs.toList|_=>False
@[go_sem] theorem adz(l:List Value)(F:List Value→Prop):O7 (.tuple l.toArray) F=F l:=(rfl)
theorem Hv{v:Value}{F:List Value→Prop}(h:O7 v F):∃vs,v= .tuple vs∧F vs.toList:=by
 unfold O7 at h;split at h
 ·exact⟨_,rfl,h⟩
 ·exact h.elim
def O8(v:Value)(F:List Value→Prop)(_t:Tag F:=⟨⟩):Prop:=match v with| .agg vs=>F vs.toList|_=>False
@[go_sem] theorem adA(l:List Value)(F:List Value→Prop):O8 (.agg l.toArray) F=F l:=(rfl)
theorem Hw{v:Value}{F:List Value→Prop}(h:O8 v F):∃vs,v= .agg vs∧F vs.toList:=by
 unfold O8 at h;split at h
 ·exact⟨_,rfl,h⟩
 ·exact h.elim
def B7(v:Value)(F:Option Nat→Prop)(_t:Tag F:=⟨⟩):Prop:=match v with| .map r=>F r|_=>False
@[go_sem] theorem adB(r:Option Nat)(F:Option Nat→Prop):B7 (.map r) F=F r:=(rfl)
theorem jH{v:Value}{F:Option Nat→Prop}(h:B7 v F):∃r,v= .map r∧F r:=by
 unfold B7 at h;split at h
 ·exact⟨_,rfl,h⟩
 ·exact h.elim
def MH(ev:Ev):List Operand→(List Value→Prop)→Prop
 | [],F=>F []
 |x::xs,F=>aA (ev x) fun v=>MH ev xs fun vs=>F (v::vs)
@[go_sem ↓] theorem adC(ev:Ev)(F:List Value→Prop):MH ev [] F=F []:=(rfl)
@[go_sem ↓] theorem abv(ev:Ev)(x:Operand)(xs:List Operand)(F:List Value→Prop):MH ev (x::xs) F=aA (ev x) fun v=>MH ev xs fun vs=>F (v::vs):=(rfl)
theorem kE{ev:Ev}{ρ:Operand→Value}(bC:∀x v,ev x=some v→ρ x=v):∀ {xs:List Operand} {F:List Value→Prop},MH ev xs F→F (xs.map ρ):=by
 intro xs
 induction xs with
 |nil=>intro F h;exact h
 |cons x xs ih=>
  intro F h
  obtain⟨v,hv,h⟩:=ay h
  have:=ih h
  rw[an3,bC x v hv]
  exact this
def Aq(ev:Ev):List Value→List (Nat×Nat×Operand)→(List Value→Prop)→Prop
 |z,[],K=>K z
 |z,(off,size,x)::r,K=>aA (ev x) fun v=>dt ((aF v).length=size) (Aq ev (bf z off (aF v)) r K)
@[go_sem ↓] theorem YL(ev:Ev)(z:List Value)(K:List Value→Prop):Aq ev z [] K=K z:=(rfl)
@[go_sem ↓] theorem W7(ev:Ev)(z:List Value)(off size:Nat)(x:Operand)(r:List (Nat×Nat×Operand))(K:List Value→Prop):
  Aq ev z ((off,size,x)::r) K=aA (ev x) fun v=>dt ((aF v).length=size) (Aq ev (bf z off (aF v)) r K):=(rfl)
def cz(z:List Value)(k:Nat):List Value:=(List.replicate k z).flatten
def fL(s:Shape)(k:Value):List MapEntry→Nat→Option (Option (Nat×Value))
 | [],_=>some none
 |e::es,i=>
  match mO s k e.key with
  |some true=>some (some (i,e.val))
  |some false=>fL s k es (i+1)
  |none=>none
def jM:Shape→Bool| .int| .str| .bool=>true|_=>false
def Aa:Shape→Value→Bool
 | .int,.int _ _=>true
 | .str,.string _=>true
 | .bool,.bool _=>true
 | .s fs,.agg xs=>fs.all fun(off,agg,sh)=>agg.isNone && jM sh && (match sh,xs[off]? with| .int,some (.int _ _)=>true| .str,some (.string _)=>true| .bool,some (.bool _)=>true|_,_=>false)
 |_,_=>false
def wM(H:Hp)(s:Shape)(r:Option Nat)(k:Value)(F:Option Value→Prop)(_t:Tag F:=⟨⟩):Prop:=
 match r with
 |none=>F none
 |some b=>aA (H.mp b) fun m=>aA (fL s k m.1 0) fun x=>F (x.map (·.2))
def Kk(es:List MapEntry)(x:Option (Nat×Value))(k v:Value)(clock:Nat):List MapEntry:=
 match x with
 |some (i,_)=>es.modify i fun e=>{e with key:=k,val:=v}
 |none=>es++[{key:=k,val:=v,born:=clock}]
def IM(x:Option (Nat×Value))(clock:Nat):Nat:=match x with|some _=>clock|none=>clock+1
def DA(es:List MapEntry)(x:Option (Nat×Value))(k:Value):Bool:=
 match x with
 |some (i,_)=>Instr.sameBits 10000 (((es[i]?).map (·.key)).getD k) k
 |none=>true
@[go_sem] theorem TG(es:List MapEntry)(k:Value):DA es none k=true:=(rfl)
def Fa(es:List MapEntry)(x:Option (Nat×Value)):List MapEntry:=match x with|some (i,_)=>es.eraseIdx i|none=>es
def QU(H:Hp)(s:Shape)(b:Nat)(k v:Value)(F:Hp→Prop)(_t:Tag F:=⟨⟩):Prop:=
 aA (H.mp b) fun es=>aA (fL s k es.1 0) fun x=>dt (DA es.1 x k=true) (F (H.Ch b (Kk es.1 x k v es.2) (IM x es.2)))
def W8(H:Hp)(s:Shape)(b:Nat)(k:Value)(F:Hp→Prop)(_t:Tag F:=⟨⟩):Prop:=
 aA (H.mp b) fun es=>aA (fL s k es.1 0) fun x=>F (H.Ch b (Fa es.1 x) es.2)
def W9(H:Hp)(z:List Value)(a:Option Addr)(n:Nat)(F:Hp→Prop)(_t:Tag F:=⟨⟩):Prop:=
 (n=0∧F H)∨(n≠0∧∃b o l,a=some ⟨b,o,none⟩∧ID (H.own b) (H.AH b)=some l∧gv (cz z n)∧o+n*z.length≤l.length∧F (H.wr b (bf l o (cz z n))))
@[go_sem] theorem YM(k:IntKind)(n:Int):Aa .int (.int k n)=true:=(rfl)
@[go_sem] theorem YN(s:ByteArray):Aa .str (.string s)=true:=(rfl)
def ee(P:Program)(f:FuncId):Bool:=match P.funcs[f]? with|some fn=>fn.name != "runtime.NumGoroutine" && fn.body.isSome|none=>false
def Ry(P:Program)(H:Hp)(T:TypeId)(v:Value)(name:String)(f:FuncId)(rv:Value):Prop:=
 ee P f=true∧∀w,w.heap=H→(method (P.types.size+Made.depth) T v name).run P w= .ok (f,rv) w
def gC(P:Program)(recv:Value)(name:String)(args:List Value)(H:Hp)(K:Value→Hp→Prop)(_t:Tag K:=⟨⟩):Prop:=
 ∃T v f rv,recv= .iface T v∧Ry P H T v name f rv∧af P f (rv::args) H K
def Xa(P:Program)(fv:Value)(args:List Value)(H:Hp)(K:Value→Hp→Prop)(_t:Tag K:=⟨⟩):Prop:=
 match fv with
 | .func (.func f) first captured=>ee P f=true∧af P f (first.toList++args++captured.toList) H K
 |_=>False
def agi(P:Program)(f:FuncId)(vs:List Value)(H:Hp)(K:Value→Hp→Prop)(_t:Tag K:=⟨⟩):Prop:=∃v,(∀w,(callFunc f vs.toArray).run P w= .ok (.value v) w)∧K v H
def rowOf(H:Hp)(size:Nat)(v:Value)(F:Nat→List Value→Prop)(_t:Tag F:=⟨⟩):Prop:=
 match v with
 | .slice a n _=>E8 (n==0) (F 0 []) (tH a fun b o=>aA (H.rd b) fun l=>dt (o+n*size≤l.length) (F n ((l.drop o).take (n*size))))
 | .string s=>dt (size=1) (F s.size (s.data.toList.map fun b=>.int .u8 b.toNat))
 |_=>False
def fQ(T size bytes:Nat)(z:List Value)(s x:Value)(H:Hp)(K:Value→Hp→Prop)(_t:Tag K:=⟨⟩):Prop:=
 nQ s fun base n c=>rowOf H size x fun m new=>
  (n+m≤c→m=0→K (.slice base n c) H)∧
  (n+m≤c→m≠0→tH base fun b o=>aA (ID (H.own b) (H.AH b)) fun l=>dt (o+(n+m)*size≤l.length∧gv new) (K (.slice base (n+m) c) (H.wr b (bf l (o+n*size) new))))∧
  (c<n+m→Builtin.nextslicecap (n+m) c*bytes≤2^48∧
   rowOf H size s fun _ Q4=>∀c',n+m≤c'→K (.slice (some ⟨H.size,0,none⟩) (n+m) c') (H.new T (Q4++new++cz z (c' - (n+m)))))
def Rz(T:TypeId)(s:ByteArray)(H:Hp)(K:Value→Hp→Prop)(_t:Tag K:=⟨⟩):Prop:=
 ∀c,s.size≤c→K (.slice (some ⟨H.size,0,none⟩) s.size c) (H.MD T ((s.data.toList.map fun b=>.int .u8 b.toNat)++List.replicate (c - s.size) (.int .u8 0)))
def uw(T:TypeId)(v:Value)(F:Value→Prop)(_t:Tag F:=⟨⟩):Prop:=match v with| .iface t u=>dt (t=T) (F u)|_=>False
@[go_sem] theorem Xb(T t:TypeId)(u:Value)(F:Value→Prop):uw T (.iface t u) F=dt (t=T) (F u):=(rfl)
def MI(v:Value)(F:Bool→Prop)(_t:Tag F:=⟨⟩):Prop:=match v with| .nilIface=>F true| .iface _ _=>F false|_=>False
@[go_sem] theorem abw(F:Bool→Prop):MI .nilIface F=F true:=(rfl)
@[go_sem] theorem adD(t:TypeId)(u:Value)(F:Bool→Prop):MI (.iface t u) F=F false:=(rfl)
theorem Hx{v:Value}{F:Bool→Prop}(h:MI v F):(v= .nilIface∧F true)∨∃t u,v= .iface t u∧F false:=by
 unfold MI at h;split at h
 ·exact .inl ⟨rfl,h⟩
 ·exact .inr ⟨_,_,rfl,h⟩
 ·exact h.elim
def MJ(neg b:Bool):Bool:=bif neg then !b else b
@[go_sem] theorem adE:MJ false false=false:=(rfl)
@[go_sem] theorem adF:MJ false true=true:=(rfl)
@[go_sem] theorem adG:MJ true false=true:=(rfl)
@[go_sem] theorem adH:MJ true true=false:=(rfl)
theorem As{T:TypeId}{v:Value}{F:Value→Prop}(h:uw T v F):∃u,v= .iface T u∧F u:=by
 unfold uw at h;split at h
 ·obtain⟨rfl,h⟩:=h;exact⟨_,rfl,h⟩
 ·exact h.elim
def bytesOf:List Value→Option (List UInt8)
 | []=>some []
 | .int .u8 n::r=>(bytesOf r).map (UInt8.ofNat n.toNat:: ·)
 |_::_=>none
@[go_sem] theorem UG:bytesOf []=some []:=(rfl)
@[go_sem] theorem TH(n:Int)(r:List Value):bytesOf (.int .u8 n::r)=(bytesOf r).map (UInt8.ofNat n.toNat:: ·):=(rfl)
def tO(H:Hp)(v:Value)(F:List UInt8→Prop)(_t:Tag F:=⟨⟩):Prop:=
 match v with
 | .slice a n c=>rowOf H 1 (.slice a n c) fun _ l=>aA (bytesOf l) F
 |_=>False
@[go_sem] theorem YO(H:Hp)(a:Option Addr)(n c:Nat)(F:List UInt8→Prop):tO H (.slice a n c) F=rowOf H 1 (.slice a n c) fun _ l=>aA (bytesOf l) F:=(rfl)
inductive c7 where
 |mov(x:Operand)
 |pick(c a b:Operand)
 |box(T:TypeId)(x:Operand)
 |zero(T:TypeId)(l:List Value)
 |build(z:List Value)(parts:List (Nat×Nat×Operand))
 |lit(T:TypeId)(n:Nat)(z:List Value)(parts:List (Nat×Nat×Operand))
 |NJ(x:Operand)
 |NK(n:Nat)(x:Operand)
 |store(n:Nat)(x v:Operand)
 |nilCheck(x:Operand)
 |bin(op:BinOp)(s:Shape)(x y:Operand)
 |un(op:UnOp)(x:Operand)
 |conv(k:IntKind)(x:Operand)
 |iface(T:TypeId)(x:Operand)
 |func(fn:Fn)(first captured:List Operand)
 |MK
 |makeSlice(T bytes size:Nat)(z:List Value)(n c:Operand)
 |slice(size:Nat)(x:Operand)(lo hi mx:Option Operand)
 |IN(x:Operand)(lo hi:Option Operand)
 |fieldAddr(off:Nat)(x:Operand)
 |field(off:Nat)(agg:Option Nat)(x:Operand)
 |indexAddr(size:Nat)(x i:Operand)
 |Au(len size:Nat)(x i:Operand)
 |IP(x i:Operand)
 |lookup(s:Shape)(z:Value)(ok:Bool)(m k:Operand)
 |update(s:Shape)(m k v:Operand)
 |extract(i:Nat)(x:Operand)
 |call(f:FuncId)(args:List Operand)
 |dyn(f:Operand)(args:List Operand)
 |invoke(r:Operand)(name:String)(args:List Operand)
 |TI(x:Operand)
 |TJ(x:Operand)
 |TK(x:Operand)
 |append(T size bytes:Nat)(z:List Value)(x y:Operand)
 |delete(s:Shape)(m k:Operand)
 |ML(z:List Value)(x:Operand)
 |TL(args:List Operand)
 |TM(args:List Operand)
 |IQ(T:TypeId)(x:Operand)
 |TN(neg:Bool)(x:Operand)
 |NL(x:Operand)
 |IR(T:TypeId)(x:Operand)
 |ext(f:FuncId)(args:List Operand)
 deriving Inhabited
def fh(P:Program)(t:TypeId):Option Value:=(P.info? t).bind (·.zero)
def eF:Nat:=8
def jN(place:Nat→Option (Nat×Nat))(IS:Nat):List (Nat×Operand)→Option (List (Nat×Nat×Operand))
 | []=>some []
 | (i,x)::r=>
  match place i with
  |none=>none
  |some (off,size)=>if off+size≤IS then(jN place IS r).map ((off,size,x):: ·)else none
def KD(P:Program)(fs:Array Field):Bool:=fs.all fun f=>(P.info? f.type).isSome
def placeOf(P:Program)(fs:Array Field):Array (Nat×Nat):=fs.map fun f=>(f.offset,P.cellsOf f.type)
def parts(P:Program)(t:TypeId)(IS:Nat)(ps:List (Nat×Operand)):Option (List (Nat×Nat×Operand)):=
 match P.underlying t with
 |some (.struct fields)=>if KD P fields then jN ((placeOf P fields)[·]?) IS ps else none
 |some (.array _ e)=>if(P.info? e).isSome then jN (fun i=>some (i*P.cellsOf e,P.cellsOf e)) IS ps else none
 |_=>none
end Go.Vc
