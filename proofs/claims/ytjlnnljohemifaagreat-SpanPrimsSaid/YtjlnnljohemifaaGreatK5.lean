/- Texts put behind each other. -/
import Derived.Test.YtjlnnljohemifaaGreatK98
import Derived.Test.YtjlnnljohemifaaGreatK4
import Derived.Laws.StructEq
set_option maxRecDepth 100000
set_option maxHeartbeats 8000000
set_option linter.unusedVariables false
namespace Go.Vc
attribute [go_sem] aoD apl aoM apg apH ao1 aqe List.drop_succ_cons
  List.take_zero List.take_succ_cons aqa apX apz aoi
abbrev Ev:=Operand→Option Value
inductive Shape where
 |int|str|bool|ptr|Wm|mp|fn|ZM
 |s(fs:List (Nat×Option Nat×Shape))
 deriving Inhabited
def bj:Shape→Value→Value→Option Bool
 | .int,.int k a,.int k' b=>if k=k' then some (decide (a=b))else none
 | .str,.string a,.string b=>some (a.toList==b.toList)
 | .bool,.bool a,.bool b=>some (a==b)
 | .ptr,.pointer none,.pointer b=>some b.isNone
 | .ptr,.pointer (some _),.pointer none=>some false
 | .Wm,.slice none _ _,.slice b _ _=>some b.isNone
 | .Wm,.slice (some _) _ _,.slice none _ _=>some false
 | .mp,.map none,.map b=>some b.isNone
 | .mp,.map (some _),.map none=>some false
 | .fn,.nilFunc,.nilFunc=>some true
 | .fn,.func ..,.nilFunc=>some false
 | .fn,.nilFunc,.func .. =>some false
 | .ZM,.nilIface,.iface .. =>some false
 | .ZM,.iface ..,.nilIface=>some false
 |_,_,_=>none
def ee(l:List Value)(off:Nat)(agg:Option Nat):Option Value:=
 match agg with
 |some n=>if off+n≤l.length then some (.agg ((l.drop off).take n).toArray)else none
 |none=>l[off]?
@[go_sem] theorem NG(l:List Value)(off:Nat):ee l off none=l[off]? :=(rfl)
@[go_sem] theorem Yd(l:List Value)(off n:Nat):ee l off (some n)=if off+n≤l.length then some (.agg ((l.drop off).take n).toArray)else none:=(rfl)
mutual
def nZ:Shape→Value→Value→Option Bool
 | .s fs,.agg xs,.agg ys=>xx fs xs.toList ys.toList
 |sh,x,y=>bj sh x y
def xx:List (Nat×Option Nat×Shape)→List Value→List Value→Option Bool
 | [],_,_=>some true
 | (off,agg,sh)::fs,xs,ys=>
  match ee xs off agg with
  |none=>none
  |some x=>
   match ee ys off agg with
   |none=>none
   |some y=>
    match nZ sh x y with
    |some true=>xx fs xs ys
    |some false=>some false
    |none=>none
end
def eU(P:Program)(t:TypeId):Bool:=match P.underlying t with|some (.struct _)|some (.array _ _)=>true|_=>false
def zS(P:Program)(sh:TypeId→Option Shape):List Field→Option (List (Nat×Option Nat×Shape))
 | []=>some []
 |f::fs=>
  if f.name= "_" then none else
  match sh f.type with
  |none=>none
  |some s=>(zS P sh fs).map ((f.offset,(if eU P f.type then some (P.cellsOf f.type)else none),s):: ·)
def shapeOf(P:Program):Nat→TypeId→Option Shape
 |0,_=>none
 |d+1,t=>
  match P.underlying t with
  |some (.int _)=>some .int
  |some .string=>some .str
  |some .bool=>some .bool
  |some (.pointer _)=>some .ptr
  |some (.slice _)=>some .Wm
  |some (.map _ _)=>some .mp
  |some (.func _ _ _)=>some .fn
  |some (.interface _)=>some .ZM
  |some (.struct fs)=>if P.stoodInHeld t then none else(zS P (shapeOf P d) fs.toList).map .s
  |_=>none
def fg(P:Program)(d:Nat)(fs:List Field):Option (List (Nat×Option Nat×Shape)):=zS P (shapeOf P d) fs
theorem BO(P:Program)(d:Nat):fg P d []=some []:=rfl
theorem pk(P:Program)(d:Nat)(f:Field)(fs:List Field):fg P d (f::fs)=
  if f.name= "_" then none else
  match shapeOf P d f.type with
  |none=>none
  |some s=>(fg P d fs).map ((f.offset,(if eU P f.type then some (P.cellsOf f.type)else none),s):: ·):=rfl
theorem gv(P:Program)(d:Nat)(t:TypeId):shapeOf P (d+1) t=
  match P.underlying t with
  |some (.int _)=>some .int
  |some .string=>some .str
  |some .bool=>some .bool
  |some (.pointer _)=>some .ptr
  |some (.slice _)=>some .Wm
  |some (.map _ _)=>some .mp
  |some (.func _ _ _)=>some .fn
  |some (.interface _)=>some .ZM
  |some (.struct fs)=>if P.stoodInHeld t then none else(fg P d fs.toList).map .s
  |_=>none:=rfl
def cr(op:BinOp)(s:Shape):Value→Value→Option Value
 | .int k a,.int k' b=>
  match op with
  | .shl=>if b<0 then none else some (.int k (k.wrap (a*2^ (min b.toNat k.bits))))
  | .shr=>if b<0 then none else some (.int k (a.fdiv (2^ (min b.toNat k.bits))))
  |_=>
   if k≠k' then none else
   match op with
   | .add=>some (.int k (k.wrap (a+b)))
   | .sub=>some (.int k (k.wrap (a - b)))
   | .mul=>some (.int k (k.wrap (a*b)))
   | .quo=>if b=0 then none else some (.int k (k.wrap (a.tdiv b)))
   | .rem=>if b=0 then none else some (.int k (a.tmod b))
   | .and=>some (.int k (k.wrap (BitVec.ofInt k.bits a &&& BitVec.ofInt k.bits b).toNat))
   | .or=>some (.int k (k.wrap (BitVec.ofInt k.bits a |||BitVec.ofInt k.bits b).toNat))
   | .xor=>some (.int k (k.wrap (BitVec.ofInt k.bits a^^^BitVec.ofInt k.bits b).toNat))
   | .andNot=>some (.int k (k.wrap (BitVec.ofInt k.bits a &&& ~~~ BitVec.ofInt k.bits b).toNat))
   | .eql=>some (.bool (decide (a=b)))
   | .neq=>some (.bool (!decide (a=b)))
   | .lss=>some (.bool (decide (a<b)))
   | .leq=>some (.bool (decide (a≤b)))
   | .gtr=>some (.bool (decide (a>b)))
   | .geq=>some (.bool (decide (a≥b)))
   |_=>none
 | .string x,.string y=>
  match op with
  | .add=>if((x.size+y.size:Nat):Int)>IntKind.i64.max then none else some (.string (x++y))
  | .eql=>some (.bool (x.toList==y.toList))
  | .neq=>some (.bool (!(x.toList==y.toList)))
  | .lss=>some (.bool (Op.bytesLess x.toList y.toList))
  | .leq=>some (.bool (Op.bytesLess x.toList y.toList || x.toList==y.toList))
  | .gtr=>some (.bool (!(Op.bytesLess x.toList y.toList || x.toList==y.toList)))
  | .geq=>some (.bool (!Op.bytesLess x.toList y.toList))
  |_=>none
 |x,y=>
  match op with
  | .eql=>(nZ s x y).map .bool
  | .neq=>(nZ s x y).map fun b=>.bool (!b)
  |_=>none
section
variable (s : Shape) (k : IntKind) (a b : Int)
@[go_sem] theorem acl:cr .add s (.int k a) (.int k b)=some (.int k (k.wrap (a+b))):=by simp[cr]
@[go_sem] theorem acm:cr .sub s (.int k a) (.int k b)=some (.int k (k.wrap (a - b))):=by simp[cr]
@[go_sem] theorem acn:cr .mul s (.int k a) (.int k b)=some (.int k (k.wrap (a*b))):=by simp[cr]
@[go_sem] theorem aco:cr .quo s (.int k a) (.int k b)=if b=0 then none else some (.int k (k.wrap (a.tdiv b))):=by simp[cr]
@[go_sem] theorem acp:cr .rem s (.int k a) (.int k b)=if b=0 then none else some (.int k (a.tmod b)):=by simp[cr]
@[go_sem] theorem acq:cr .eql s (.int k a) (.int k b)=some (.bool (decide (a=b))):=by simp[cr]
@[go_sem] theorem acr:cr .neq s (.int k a) (.int k b)=some (.bool (!decide (a=b))):=by simp[cr]
@[go_sem] theorem acs:cr .lss s (.int k a) (.int k b)=some (.bool (decide (a<b))):=by simp[cr]
@[go_sem] theorem acu:cr .leq s (.int k a) (.int k b)=some (.bool (decide (a≤b))):=by simp[cr]
@[go_sem] theorem acv:cr .gtr s (.int k a) (.int k b)=some (.bool (decide (a>b))):=by simp[cr]
@[go_sem] theorem acw:cr .geq s (.int k a) (.int k b)=some (.bool (decide (a≥b))):=by simp[cr]
@[go_sem] theorem acx:cr .and s (.int k a) (.int k b)=some (.int k (k.wrap (BitVec.ofInt k.bits a &&& BitVec.ofInt k.bits b).toNat)):=by simp[cr]
@[go_sem] theorem aez:cr .or s (.int k a) (.int k b)=some (.int k (k.wrap (BitVec.ofInt k.bits a |||BitVec.ofInt k.bits b).toNat)):=by simp[cr]
@[go_sem] theorem acy:cr .xor s (.int k a) (.int k b)=some (.int k (k.wrap (BitVec.ofInt k.bits a^^^BitVec.ofInt k.bits b).toNat)):=by simp[cr]
@[go_sem] theorem acz(k':IntKind):cr .shl s (.int k a) (.int k' b)=if b<0 then none else some (.int k (k.wrap (a*2^ (min b.toNat k.bits)))):=by simp[cr]
@[go_sem] theorem acA(k':IntKind):cr .shr s (.int k a) (.int k' b)=if b<0 then none else some (.int k (a.fdiv (2^ (min b.toNat k.bits)))):=by simp[cr]
variable (x y : ByteArray)
@[go_sem] theorem acB:cr .add s (.string x) (.string y)=if((x.size+y.size:Nat):Int)>IntKind.i64.max then none else some (.string (x++y)):=by simp[cr]
@[go_sem] theorem ZN:cr .eql s (.string x) (.string y)=some (.bool (x.toList==y.toList)):=by simp[cr]
@[go_sem] theorem ZO:cr .neq s (.string x) (.string y)=some (.bool (!(x.toList==y.toList))):=by simp[cr]
@[go_sem] theorem ZP(u v:Bool):cr .eql .bool (.bool u) (.bool v)=some (.bool (u==v)):=by simp[cr,nZ,bj]
@[go_sem] theorem ZQ(u v:Bool):cr .neq .bool (.bool u) (.bool v)=some (.bool (!(u==v))):=by simp[cr,nZ,bj]
@[go_sem] theorem ZR(u:Option Addr):cr .eql .ptr (.pointer u) (.pointer none)=some (.bool u.isNone):=by cases u<;>simp[cr,nZ,bj]
@[go_sem] theorem ZS(u:Option Addr):cr .neq .ptr (.pointer u) (.pointer none)=some (.bool (!u.isNone)):=by cases u<;>simp[cr,nZ,bj]
@[go_sem] theorem Ye(u:Option Addr)(n c:Nat):cr .eql .Wm (.slice u n c) (.slice none 0 0)=some (.bool u.isNone):=by cases u<;>simp[cr,nZ,bj]
@[go_sem] theorem Yf(u:Option Addr)(n c:Nat):cr .neq .Wm (.slice u n c) (.slice none 0 0)=some (.bool (!u.isNone)):=by cases u<;>simp[cr,nZ,bj]
@[go_sem] theorem ZT(t:TypeId)(v:Value):cr .eql .ZM (.iface t v) .nilIface=some (.bool false):=by simp[cr,nZ,bj]
@[go_sem] theorem ZU(t:TypeId)(v:Value):cr .neq .ZM (.iface t v) .nilIface=some (.bool true):=by simp[cr,nZ,bj]
@[go_sem] theorem UR(fs:List (Nat×Option Nat×Shape))(l l':List Value):cr .eql (.s fs) (.agg l.toArray) (.agg l'.toArray)=(xx fs l l').map .bool:=by simp[cr,nZ]
@[go_sem] theorem US(fs:List (Nat×Option Nat×Shape))(l l':List Value):cr .neq (.s fs) (.agg l.toArray) (.agg l'.toArray)=(xx fs l l').map fun b=>.bool (!b):=by simp[cr,nZ]
end
@[go_sem] theorem acC(b:Bool)(F:Bool→Prop):am (!b) F=am b fun t=>F (!t):=by cases b<;>rfl
def unF:UnOp→Value→Option Value
 | .neg,.int k n=>some (.int k (k.wrap (0 - n)))
 | .xor,.int k n=>some (.int k (k.wrap (BitVec.ofInt k.bits (if k.signed then -1 else k.max)^^^BitVec.ofInt k.bits n).toNat))
 | .not,.bool b=>some (.bool (!b))
 |_,_=>none
@[go_sem] theorem aeA(b:Bool):unF .not (.bool b)=some (.bool (!b)):=(rfl)
@[go_sem] theorem aeB(k:IntKind)(n:Int):unF .neg (.int k n)=some (.int k (k.wrap (0 - n))):=(rfl)
@[go_sem] theorem aeC(k:IntKind)(n:Int):unF .xor (.int k n)=some (.int k (k.wrap (BitVec.ofInt k.bits (if k.signed then -1 else k.max)^^^BitVec.ofInt k.bits n).toNat)):=(rfl)
def xL(v:Value)(F:Nat→Nat→Prop)(_t:Tag F:=⟨⟩):Prop:=match v with| .pointer (some ⟨b,o,none⟩)=>F b o|_=>False
@[go_sem] theorem aeD(b o:Nat)(F:Nat→Nat→Prop):xL (.pointer (some ⟨b,o,none⟩)) F=F b o:=(rfl)
theorem fi{v:Value}{F:Nat→Nat→Prop}(h:xL v F):∃b o,v= .pointer (some ⟨b,o,none⟩)∧F b o:=by
 unfold xL at h;split at h
 ·exact⟨_,_,rfl,h⟩
 ·exact h.elim
def Dl(v:Value)(F:Int→Prop)(_t:Tag F:=⟨⟩):Prop:=match v with| .int _ n=>F n|_=>False
@[go_sem] theorem aeE(k:IntKind)(n:Int)(F:Int→Prop):Dl (.int k n) F=F n:=(rfl)
theorem iL{v:Value}{F:Int→Prop}(h:Dl v F):∃k n,v= .int k n∧F n:=by
 unfold Dl at h;split at h
 ·exact⟨_,_,rfl,h⟩
 ·exact h.elim
def pq(v:Value)(F:Option Addr→Nat→Nat→Prop)(_t:Tag F:=⟨⟩):Prop:=match v with| .slice a n c=>F a n c|_=>False
@[go_sem] theorem ZV(a:Option Addr)(n c:Nat)(F:Option Addr→Nat→Nat→Prop):pq (.slice a n c) F=F a n c:=(rfl)
theorem iM{v:Value}{F:Option Addr→Nat→Nat→Prop}(h:pq v F):∃a n c,v= .slice a n c∧F a n c:=by
 unfold pq at h;split at h
 ·exact⟨_,_,_,rfl,h⟩
 ·exact h.elim
def uZ(a:Option Addr)(F:Nat→Nat→Prop)(_t:Tag F:=⟨⟩):Prop:=match a with|some ⟨b,o,none⟩=>F b o|_=>False
@[go_sem] theorem acE(b o:Nat)(F:Nat→Nat→Prop):uZ (some ⟨b,o,none⟩) F=F b o:=(rfl)
theorem nQ{a:Option Addr}{F:Nat→Nat→Prop}(h:uZ a F):∃b o,a=some ⟨b,o,none⟩∧F b o:=by
 unfold uZ at h;split at h
 ·exact⟨_,_,rfl,h⟩
 ·exact h.elim
def jv(v:Value)(F:ByteArray→Prop)(_t:Tag F:=⟨⟩):Prop:=match v with| .string s=>F s|_=>False
@[go_sem] theorem Yg(s:ByteArray)(F:ByteArray→Prop):jv (.string s) F=F s:=(rfl)
theorem mL{v:Value}{F:ByteArray→Prop}(h:jv v F):∃s,v= .string s∧F s:=by
 unfold jv at h;split at h
 ·exact⟨_,rfl,h⟩
 ·exact h.elim
def Qy(v:Value)(F:List Value→Prop)(_t:Tag F:=⟨⟩):Prop:=match v with| .tuple vs=>F vs.toList|_=>False
@[go_sem] theorem aeF(l:List Value)(F:List Value→Prop):Qy (.tuple l.toArray) F=F l:=(rfl)
theorem IY{v:Value}{F:List Value→Prop}(h:Qy v F):∃vs,v= .tuple vs∧F vs.toList:=by
 unfold Qy at h;split at h
 ·exact⟨_,rfl,h⟩
 ·exact h.elim
def Qz(v:Value)(F:List Value→Prop)(_t:Tag F:=⟨⟩):Prop:=match v with| .agg vs=>F vs.toList|_=>False
@[go_sem] theorem aeG(l:List Value)(F:List Value→Prop):Qz (.agg l.toArray) F=F l:=(rfl)
theorem IZ{v:Value}{F:List Value→Prop}(h:Qz v F):∃vs,v= .agg vs∧F vs.toList:=by
 unfold Qz at h;split at h
 ·exact⟨_,rfl,h⟩
 ·exact h.elim
def Dm(v:Value)(F:Option Nat→Prop)(_t:Tag F:=⟨⟩):Prop:=match v with| .map r=>F r|_=>False
@[go_sem] theorem aeH(r:Option Nat)(F:Option Nat→Prop):Dm (.map r) F=F r:=(rfl)
theorem ke{v:Value}{F:Option Nat→Prop}(h:Dm v F):∃r,v= .map r∧F r:=by
 unfold Dm at h;split at h
 ·exact⟨_,rfl,h⟩
 ·exact h.elim
def N0(ev:Ev):List Operand→(List Value→Prop)→Prop
 | [],F=>F []
 |x::xs,F=>aC (ev x) fun v=>N0 ev xs fun vs=>F (v::vs)
@[go_sem ↓] theorem aeI(ev:Ev)(F:List Value→Prop):N0 ev [] F=F []:=(rfl)
@[go_sem ↓] theorem acF(ev:Ev)(x:Operand)(xs:List Operand)(F:List Value→Prop):N0 ev (x::xs) F=aC (ev x) fun v=>N0 ev xs fun vs=>F (v::vs):=(rfl)
theorem lq{ev:Ev}{ρ:Operand→Value}(bH:∀x v,ev x=some v→ρ x=v):∀ {xs:List Operand} {F:List Value→Prop},N0 ev xs F→F (xs.map ρ):=by
 intro xs
 induction xs with
 |nil=>intro F h;exact h
 |cons x xs ih=>
  intro F h
  obtain⟨v,hv,h⟩:=aA h
  have:=ih h
  rw[ao6,bH x v hv]
  exact this
def BP(ev:Ev):List Value→List (Nat×Nat×Operand)→(List Value→Prop)→Prop
 |z,[],K=>K z
 |z,(off,size,x)::r,K=>aC (ev x) fun v=>dD ((aI v).length=size) (BP ev (bk z off (aI v)) r K)
@[go_sem ↓] theorem ZW(ev:Ev)(z:List Value)(K:List Value→Prop):BP ev z [] K=K z:=(rfl)
@[go_sem ↓] theorem Yh(ev:Ev)(z:List Value)(off size:Nat)(x:Operand)(r:List (Nat×Nat×Operand))(K:List Value→Prop):
  BP ev z ((off,size,x)::r) K=aC (ev x) fun v=>dD ((aI v).length=size) (BP ev (bk z off (aI v)) r K):=(rfl)
def cE(z:List Value)(k:Nat):List Value:=(List.replicate k z).flatten
def fX(s:Shape)(k:Value):List MapEntry→Nat→Option (Option (Nat×Value))
 | [],_=>some none
 |e::es,i=>
  match nZ s k e.key with
  |some true=>some (some (i,e.val))
  |some false=>fX s k es (i+1)
  |none=>none
def kA:Shape→Bool| .int| .str| .bool=>true|_=>false
def Bz:Shape→Value→Bool
 | .int,.int _ _=>true
 | .str,.string _=>true
 | .bool,.bool _=>true
 | .s fs,.agg xs=>fs.all fun(off,agg,sh)=>agg.isNone && kA sh && (match sh,xs[off]? with| .int,some (.int _ _)=>true| .str,some (.string _)=>true| .bool,some (.bool _)=>true|_,_=>false)
 |_,_=>false
def yq(H:Hp)(s:Shape)(r:Option Nat)(k:Value)(F:Option Value→Prop)(_t:Tag F:=⟨⟩):Prop:=
 match r with
 |none=>F none
 |some b=>aC (H.mp b) fun m=>aC (fX s k m.1 0) fun x=>F (x.map (·.2))
def LM(es:List MapEntry)(x:Option (Nat×Value))(k v:Value)(clock:Nat):List MapEntry:=
 match x with
 |some (i,_)=>es.modify i fun e=>{e with key:=k,val:=v}
 |none=>es++[{key:=k,val:=v,born:=clock}]
def J3(x:Option (Nat×Value))(clock:Nat):Nat:=match x with|some _=>clock|none=>clock+1
def ET(es:List MapEntry)(x:Option (Nat×Value))(k:Value):Bool:=
 match x with
 |some (i,_)=>Instr.sameBits 10000 (((es[i]?).map (·.key)).getD k) k
 |none=>true
@[go_sem] theorem UT(es:List MapEntry)(k:Value):ET es none k=true:=(rfl)
def Gv(es:List MapEntry)(x:Option (Nat×Value)):List MapEntry:=match x with|some (i,_)=>es.eraseIdx i|none=>es
def Sc(H:Hp)(s:Shape)(b:Nat)(k v:Value)(F:Hp→Prop)(_t:Tag F:=⟨⟩):Prop:=
 aC (H.mp b) fun es=>aC (fX s k es.1 0) fun x=>dD (ET es.1 x k=true) (F (H.Dw b (LM es.1 x k v es.2) (J3 x es.2)))
def Yi(H:Hp)(s:Shape)(b:Nat)(k:Value)(F:Hp→Prop)(_t:Tag F:=⟨⟩):Prop:=
 aC (H.mp b) fun es=>aC (fX s k es.1 0) fun x=>F (H.Dw b (Gv es.1 x) es.2)
def Yj(H:Hp)(z:List Value)(a:Option Addr)(n:Nat)(F:Hp→Prop)(_t:Tag F:=⟨⟩):Prop:=
 (n=0∧F H)∨(n≠0∧∃b o l,a=some ⟨b,o,none⟩∧JU (H.own b) (H.B5 b)=some l∧gK (cE z n)∧o+n*z.length≤l.length∧F (H.wr b (bk l o (cE z n))))
@[go_sem] theorem ZX(k:IntKind)(n:Int):Bz .int (.int k n)=true:=(rfl)
@[go_sem] theorem ZY(s:ByteArray):Bz .str (.string s)=true:=(rfl)
def eF(P:Program)(f:FuncId):Bool:=match P.funcs[f]? with|some fn=>fn.name != "runtime.NumGoroutine" && fn.body.isSome|none=>false
def SS(P:Program)(H:Hp)(T:TypeId)(v:Value)(name:String)(f:FuncId)(rv:Value):Prop:=
 eF P f=true∧∀w,w.heap=H→(method (P.types.size+Made.depth) T v name).run P w= .ok (f,rv) w
def gP(P:Program)(recv:Value)(name:String)(args:List Value)(H:Hp)(K:Value→Hp→Prop)(_t:Tag K:=⟨⟩):Prop:=
 ∃T v f rv,recv= .iface T v∧SS P H T v name f rv∧af P f (rv::args) H K
def Yk(P:Program)(fv:Value)(args:List Value)(H:Hp)(K:Value→Hp→Prop)(_t:Tag K:=⟨⟩):Prop:=
 match fv with
 | .func (.func f) first captured=>eF P f=true∧af P f (first.toList++args++captured.toList) H K
 |_=>False
def ahl(P:Program)(f:FuncId)(vs:List Value)(H:Hp)(K:Value→Hp→Prop)(_t:Tag K:=⟨⟩):Prop:=∃v,(∀w,(callFunc f vs.toArray).run P w= .ok (.value v) w)∧K v H
def rowOf(H:Hp)(size:Nat)(v:Value)(F:Nat→List Value→Prop)(_t:Tag F:=⟨⟩):Prop:=
 match v with
 | .slice a n _=>Gt (n==0) (F 0 []) (uZ a fun b o=>aC (H.rd b) fun l=>dD (o+n*size≤l.length) (F n ((l.drop o).take (n*size))))
 | .string s=>dD (size=1) (F s.size (s.data.toList.map fun b=>.int .u8 b.toNat))
 |_=>False
def gk(T size bytes:Nat)(z:List Value)(s x:Value)(H:Hp)(K:Value→Hp→Prop)(_t:Tag K:=⟨⟩):Prop:=
 pq s fun base n c=>rowOf H size x fun m new=>
  (n+m≤c→m=0→K (.slice base n c) H)∧
  (n+m≤c→m≠0→uZ base fun b o=>aC (JU (H.own b) (H.B5 b)) fun l=>dD (o+(n+m)*size≤l.length∧gK new) (K (.slice base (n+m) c) (H.wr b (bk l (o+n*size) new))))∧
  (c<n+m→Builtin.nextslicecap (n+m) c*bytes≤2^48∧
   rowOf H size s fun _ Sp=>∀c',n+m≤c'→K (.slice (some ⟨H.size,0,none⟩) (n+m) c') (H.new T (Sp++new++cE z (c' - (n+m)))))
def ST(T:TypeId)(s:ByteArray)(H:Hp)(K:Value→Hp→Prop)(_t:Tag K:=⟨⟩):Prop:=
 ∀c,s.size≤c→K (.slice (some ⟨H.size,0,none⟩) s.size c) (H.NW T ((s.data.toList.map fun b=>.int .u8 b.toNat)++List.replicate (c - s.size) (.int .u8 0)))
def vQ(T:TypeId)(v:Value)(F:Value→Prop)(_t:Tag F:=⟨⟩):Prop:=match v with| .iface t u=>dD (t=T) (F u)|_=>False
@[go_sem] theorem Yl(T t:TypeId)(u:Value)(F:Value→Prop):vQ T (.iface t u) F=dD (t=T) (F u):=(rfl)
def N9(v:Value)(F:Bool→Prop)(_t:Tag F:=⟨⟩):Prop:=match v with| .nilIface=>F true| .iface _ _=>F false|_=>False
@[go_sem] theorem acG(F:Bool→Prop):N9 .nilIface F=F true:=(rfl)
@[go_sem] theorem aeJ(t:TypeId)(u:Value)(F:Bool→Prop):N9 (.iface t u) F=F false:=(rfl)
theorem I0{v:Value}{F:Bool→Prop}(h:N9 v F):(v= .nilIface∧F true)∨∃t u,v= .iface t u∧F false:=by
 unfold N9 at h;split at h
 ·exact .inl ⟨rfl,h⟩
 ·exact .inr ⟨_,_,rfl,h⟩
 ·exact h.elim
def Oa(neg b:Bool):Bool:=bif neg then !b else b
@[go_sem] theorem aeK:Oa false false=false:=(rfl)
@[go_sem] theorem aeL:Oa false true=true:=(rfl)
@[go_sem] theorem aeM:Oa true false=true:=(rfl)
@[go_sem] theorem aeN:Oa true true=false:=(rfl)
theorem BQ{T:TypeId}{v:Value}{F:Value→Prop}(h:vQ T v F):∃u,v= .iface T u∧F u:=by
 unfold vQ at h;split at h
 ·obtain⟨rfl,h⟩:=h;exact⟨_,rfl,h⟩
 ·exact h.elim
def bytesOf:List Value→Option (List UInt8)
 | []=>some []
 | .int .u8 n::r=>(bytesOf r).map (UInt8.ofNat n.toNat:: ·)
 |_::_=>none
@[go_sem] theorem VU:bytesOf []=some []:=(rfl)
@[go_sem] theorem UU(n:Int)(r:List Value):bytesOf (.int .u8 n::r)=(bytesOf r).map (UInt8.ofNat n.toNat:: ·):=(rfl)
def vi(H:Hp)(v:Value)(F:List UInt8→Prop)(_t:Tag F:=⟨⟩):Prop:=
 match v with
 | .slice a n c=>rowOf H 1 (.slice a n c) fun _ l=>aC (bytesOf l) F
 |_=>False
@[go_sem] theorem ZZ(H:Hp)(a:Option Addr)(n c:Nat)(F:List UInt8→Prop):vi H (.slice a n c) F=rowOf H 1 (.slice a n c) fun _ l=>aC (bytesOf l) F:=(rfl)
inductive dh where
 |aq(x:Operand)
 |pick(c a b:Operand)
 |box(T:TypeId)(x:Operand)
 |zero(T:TypeId)(l:List Value)
 |build(z:List Value)(parts:List (Nat×Nat×Operand))
 |lit(T:TypeId)(n:Nat)(z:List Value)(parts:List (Nat×Nat×Operand))
 |aj(x:Operand)
 |da(n:Nat)(x:Operand)
 |store(n:Nat)(x v:Operand)
 |nilCheck(x:Operand)
 |gI(op:BinOp)(s:Shape)(x y:Operand)
 |un(op:UnOp)(x:Operand)
 |conv(k:IntKind)(x:Operand)
 |iface(T:TypeId)(x:Operand)
 |func(fn:Fn)(first captured:List Operand)
 |ni
 |makeSlice(T bytes size:Nat)(z:List Value)(n c:Operand)
 |slice(size:Nat)(x:Operand)(lo hi mx:Option Operand)
 |J4(x:Operand)(lo hi:Option Operand)
 |fieldAddr(off:Nat)(x:Operand)
 |field(off:Nat)(agg:Option Nat)(x:Operand)
 |indexAddr(size:Nat)(x i:Operand)
 |BR(len size:Nat)(x i:Operand)
 |J5(x i:Operand)
 |lookup(s:Shape)(z:Value)(ok:Bool)(m k:Operand)
 |update(s:Shape)(m k v:Operand)
 |extract(i:Nat)(x:Operand)
 |call(f:FuncId)(args:List Operand)
 |dyn(f:Operand)(args:List Operand)
 |invoke(r:Operand)(name:String)(args:List Operand)
 |tq(x:Operand)
 |UV(x:Operand)
 |UW(x:Operand)
 |append(T size bytes:Nat)(z:List Value)(x y:Operand)
 |delete(s:Shape)(m k:Operand)
 |Ob(z:List Value)(x:Operand)
 |UX(args:List Operand)
 |UY(args:List Operand)
 |J6(T:TypeId)(x:Operand)
 |UZ(neg:Bool)(x:Operand)
 |Pb(x:Operand)
 |J7(T:TypeId)(x:Operand)
 |ext(f:FuncId)(args:List Operand)
 deriving Inhabited
def fF(P:Program)(t:TypeId):Option Value:=(P.info? t).bind (·.zero)
def eV:Nat:=8
def kB(place:Nat→Option (Nat×Nat))(J8:Nat):List (Nat×Operand)→Option (List (Nat×Nat×Operand))
 | []=>some []
 | (i,x)::r=>
  match place i with
  |none=>none
  |some (off,size)=>if off+size≤J8 then(kB place J8 r).map ((off,size,x):: ·)else none
def Ma(P:Program)(fs:Array Field):Bool:=fs.all fun f=>(P.info? f.type).isSome
def placeOf(P:Program)(fs:Array Field):Array (Nat×Nat):=fs.map fun f=>(f.offset,P.cellsOf f.type)
def parts(P:Program)(t:TypeId)(J8:Nat)(ps:List (Nat×Operand)):Option (List (Nat×Nat×Operand)):=
 match P.underlying t with
 |some (.struct fields)=>if Ma P fields then kB ((placeOf P fields)[·]?) J8 ps else none
 |some (.array _ e)=>if(P.info? e).isSome then kB (fun i=>some (i*P.cellsOf e,P.cellsOf e)) J8 ps else none
 |_=>none
end Go.Vc
