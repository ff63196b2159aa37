/- Texts put behind each other. -/
import Derived.Test.YtjlnnljohemifaaGreatK98
import Derived.Test.YtjlnnljohemifaaGreatK4
import Derived.Laws.StructEq
set_option maxRecDepth 100000
set_option maxHeartbeats 8000000
set_option linter.unusedVariables false
namespace Go.Vc
attribute [go_sem] aoC apk aoL apf apG ao0 aqd List.drop_succ_cons
  List.take_zero List.take_succ_cons ap9 apW apy aoh
abbrev Ev:=Operand→Option Value
inductive Shape where
 |int|str|bool|ptr|Wl|mp|fn|ZL
 |s(fs:List (Nat×Option Nat×Shape))
 deriving Inhabited
def bj:Shape→Value→Value→Option Bool
 | .int,.int k a,.int k' b=>if k=k' then some (decide (a=b))else none
 | .str,.string a,.string b=>some (a.toList==b.toList)
 | .bool,.bool a,.bool b=>some (a==b)
 | .ptr,.pointer none,.pointer b=>some b.isNone
 | .ptr,.pointer (some _),.pointer none=>some false
 | .Wl,.slice none _ _,.slice b _ _=>some b.isNone
 | .Wl,.slice (some _) _ _,.slice none _ _=>some false
 | .mp,.map none,.map b=>some b.isNone
 | .mp,.map (some _),.map none=>some false
 | .fn,.nilFunc,.nilFunc=>some true
 | .fn,.func ..,.nilFunc=>some false
 | .fn,.nilFunc,.func .. =>some false
 | .ZL,.nilIface,.iface .. =>some false
 | .ZL,.iface ..,.nilIface=>some false
 |_,_,_=>none
def ee(l:List Value)(off:Nat)(agg:Option Nat):Option Value:=
 match agg with
 |some n=>if off+n≤l.length then some (.agg ((l.drop off).take n).toArray)else none
 |none=>l[off]?
@[go_sem] theorem NF(l:List Value)(off:Nat):ee l off none=l[off]? :=(rfl)
@[go_sem] theorem Yc(l:List Value)(off n:Nat):ee l off (some n)=if off+n≤l.length then some (.agg ((l.drop off).take n).toArray)else none:=(rfl)
mutual
def nY:Shape→Value→Value→Option Bool
 | .s fs,.agg xs,.agg ys=>xw fs xs.toList ys.toList
 |sh,x,y=>bj sh x y
def xw:List (Nat×Option Nat×Shape)→List Value→List Value→Option Bool
 | [],_,_=>some true
 | (off,agg,sh)::fs,xs,ys=>
  match ee xs off agg with
  |none=>none
  |some x=>
   match ee ys off agg with
   |none=>none
   |some y=>
    match nY sh x y with
    |some true=>xw fs xs ys
    |some false=>some false
    |none=>none
end
def eU(P:Program)(t:TypeId):Bool:=match P.underlying t with|some (.struct _)|some (.array _ _)=>true|_=>false
def zR(P:Program)(sh:TypeId→Option Shape):List Field→Option (List (Nat×Option Nat×Shape))
 | []=>some []
 |f::fs=>
  if f.name= "_" then none else
  match sh f.type with
  |none=>none
  |some s=>(zR P sh fs).map ((f.offset,(if eU P f.type then some (P.cellsOf f.type)else none),s):: ·)
def shapeOf(P:Program):Nat→TypeId→Option Shape
 |0,_=>none
 |d+1,t=>
  match P.underlying t with
  |some (.int _)=>some .int
  |some .string=>some .str
  |some .bool=>some .bool
  |some (.pointer _)=>some .ptr
  |some (.slice _)=>some .Wl
  |some (.map _ _)=>some .mp
  |some (.func _ _ _)=>some .fn
  |some (.interface _)=>some .ZL
  |some (.struct fs)=>if P.stoodInHeld t then none else(zR P (shapeOf P d) fs.toList).map .s
  |_=>none
def fg(P:Program)(d:Nat)(fs:List Field):Option (List (Nat×Option Nat×Shape)):=zR P (shapeOf P d) fs
theorem BN(P:Program)(d:Nat):fg P d []=some []:=rfl
theorem pj(P:Program)(d:Nat)(f:Field)(fs:List Field):fg P d (f::fs)=
  if f.name= "_" then none else
  match shapeOf P d f.type with
  |none=>none
  |some s=>(fg P d fs).map ((f.offset,(if eU P f.type then some (P.cellsOf f.type)else none),s):: ·):=rfl
theorem gv(P:Program)(d:Nat)(t:TypeId):shapeOf P (d+1) t=
  match P.underlying t with
  |some (.int _)=>some .int
  |some .string=>some .str
  |some .bool=>some .bool
  |some (.pointer _)=>some .ptr
  |some (.slice _)=>some .Wl
  |some (.map _ _)=>some .mp
  |some (.func _ _ _)=>some .fn
  |some (.interface _)=>some .ZL
  |some (.struct fs)=>if P.stoodInHeld t then none else(fg P d fs.toList).map .s
  |_=>none:=rfl
def cr(op:BinOp)(s:Shape):Value→Value→Option Value
 | .int k a,.int k' b=>
  match op with
  | .shl=>if b<0 then none else some (.int k (k.wrap (a*2^ (min b.toNat k.bits))))
  | .shr=>if b<0 then none else some (.int k (a.fdiv (2^ (min b.toNat k.bits))))
  |_=>
   if k≠k' then none else
   match op with
   | .add=>some (.int k (k.wrap (a+b)))
   | .sub=>some (.int k (k.wrap (a - b)))
   | .mul=>some (.int k (k.wrap (a*b)))
   | .quo=>if b=0 then none else some (.int k (k.wrap (a.tdiv b)))
   | .rem=>if b=0 then none else some (.int k (a.tmod b))
   | .and=>some (.int k (k.wrap (BitVec.ofInt k.bits a &&& BitVec.ofInt k.bits b).toNat))
   | .or=>some (.int k (k.wrap (BitVec.ofInt k.bits a |||BitVec.ofInt k.bits b).toNat))
   | .xor=>some (.int k (k.wrap (BitVec.ofInt k.bits a^^^BitVec.ofInt k.bits b).toNat))
   | .andNot=>some (.int k (k.wrap (BitVec.ofInt k.bits a &&& ~~~ BitVec.ofInt k.bits b).toNat))
   | .eql=>some (.bool (decide (a=b)))
   | .neq=>some (.bool (!decide (a=b)))
   | .lss=>some (.bool (decide (a<b)))
   | .leq=>some (.bool (decide (a≤b)))
   | .gtr=>some (.bool (decide (a>b)))
   | .geq=>some (.bool (decide (a≥b)))
   |_=>none
 | .string x,.string y=>
  match op with
  | .add=>if((x.size+y.size:Nat):Int)>IntKind.i64.max then none else some (.string (x++y))
  | .eql=>some (.bool (x.toList==y.toList))
  | .neq=>some (.bool (!(x.toList==y.toList)))
  | .lss=>some (.bool (Op.bytesLess x.toList y.toList))
  | .leq=>some (.bool (Op.bytesLess x.toList y.toList || x.toList==y.toList))
  | .gtr=>some (.bool (!(Op.bytesLess x.toList y.toList || x.toList==y.toList)))
  | .geq=>some (.bool (!Op.bytesLess x.toList y.toList))
  |_=>none
 |x,y=>
  match op with
  | .eql=>(nY s x y).map .bool
  | .neq=>(nY s x y).map fun b=>.bool (!b)
  |_=>none
section
variable (s : Shape) (k : IntKind) (a b : Int)
@[go_sem] theorem ack:cr .add s (.int k a) (.int k b)=some (.int k (k.wrap (a+b))):=by simp[cr]
@[go_sem] theorem acl:cr .sub s (.int k a) (.int k b)=some (.int k (k.wrap (a - b))):=by simp[cr]
@[go_sem] theorem acm:cr .mul s (.int k a) (.int k b)=some (.int k (k.wrap (a*b))):=by simp[cr]
@[go_sem] theorem acn:cr .quo s (.int k a) (.int k b)=if b=0 then none else some (.int k (k.wrap (a.tdiv b))):=by simp[cr]
@[go_sem] theorem aco:cr .rem s (.int k a) (.int k b)=if b=0 then none else some (.int k (a.tmod b)):=by simp[cr]
@[go_sem] theorem acp:cr .eql s (.int k a) (.int k b)=some (.bool (decide (a=b))):=by simp[cr]
@[go_sem] theorem acq:cr .neq s (.int k a) (.int k b)=some (.bool (!decide (a=b))):=by simp[cr]
@[go_sem] theorem acr:cr .lss s (.int k a) (.int k b)=some (.bool (decide (a<b))):=by simp[cr]
@[go_sem] theorem acs:cr .leq s (.int k a) (.int k b)=some (.bool (decide (a≤b))):=by simp[cr]
@[go_sem] theorem acu:cr .gtr s (.int k a) (.int k b)=some (.bool (decide (a>b))):=by simp[cr]
@[go_sem] theorem acv:cr .geq s (.int k a) (.int k b)=some (.bool (decide (a≥b))):=by simp[cr]
@[go_sem] theorem acw:cr .and s (.int k a) (.int k b)=some (.int k (k.wrap (BitVec.ofInt k.bits a &&& BitVec.ofInt k.bits b).toNat)):=by simp[cr]
@[go_sem] theorem aey:cr .or s (.int k a) (.int k b)=some (.int k (k.wrap (BitVec.ofInt k.bits a |||BitVec.ofInt k.bits b).toNat)):=by simp[cr]
@[go_sem] theorem acx:cr .xor s (.int k a) (.int k b)=some (.int k (k.wrap (BitVec.ofInt k.bits a^^^BitVec.ofInt k.bits b).toNat)):=by simp[cr]
@[go_sem] theorem acy(k':IntKind):cr .shl s (.int k a) (.int k' b)=if b<0 then none else some (.int k (k.wrap (a*2^ (min b.toNat k.bits)))):=by simp[cr]
@[go_sem] theorem acz(k':IntKind):cr .shr s (.int k a) (.int k' b)=if b<0 then none else some (.int k (a.fdiv (2^ (min b.toNat k.bits)))):=by simp[cr]
variable (x y : ByteArray)
@[go_sem] theorem acA:cr .add s (.string x) (.string y)=if((x.size+y.size:Nat):Int)>IntKind.i64.max then none else some (.string (x++y)):=by simp[cr]
@[go_sem] theorem ZM:cr .eql s (.string x) (.string y)=some (.bool (x.toList==y.toList)):=by simp[cr]
@[go_sem] theorem ZN:cr .neq s (.string x) (.string y)=some (.bool (!(x.toList==y.toList))):=by simp[cr]
@[go_sem] theorem ZO(u v:Bool):cr .eql .bool (.bool u) (.bool v)=some (.bool (u==v)):=by simp[cr,nY,bj]
@[go_sem] theorem ZP(u v:Bool):cr .neq .bool (.bool u) (.bool v)=some (.bool (!(u==v))):=by simp[cr,nY,bj]
@[go_sem] theorem ZQ(u:Option Addr):cr .eql .ptr (.pointer u) (.pointer none)=some (.bool u.isNone):=by cases u<;>simp[cr,nY,bj]
@[go_sem] theorem ZR(u:Option Addr):cr .neq .ptr (.pointer u) (.pointer none)=some (.bool (!u.isNone)):=by cases u<;>simp[cr,nY,bj]
@[go_sem] theorem Yd(u:Option Addr)(n c:Nat):cr .eql .Wl (.slice u n c) (.slice none 0 0)=some (.bool u.isNone):=by cases u<;>simp[cr,nY,bj]
@[go_sem] theorem Ye(u:Option Addr)(n c:Nat):cr .neq .Wl (.slice u n c) (.slice none 0 0)=some (.bool (!u.isNone)):=by cases u<;>simp[cr,nY,bj]
@[go_sem] theorem ZS(t:TypeId)(v:Value):cr .eql .ZL (.iface t v) .nilIface=some (.bool false):=by simp[cr,nY,bj]
@[go_sem] theorem ZT(t:TypeId)(v:Value):cr .neq .ZL (.iface t v) .nilIface=some (.bool true):=by simp[cr,nY,bj]
@[go_sem] theorem UQ(fs:List (Nat×Option Nat×Shape))(l l':List Value):cr .eql (.s fs) (.agg l.toArray) (.agg l'.toArray)=(xw fs l l').map .bool:=by simp[cr,nY]
@[go_sem] theorem UR(fs:List (Nat×Option Nat×Shape))(l l':List Value):cr .neq (.s fs) (.agg l.toArray) (.agg l'.toArray)=(xw fs l l').map fun b=>.bool (!b):=by simp[cr,nY]
end
@[go_sem] theorem acB(b:Bool)(F:Bool→Prop):am (!b) F=am b fun t=>F (!t):=by cases b<;>rfl
def unF:UnOp→Value→Option Value
 | .neg,.int k n=>some (.int k (k.wrap (0 - n)))
 | .xor,.int k n=>some (.int k (k.wrap (BitVec.ofInt k.bits (if k.signed then -1 else k.max)^^^BitVec.ofInt k.bits n).toNat))
 | .not,.bool b=>some (.bool (!b))
 |_,_=>none
@[go_sem] theorem aez(b:Bool):unF .not (.bool b)=some (.bool (!b)):=(rfl)
@[go_sem] theorem aeA(k:IntKind)(n:Int):unF .neg (.int k n)=some (.int k (k.wrap (0 - n))):=(rfl)
@[go_sem] theorem aeB(k:IntKind)(n:Int):unF .xor (.int k n)=some (.int k (k.wrap (BitVec.ofInt k.bits (if k.signed then -1 else k.max)^^^BitVec.ofInt k.bits n).toNat)):=(rfl)
def xK(v:Value)(F:Nat→Nat→Prop)(_t:Tag F:=⟨⟩):Prop:=match v with| .pointer (some ⟨b,o,none⟩)=>F b o|_=>False
@[go_sem] theorem aeC(b o:Nat)(F:Nat→Nat→Prop):xK (.pointer (some ⟨b,o,none⟩)) F=F b o:=(rfl)
theorem fi{v:Value}{F:Nat→Nat→Prop}(h:xK v F):∃b o,v= .pointer (some ⟨b,o,none⟩)∧F b o:=by
 unfold xK at h;split at h
 ·exact⟨_,_,rfl,h⟩
 ·exact h.elim
def Dj(v:Value)(F:Int→Prop)(_t:Tag F:=⟨⟩):Prop:=match v with| .int _ n=>F n|_=>False
@[go_sem] theorem aeD(k:IntKind)(n:Int)(F:Int→Prop):Dj (.int k n) F=F n:=(rfl)
theorem iK{v:Value}{F:Int→Prop}(h:Dj v F):∃k n,v= .int k n∧F n:=by
 unfold Dj at h;split at h
 ·exact⟨_,_,rfl,h⟩
 ·exact h.elim
def pk(v:Value)(F:Option Addr→Nat→Nat→Prop)(_t:Tag F:=⟨⟩):Prop:=match v with| .slice a n c=>F a n c|_=>False
@[go_sem] theorem ZU(a:Option Addr)(n c:Nat)(F:Option Addr→Nat→Nat→Prop):pk (.slice a n c) F=F a n c:=(rfl)
theorem iL{v:Value}{F:Option Addr→Nat→Nat→Prop}(h:pk v F):∃a n c,v= .slice a n c∧F a n c:=by
 unfold pk at h;split at h
 ·exact⟨_,_,_,rfl,h⟩
 ·exact h.elim
def uY(a:Option Addr)(F:Nat→Nat→Prop)(_t:Tag F:=⟨⟩):Prop:=match a with|some ⟨b,o,none⟩=>F b o|_=>False
@[go_sem] theorem acD(b o:Nat)(F:Nat→Nat→Prop):uY (some ⟨b,o,none⟩) F=F b o:=(rfl)
theorem nP{a:Option Addr}{F:Nat→Nat→Prop}(h:uY a F):∃b o,a=some ⟨b,o,none⟩∧F b o:=by
 unfold uY at h;split at h
 ·exact⟨_,_,rfl,h⟩
 ·exact h.elim
def jv(v:Value)(F:ByteArray→Prop)(_t:Tag F:=⟨⟩):Prop:=match v with| .string s=>F s|_=>False
@[go_sem] theorem Yf(s:ByteArray)(F:ByteArray→Prop):jv (.string s) F=F s:=(rfl)
theorem mK{v:Value}{F:ByteArray→Prop}(h:jv v F):∃s,v= .string s∧F s:=by
 unfold jv at h;split at h
 ·exact⟨_,rfl,h⟩
 ·exact h.elim
def Qw(v:Value)(F:List Value→Prop)(_t:Tag F:=⟨⟩):Prop:=match v with| .tuple vs=>F vs.toList|_=>False
@[go_sem] theorem aeE(l:List Value)(F:List Value→Prop):Qw (.tuple l.toArray) F=F l:=(rfl)
theorem IX{v:Value}{F:List Value→Prop}(h:Qw v F):∃vs,v= .tuple vs∧F vs.toList:=by
 unfold Qw at h;split at h
 ·exact⟨_,rfl,h⟩
 ·exact h.elim
def Qx(v:Value)(F:List Value→Prop)(_t:Tag F:=⟨⟩):Prop:=match v with| .agg vs=>F vs.toList|_=>False
@[go_sem] theorem aeF(l:List Value)(F:List Value→Prop):Qx (.agg l.toArray) F=F l:=(rfl)
theorem IY{v:Value}{F:List Value→Prop}(h:Qx v F):∃vs,v= .agg vs∧F vs.toList:=by
 unfold Qx at h;split at h
 ·exact⟨_,rfl,h⟩
 ·exact h.elim
def Dk(v:Value)(F:Option Nat→Prop)(_t:Tag F:=⟨⟩):Prop:=match v with| .map r=>F r|_=>False
@[go_sem] theorem aeG(r:Option Nat)(F:Option Nat→Prop):Dk (.map r) F=F r:=(rfl)
theorem j9{v:Value}{F:Option Nat→Prop}(h:Dk v F):∃r,v= .map r∧F r:=by
 unfold Dk at h;split at h
 ·exact⟨_,rfl,h⟩
 ·exact h.elim
def NZ(ev:Ev):List Operand→(List Value→Prop)→Prop
 | [],F=>F []
 |x::xs,F=>aC (ev x) fun v=>NZ ev xs fun vs=>F (v::vs)
@[go_sem ↓] theorem aeH(ev:Ev)(F:List Value→Prop):NZ ev [] F=F []:=(rfl)
@[go_sem ↓] theorem acE(ev:Ev)(x:Operand)(xs:List Operand)(F:List Value→Prop):NZ ev (x::xs) F=aC (ev x) fun v=>NZ ev xs fun vs=>F (v::vs):=(rfl)
theorem ln{ev:Ev}{ρ:Operand→Value}(bH:∀x v,ev x=some v→ρ x=v):∀ {xs:List Operand} {F:List Value→Prop},NZ ev xs F→F (xs.map ρ):=by
 intro xs
 induction xs with
 |nil=>intro F h;exact h
 |cons x xs ih=>
  intro F h
  obtain⟨v,hv,h⟩:=aA h
  have:=ih h
  rw[ao5,bH x v hv]
  exact this
def BO(ev:Ev):List Value→List (Nat×Nat×Operand)→(List Value→Prop)→Prop
 |z,[],K=>K z
 |z,(off,size,x)::r,K=>aC (ev x) fun v=>dD ((aI v).length=size) (BO ev (bk z off (aI v)) r K)
@[go_sem ↓] theorem ZV(ev:Ev)(z:List Value)(K:List Value→Prop):BO ev z [] K=K z:=(rfl)
@[go_sem ↓] theorem Yg(ev:Ev)(z:List Value)(off size:Nat)(x:Operand)(r:List (Nat×Nat×Operand))(K:List Value→Prop):
  BO ev z ((off,size,x)::r) K=aC (ev x) fun v=>dD ((aI v).length=size) (BO ev (bk z off (aI v)) r K):=(rfl)
def cE(z:List Value)(k:Nat):List Value:=(List.replicate k z).flatten
def fX(s:Shape)(k:Value):List MapEntry→Nat→Option (Option (Nat×Value))
 | [],_=>some none
 |e::es,i=>
  match nY s k e.key with
  |some true=>some (some (i,e.val))
  |some false=>fX s k es (i+1)
  |none=>none
def kw:Shape→Bool| .int| .str| .bool=>true|_=>false
def By:Shape→Value→Bool
 | .int,.int _ _=>true
 | .str,.string _=>true
 | .bool,.bool _=>true
 | .s fs,.agg xs=>fs.all fun(off,agg,sh)=>agg.isNone && kw sh && (match sh,xs[off]? with| .int,some (.int _ _)=>true| .str,some (.string _)=>true| .bool,some (.bool _)=>true|_,_=>false)
 |_,_=>false
def yp(H:Hp)(s:Shape)(r:Option Nat)(k:Value)(F:Option Value→Prop)(_t:Tag F:=⟨⟩):Prop:=
 match r with
 |none=>F none
 |some b=>aC (H.mp b) fun m=>aC (fX s k m.1 0) fun x=>F (x.map (·.2))
def LL(es:List MapEntry)(x:Option (Nat×Value))(k v:Value)(clock:Nat):List MapEntry:=
 match x with
 |some (i,_)=>es.modify i fun e=>{e with key:=k,val:=v}
 |none=>es++[{key:=k,val:=v,born:=clock}]
def J2(x:Option (Nat×Value))(clock:Nat):Nat:=match x with|some _=>clock|none=>clock+1
def ES(es:List MapEntry)(x:Option (Nat×Value))(k:Value):Bool:=
 match x with
 |some (i,_)=>Instr.sameBits 10000 (((es[i]?).map (·.key)).getD k) k
 |none=>true
@[go_sem] theorem US(es:List MapEntry)(k:Value):ES es none k=true:=(rfl)
def Gt(es:List MapEntry)(x:Option (Nat×Value)):List MapEntry:=match x with|some (i,_)=>es.eraseIdx i|none=>es
def Sb(H:Hp)(s:Shape)(b:Nat)(k v:Value)(F:Hp→Prop)(_t:Tag F:=⟨⟩):Prop:=
 aC (H.mp b) fun es=>aC (fX s k es.1 0) fun x=>dD (ES es.1 x k=true) (F (H.Du b (LL es.1 x k v es.2) (J2 x es.2)))
def Yh(H:Hp)(s:Shape)(b:Nat)(k:Value)(F:Hp→Prop)(_t:Tag F:=⟨⟩):Prop:=
 aC (H.mp b) fun es=>aC (fX s k es.1 0) fun x=>F (H.Du b (Gt es.1 x) es.2)
def Yi(H:Hp)(z:List Value)(a:Option Addr)(n:Nat)(F:Hp→Prop)(_t:Tag F:=⟨⟩):Prop:=
 (n=0∧F H)∨(n≠0∧∃b o l,a=some ⟨b,o,none⟩∧JT (H.own b) (H.B4 b)=some l∧gJ (cE z n)∧o+n*z.length≤l.length∧F (H.wr b (bk l o (cE z n))))
@[go_sem] theorem ZW(k:IntKind)(n:Int):By .int (.int k n)=true:=(rfl)
@[go_sem] theorem ZX(s:ByteArray):By .str (.string s)=true:=(rfl)
def eF(P:Program)(f:FuncId):Bool:=match P.funcs[f]? with|some fn=>fn.name != "runtime.NumGoroutine" && fn.body.isSome|none=>false
def SR(P:Program)(H:Hp)(T:TypeId)(v:Value)(name:String)(f:FuncId)(rv:Value):Prop:=
 eF P f=true∧∀w,w.heap=H→(method (P.types.size+Made.depth) T v name).run P w= .ok (f,rv) w
def gO(P:Program)(recv:Value)(name:String)(args:List Value)(H:Hp)(K:Value→Hp→Prop)(_t:Tag K:=⟨⟩):Prop:=
 ∃T v f rv,recv= .iface T v∧SR P H T v name f rv∧af P f (rv::args) H K
def Yj(P:Program)(fv:Value)(args:List Value)(H:Hp)(K:Value→Hp→Prop)(_t:Tag K:=⟨⟩):Prop:=
 match fv with
 | .func (.func f) first captured=>eF P f=true∧af P f (first.toList++args++captured.toList) H K
 |_=>False
def ahk(P:Program)(f:FuncId)(vs:List Value)(H:Hp)(K:Value→Hp→Prop)(_t:Tag K:=⟨⟩):Prop:=∃v,(∀w,(callFunc f vs.toArray).run P w= .ok (.value v) w)∧K v H
def rowOf(H:Hp)(size:Nat)(v:Value)(F:Nat→List Value→Prop)(_t:Tag F:=⟨⟩):Prop:=
 match v with
 | .slice a n _=>Gr (n==0) (F 0 []) (uY a fun b o=>aC (H.rd b) fun l=>dD (o+n*size≤l.length) (F n ((l.drop o).take (n*size))))
 | .string s=>dD (size=1) (F s.size (s.data.toList.map fun b=>.int .u8 b.toNat))
 |_=>False
def gk(T size bytes:Nat)(z:List Value)(s x:Value)(H:Hp)(K:Value→Hp→Prop)(_t:Tag K:=⟨⟩):Prop:=
 pk s fun base n c=>rowOf H size x fun m new=>
  (n+m≤c→m=0→K (.slice base n c) H)∧
  (n+m≤c→m≠0→uY base fun b o=>aC (JT (H.own b) (H.B4 b)) fun l=>dD (o+(n+m)*size≤l.length∧gJ new) (K (.slice base (n+m) c) (H.wr b (bk l (o+n*size) new))))∧
  (c<n+m→Builtin.nextslicecap (n+m) c*bytes≤2^48∧
   rowOf H size s fun _ Sm=>∀c',n+m≤c'→K (.slice (some ⟨H.size,0,none⟩) (n+m) c') (H.new T (Sm++new++cE z (c' - (n+m)))))
def SS(T:TypeId)(s:ByteArray)(H:Hp)(K:Value→Hp→Prop)(_t:Tag K:=⟨⟩):Prop:=
 ∀c,s.size≤c→K (.slice (some ⟨H.size,0,none⟩) s.size c) (H.NV T ((s.data.toList.map fun b=>.int .u8 b.toNat)++List.replicate (c - s.size) (.int .u8 0)))
def vP(T:TypeId)(v:Value)(F:Value→Prop)(_t:Tag F:=⟨⟩):Prop:=match v with| .iface t u=>dD (t=T) (F u)|_=>False
@[go_sem] theorem Yk(T t:TypeId)(u:Value)(F:Value→Prop):vP T (.iface t u) F=dD (t=T) (F u):=(rfl)
def N0(v:Value)(F:Bool→Prop)(_t:Tag F:=⟨⟩):Prop:=match v with| .nilIface=>F true| .iface _ _=>F false|_=>False
@[go_sem] theorem acF(F:Bool→Prop):N0 .nilIface F=F true:=(rfl)
@[go_sem] theorem aeI(t:TypeId)(u:Value)(F:Bool→Prop):N0 (.iface t u) F=F false:=(rfl)
theorem IZ{v:Value}{F:Bool→Prop}(h:N0 v F):(v= .nilIface∧F true)∨∃t u,v= .iface t u∧F false:=by
 unfold N0 at h;split at h
 ·exact .inl ⟨rfl,h⟩
 ·exact .inr ⟨_,_,rfl,h⟩
 ·exact h.elim
def N9(neg b:Bool):Bool:=bif neg then !b else b
@[go_sem] theorem aeJ:N9 false false=false:=(rfl)
@[go_sem] theorem aeK:N9 false true=true:=(rfl)
@[go_sem] theorem aeL:N9 true false=true:=(rfl)
@[go_sem] theorem aeM:N9 true true=false:=(rfl)
theorem BP{T:TypeId}{v:Value}{F:Value→Prop}(h:vP T v F):∃u,v= .iface T u∧F u:=by
 unfold vP at h;split at h
 ·obtain⟨rfl,h⟩:=h;exact⟨_,rfl,h⟩
 ·exact h.elim
def bytesOf:List Value→Option (List UInt8)
 | []=>some []
 | .int .u8 n::r=>(bytesOf r).map (UInt8.ofNat n.toNat:: ·)
 |_::_=>none
@[go_sem] theorem VT:bytesOf []=some []:=(rfl)
@[go_sem] theorem UT(n:Int)(r:List Value):bytesOf (.int .u8 n::r)=(bytesOf r).map (UInt8.ofNat n.toNat:: ·):=(rfl)
def vh(H:Hp)(v:Value)(F:List UInt8→Prop)(_t:Tag F:=⟨⟩):Prop:=
 match v with
 | .slice a n c=>rowOf H 1 (.slice a n c) fun _ l=>aC (bytesOf l) F
 |_=>False
@[go_sem] theorem ZY(H:Hp)(a:Option Addr)(n c:Nat)(F:List UInt8→Prop):vh H (.slice a n c) F=rowOf H 1 (.slice a n c) fun _ l=>aC (bytesOf l) F:=(rfl)
inductive dh where
 |au(x:Operand)
 |pick(c a b:Operand)
 |box(T:TypeId)(x:Operand)
 |zero(T:TypeId)(l:List Value)
 |build(z:List Value)(parts:List (Nat×Nat×Operand))
 |lit(T:TypeId)(n:Nat)(z:List Value)(parts:List (Nat×Nat×Operand))
 |aj(x:Operand)
 |da(n:Nat)(x:Operand)
 |store(n:Nat)(x v:Operand)
 |nilCheck(x:Operand)
 |iP(op:BinOp)(s:Shape)(x y:Operand)
 |un(op:UnOp)(x:Operand)
 |conv(k:IntKind)(x:Operand)
 |iface(T:TypeId)(x:Operand)
 |func(fn:Fn)(first captured:List Operand)
 |nh
 |makeSlice(T bytes size:Nat)(z:List Value)(n c:Operand)
 |slice(size:Nat)(x:Operand)(lo hi mx:Option Operand)
 |J3(x:Operand)(lo hi:Option Operand)
 |fieldAddr(off:Nat)(x:Operand)
 |field(off:Nat)(agg:Option Nat)(x:Operand)
 |indexAddr(size:Nat)(x i:Operand)
 |BQ(len size:Nat)(x i:Operand)
 |J4(x i:Operand)
 |lookup(s:Shape)(z:Value)(ok:Bool)(m k:Operand)
 |update(s:Shape)(m k v:Operand)
 |extract(i:Nat)(x:Operand)
 |call(f:FuncId)(args:List Operand)
 |dyn(f:Operand)(args:List Operand)
 |invoke(r:Operand)(name:String)(args:List Operand)
 |tn(x:Operand)
 |UU(x:Operand)
 |UV(x:Operand)
 |append(T size bytes:Nat)(z:List Value)(x y:Operand)
 |delete(s:Shape)(m k:Operand)
 |Oa(z:List Value)(x:Operand)
 |UW(args:List Operand)
 |UX(args:List Operand)
 |J5(T:TypeId)(x:Operand)
 |UY(neg:Bool)(x:Operand)
 |Pa(x:Operand)
 |J6(T:TypeId)(x:Operand)
 |ext(f:FuncId)(args:List Operand)
 deriving Inhabited
def fF(P:Program)(t:TypeId):Option Value:=(P.info? t).bind (·.zero)
def eV:Nat:=8
def kA(place:Nat→Option (Nat×Nat))(J7:Nat):List (Nat×Operand)→Option (List (Nat×Nat×Operand))
 | []=>some []
 | (i,x)::r=>
  match place i with
  |none=>none
  |some (off,size)=>if off+size≤J7 then(kA place J7 r).map ((off,size,x):: ·)else none
def L0(P:Program)(fs:Array Field):Bool:=fs.all fun f=>(P.info? f.type).isSome
def placeOf(P:Program)(fs:Array Field):Array (Nat×Nat):=fs.map fun f=>(f.offset,P.cellsOf f.type)
def parts(P:Program)(t:TypeId)(J7:Nat)(ps:List (Nat×Operand)):Option (List (Nat×Nat×Operand)):=
 match P.underlying t with
 |some (.struct fields)=>if L0 P fields then kA ((placeOf P fields)[·]?) J7 ps else none
 |some (.array _ e)=>if(P.info? e).isSome then kA (fun i=>some (i*P.cellsOf e,P.cellsOf e)) J7 ps else none
 |_=>none
end Go.Vc
