/- Texts put behind each other. -/
import Derived.Test.YtjlnnljohemifaaGreatK98
import Derived.Test.YtjlnnljohemifaaGreatK6
import Derived.Laws.StructEq
set_option maxRecDepth 100000
set_option maxHeartbeats 8000000
set_option linter.unusedVariables false
namespace Go.Vc
attribute [go_sem] anO aoH anY aov aoS aoe List.drop_zero List.drop_succ_cons
  List.take_zero List.take_succ_cons api ao8 aoO ant
abbrev Ev:=Operand→Option Value
inductive Shape where
 |int|str|bool|ptr|Wb|mp|fn|Zj
 |s(fs:List (Nat×Option Nat×Shape))
 deriving Inhabited
def bB:Shape→Value→Value→Option Bool
 | .int,.int k a,.int k' b=>if k=k' then some (decide (a=b))else none
 | .str,.string a,.string b=>some (a.toList==b.toList)
 | .bool,.bool a,.bool b=>some (a==b)
 | .ptr,.pointer none,.pointer b=>some b.isNone
 | .ptr,.pointer (some _),.pointer none=>some false
 | .Wb,.slice none _ _,.slice b _ _=>some b.isNone
 | .Wb,.slice (some _) _ _,.slice none _ _=>some false
 | .mp,.map none,.map b=>some b.isNone
 | .mp,.map (some _),.map none=>some false
 | .fn,.nilFunc,.nilFunc=>some true
 | .fn,.func ..,.nilFunc=>some false
 | .fn,.nilFunc,.func .. =>some false
 | .Zj,.nilIface,.iface .. =>some false
 | .Zj,.iface ..,.nilIface=>some false
 |_,_,_=>none
def eU(l:List Value)(off:Nat)(agg:Option Nat):Option Value:=
 match agg with
 |some n=>if off+n≤l.length then some (.agg ((l.drop off).take n).toArray)else none
 |none=>l[off]?
@[go_sem] theorem Nt(l:List Value)(off:Nat):eU l off none=l[off]? :=(rfl)
@[go_sem] theorem XW(l:List Value)(off n:Nat):eU l off (some n)=if off+n≤l.length then some (.agg ((l.drop off).take n).toArray)else none:=(rfl)
mutual
def qA:Shape→Value→Value→Option Bool
 | .s fs,.agg xs,.agg ys=>D5 fs xs.toList ys.toList
 |sh,x,y=>bB sh x y
def D5:List (Nat×Option Nat×Shape)→List Value→List Value→Option Bool
 | [],_,_=>some true
 | (off,agg,sh)::fs,xs,ys=>
  match eU xs off agg with
  |none=>none
  |some x=>
   match eU ys off agg with
   |none=>none
   |some y=>
    match qA sh x y with
    |some true=>D5 fs xs ys
    |some false=>some false
    |none=>none
end
def eG(P:Program)(t:TypeId):Bool:=match P.underlying t with|some (.struct _)|some (.array _ _)=>true|_=>false
def zB(P:Program)(sh:TypeId→Option Shape):List Field→Option (List (Nat×Option Nat×Shape))
 | []=>some []
 |f::fs=>
  if f.name= "_" then none else
  match sh f.type with
  |none=>none
  |some s=>(zB P sh fs).map ((f.offset,(if eG P f.type then some (P.cellsOf f.type)else none),s):: ·)
def shapeOf(P:Program):Nat→TypeId→Option Shape
 |0,_=>none
 |d+1,t=>
  match P.underlying t with
  |some (.int _)=>some .int
  |some .string=>some .str
  |some .bool=>some .bool
  |some (.pointer _)=>some .ptr
  |some (.slice _)=>some .Wb
  |some (.map _ _)=>some .mp
  |some (.func _ _ _)=>some .fn
  |some (.interface _)=>some .Zj
  |some (.struct fs)=>if P.stoodInHeld t then none else(zB P (shapeOf P d) fs.toList).map .s
  |_=>none
def eT(P:Program)(d:Nat)(fs:List Field):Option (List (Nat×Option Nat×Shape)):=zB P (shapeOf P d) fs
theorem BC(P:Program)(d:Nat):eT P d []=some []:=rfl
theorem oz(P:Program)(d:Nat)(f:Field)(fs:List Field):eT P d (f::fs)=
  if f.name= "_" then none else
  match shapeOf P d f.type with
  |none=>none
  |some s=>(eT P d fs).map ((f.offset,(if eG P f.type then some (P.cellsOf f.type)else none),s):: ·):=rfl
theorem fU(P:Program)(d:Nat)(t:TypeId):shapeOf P (d+1) t=
  match P.underlying t with
  |some (.int _)=>some .int
  |some .string=>some .str
  |some .bool=>some .bool
  |some (.pointer _)=>some .ptr
  |some (.slice _)=>some .Wb
  |some (.map _ _)=>some .mp
  |some (.func _ _ _)=>some .fn
  |some (.interface _)=>some .Zj
  |some (.struct fs)=>if P.stoodInHeld t then none else(eT P d fs.toList).map .s
  |_=>none:=rfl
def cj(op:BinOp)(s:Shape):Value→Value→Option Value
 | .int k a,.int k' b=>
  match op with
  | .shl=>if b<0 then none else some (.int k (k.wrap (a*2^ (min b.toNat k.bits))))
  | .shr=>if b<0 then none else some (.int k (a.fdiv (2^ (min b.toNat k.bits))))
  |_=>
   if k≠k' then none else
   match op with
   | .add=>some (.int k (k.wrap (a+b)))
   | .sub=>some (.int k (k.wrap (a - b)))
   | .mul=>some (.int k (k.wrap (a*b)))
   | .quo=>if b=0 then none else some (.int k (k.wrap (a.tdiv b)))
   | .rem=>if b=0 then none else some (.int k (a.tmod b))
   | .and=>some (.int k (k.wrap (BitVec.ofInt k.bits a &&& BitVec.ofInt k.bits b).toNat))
   | .or=>some (.int k (k.wrap (BitVec.ofInt k.bits a |||BitVec.ofInt k.bits b).toNat))
   | .xor=>some (.int k (k.wrap (BitVec.ofInt k.bits a^^^BitVec.ofInt k.bits b).toNat))
   | .andNot=>some (.int k (k.wrap (BitVec.ofInt k.bits a &&& ~~~ BitVec.ofInt k.bits b).toNat))
   | .eql=>some (.bool (decide (a=b)))
   | .neq=>some (.bool (!decide (a=b)))
   | .lss=>some (.bool (decide (a<b)))
   | .leq=>some (.bool (decide (a≤b)))
   | .gtr=>some (.bool (decide (a>b)))
   | .geq=>some (.bool (decide (a≥b)))
   |_=>none
 | .string x,.string y=>
  match op with
  | .add=>if((x.size+y.size:Nat):Int)>IntKind.i64.max then none else some (.string (x++y))
  | .eql=>some (.bool (x.toList==y.toList))
  | .neq=>some (.bool (!(x.toList==y.toList)))
  | .lss=>some (.bool (Op.bytesLess x.toList y.toList))
  | .leq=>some (.bool (Op.bytesLess x.toList y.toList || x.toList==y.toList))
  | .gtr=>some (.bool (!(Op.bytesLess x.toList y.toList || x.toList==y.toList)))
  | .geq=>some (.bool (!Op.bytesLess x.toList y.toList))
  |_=>none
 |x,y=>
  match op with
  | .eql=>(qA s x y).map .bool
  | .neq=>(qA s x y).map fun b=>.bool (!b)
  |_=>none
section
variable (s : Shape) (k : IntKind) (a b : Int)
@[go_sem] theorem ab5:cj .add s (.int k a) (.int k b)=some (.int k (k.wrap (a+b))):=by simp[cj]
@[go_sem] theorem ab6:cj .sub s (.int k a) (.int k b)=some (.int k (k.wrap (a - b))):=by simp[cj]
@[go_sem] theorem ab7:cj .mul s (.int k a) (.int k b)=some (.int k (k.wrap (a*b))):=by simp[cj]
@[go_sem] theorem ab8:cj .quo s (.int k a) (.int k b)=if b=0 then none else some (.int k (k.wrap (a.tdiv b))):=by simp[cj]
@[go_sem] theorem ab9:cj .rem s (.int k a) (.int k b)=if b=0 then none else some (.int k (a.tmod b)):=by simp[cj]
@[go_sem] theorem aca:cj .eql s (.int k a) (.int k b)=some (.bool (decide (a=b))):=by simp[cj]
@[go_sem] theorem acb:cj .neq s (.int k a) (.int k b)=some (.bool (!decide (a=b))):=by simp[cj]
@[go_sem] theorem acc:cj .lss s (.int k a) (.int k b)=some (.bool (decide (a<b))):=by simp[cj]
@[go_sem] theorem acd:cj .leq s (.int k a) (.int k b)=some (.bool (decide (a≤b))):=by simp[cj]
@[go_sem] theorem ace:cj .gtr s (.int k a) (.int k b)=some (.bool (decide (a>b))):=by simp[cj]
@[go_sem] theorem acf:cj .geq s (.int k a) (.int k b)=some (.bool (decide (a≥b))):=by simp[cj]
@[go_sem] theorem acg:cj .and s (.int k a) (.int k b)=some (.int k (k.wrap (BitVec.ofInt k.bits a &&& BitVec.ofInt k.bits b).toNat)):=by simp[cj]
@[go_sem] theorem ad8:cj .or s (.int k a) (.int k b)=some (.int k (k.wrap (BitVec.ofInt k.bits a |||BitVec.ofInt k.bits b).toNat)):=by simp[cj]
@[go_sem] theorem ach:cj .xor s (.int k a) (.int k b)=some (.int k (k.wrap (BitVec.ofInt k.bits a^^^BitVec.ofInt k.bits b).toNat)):=by simp[cj]
@[go_sem] theorem aci(k':IntKind):cj .shl s (.int k a) (.int k' b)=if b<0 then none else some (.int k (k.wrap (a*2^ (min b.toNat k.bits)))):=by simp[cj]
@[go_sem] theorem acj(k':IntKind):cj .shr s (.int k a) (.int k' b)=if b<0 then none else some (.int k (a.fdiv (2^ (min b.toNat k.bits)))):=by simp[cj]
variable (x y : ByteArray)
@[go_sem] theorem ack:cj .add s (.string x) (.string y)=if((x.size+y.size:Nat):Int)>IntKind.i64.max then none else some (.string (x++y)):=by simp[cj]
@[go_sem] theorem Zk:cj .eql s (.string x) (.string y)=some (.bool (x.toList==y.toList)):=by simp[cj]
@[go_sem] theorem Zl:cj .neq s (.string x) (.string y)=some (.bool (!(x.toList==y.toList))):=by simp[cj]
@[go_sem] theorem Zm(u v:Bool):cj .eql .bool (.bool u) (.bool v)=some (.bool (u==v)):=by simp[cj,qA,bB]
@[go_sem] theorem Zn(u v:Bool):cj .neq .bool (.bool u) (.bool v)=some (.bool (!(u==v))):=by simp[cj,qA,bB]
@[go_sem] theorem Zo(u:Option Addr):cj .eql .ptr (.pointer u) (.pointer none)=some (.bool u.isNone):=by cases u<;>simp[cj,qA,bB]
@[go_sem] theorem Zp(u:Option Addr):cj .neq .ptr (.pointer u) (.pointer none)=some (.bool (!u.isNone)):=by cases u<;>simp[cj,qA,bB]
@[go_sem] theorem XX(u:Option Addr)(n c:Nat):cj .eql .Wb (.slice u n c) (.slice none 0 0)=some (.bool u.isNone):=by cases u<;>simp[cj,qA,bB]
@[go_sem] theorem XY(u:Option Addr)(n c:Nat):cj .neq .Wb (.slice u n c) (.slice none 0 0)=some (.bool (!u.isNone)):=by cases u<;>simp[cj,qA,bB]
@[go_sem] theorem Zq(t:TypeId)(v:Value):cj .eql .Zj (.iface t v) .nilIface=some (.bool false):=by simp[cj,qA,bB]
@[go_sem] theorem Zr(t:TypeId)(v:Value):cj .neq .Zj (.iface t v) .nilIface=some (.bool true):=by simp[cj,qA,bB]
@[go_sem] theorem UF(fs:List (Nat×Option Nat×Shape))(l l':List Value):cj .eql (.s fs) (.agg l.toArray) (.agg l'.toArray)=(D5 fs l l').map .bool:=by simp[cj,qA]
@[go_sem] theorem UG(fs:List (Nat×Option Nat×Shape))(l l':List Value):cj .neq (.s fs) (.agg l.toArray) (.agg l'.toArray)=(D5 fs l l').map fun b=>.bool (!b):=by simp[cj,qA]
end
@[go_sem] theorem acl(b:Bool)(F:Bool→Prop):am (!b) F=am b fun t=>F (!t):=by cases b<;>rfl
def unF:UnOp→Value→Option Value
 | .neg,.int k n=>some (.int k (k.wrap (0 - n)))
 | .xor,.int k n=>some (.int k (k.wrap (BitVec.ofInt k.bits (if k.signed then -1 else k.max)^^^BitVec.ofInt k.bits n).toNat))
 | .not,.bool b=>some (.bool (!b))
 |_,_=>none
@[go_sem] theorem ad9(b:Bool):unF .not (.bool b)=some (.bool (!b)):=(rfl)
@[go_sem] theorem aea(k:IntKind)(n:Int):unF .neg (.int k n)=some (.int k (k.wrap (0 - n))):=(rfl)
@[go_sem] theorem aeb(k:IntKind)(n:Int):unF .xor (.int k n)=some (.int k (k.wrap (BitVec.ofInt k.bits (if k.signed then -1 else k.max)^^^BitVec.ofInt k.bits n).toNat)):=(rfl)
def vD(v:Value)(F:Nat→Nat→Prop)(_t:Tag F:=⟨⟩):Prop:=match v with| .pointer (some ⟨b,o,none⟩)=>F b o|_=>False
@[go_sem] theorem aec(b o:Nat)(F:Nat→Nat→Prop):vD (.pointer (some ⟨b,o,none⟩)) F=F b o:=(rfl)
theorem eX{v:Value}{F:Nat→Nat→Prop}(h:vD v F):∃b o,v= .pointer (some ⟨b,o,none⟩)∧F b o:=by
 unfold vD at h;split at h
 ·exact⟨_,_,rfl,h⟩
 ·exact h.elim
def BL(v:Value)(F:Int→Prop)(_t:Tag F:=⟨⟩):Prop:=match v with| .int _ n=>F n|_=>False
@[go_sem] theorem aed(k:IntKind)(n:Int)(F:Int→Prop):BL (.int k n) F=F n:=(rfl)
theorem ie{v:Value}{F:Int→Prop}(h:BL v F):∃k n,v= .int k n∧F n:=by
 unfold BL at h;split at h
 ·exact⟨_,_,rfl,h⟩
 ·exact h.elim
def oA(v:Value)(F:Option Addr→Nat→Nat→Prop)(_t:Tag F:=⟨⟩):Prop:=match v with| .slice a n c=>F a n c|_=>False
@[go_sem] theorem Zt(a:Option Addr)(n c:Nat)(F:Option Addr→Nat→Nat→Prop):oA (.slice a n c) F=F a n c:=(rfl)
theorem ij{v:Value}{F:Option Addr→Nat→Nat→Prop}(h:oA v F):∃a n c,v= .slice a n c∧F a n c:=by
 unfold oA at h;split at h
 ·exact⟨_,_,_,rfl,h⟩
 ·exact h.elim
def tM(a:Option Addr)(F:Nat→Nat→Prop)(_t:Tag F:=⟨⟩):Prop:=match a with|some ⟨b,o,none⟩=>F b o|_=>False
@[go_sem] theorem acn(b o:Nat)(F:Nat→Nat→Prop):tM (some ⟨b,o,none⟩) F=F b o:=(rfl)
theorem mQ{a:Option Addr}{F:Nat→Nat→Prop}(h:tM a F):∃b o,a=some ⟨b,o,none⟩∧F b o:=by
 unfold tM at h;split at h
 ·exact⟨_,_,rfl,h⟩
 ·exact h.elim
def iM(v:Value)(F:ByteArray→Prop)(_t:Tag F:=⟨⟩):Prop:=match v with| .string s=>F s|_=>False
@[go_sem] theorem XZ(s:ByteArray)(F:ByteArray→Prop):iM (.string s) F=F s:=(rfl)
theorem mq{v:Value}{F:ByteArray→Prop}(h:iM v F):∃s,v= .string s∧F s:=by
 unfold iM at h;split at h
 ·exact⟨_,rfl,h⟩
 ·exact h.elim
def O4(v:Value)(F:List Value→Prop)(_t:Tag F:=⟨⟩):Prop:=match v with| .tuple vs=>F vs.toList|_=>False
@[go_sem] theorem aee(l:List Value)(F:List Value→Prop):O4 (.tuple l.toArray) F=F l:=(rfl)
theorem If{v:Value}{F:List Value→Prop}(h:O4 v F):∃vs,v= .tuple vs∧F vs.toList:=by
 unfold O4 at h;split at h
 ·exact⟨_,rfl,h⟩
 ·exact h.elim
def O6(v:Value)(F:List Value→Prop)(_t:Tag F:=⟨⟩):Prop:=match v with| .agg vs=>F vs.toList|_=>False
@[go_sem] theorem aef(l:List Value)(F:List Value→Prop):O6 (.agg l.toArray) F=F l:=(rfl)
theorem Ig{v:Value}{F:List Value→Prop}(h:O6 v F):∃vs,v= .agg vs∧F vs.toList:=by
 unfold O6 at h;split at h
 ·exact⟨_,rfl,h⟩
 ·exact h.elim
def BM(v:Value)(F:Option Nat→Prop)(_t:Tag F:=⟨⟩):Prop:=match v with| .map r=>F r|_=>False
@[go_sem] theorem aeg(r:Option Nat)(F:Option Nat→Prop):BM (.map r) F=F r:=(rfl)
theorem jV{v:Value}{F:Option Nat→Prop}(h:BM v F):∃r,v= .map r∧F r:=by
 unfold BM at h;split at h
 ·exact⟨_,rfl,h⟩
 ·exact h.elim
def Mz(ev:Ev):List Operand→(List Value→Prop)→Prop
 | [],F=>F []
 |x::xs,F=>aC (ev x) fun v=>Mz ev xs fun vs=>F (v::vs)
@[go_sem ↓] theorem aeh(ev:Ev)(F:List Value→Prop):Mz ev [] F=F []:=(rfl)
@[go_sem ↓] theorem aco(ev:Ev)(x:Operand)(xs:List Operand)(F:List Value→Prop):Mz ev (x::xs) F=aC (ev x) fun v=>Mz ev xs fun vs=>F (v::vs):=(rfl)
theorem kA{ev:Ev}{ρ:Operand→Value}(bE:∀x v,ev x=some v→ρ x=v):∀ {xs:List Operand} {F:List Value→Prop},Mz ev xs F→F (xs.map ρ):=by
 intro xs
 induction xs with
 |nil=>intro F h;exact h
 |cons x xs ih=>
  intro F h
  obtain⟨v,hv,h⟩:=az h
  have:=ih h
  rw[aom,bE x v hv]
  exact this
def zQ(ev:Ev):List Value→List (Nat×Nat×Operand)→(List Value→Prop)→Prop
 |z,[],K=>K z
 |z,(off,size,x)::r,K=>aC (ev x) fun v=>dm ((aH v).length=size) (zQ ev (bh z off (aH v)) r K)
@[go_sem ↓] theorem Zu(ev:Ev)(z:List Value)(K:List Value→Prop):zQ ev z [] K=K z:=(rfl)
@[go_sem ↓] theorem X0(ev:Ev)(z:List Value)(off size:Nat)(x:Operand)(r:List (Nat×Nat×Operand))(K:List Value→Prop):
  zQ ev z ((off,size,x)::r) K=aC (ev x) fun v=>dm ((aH v).length=size) (zQ ev (bh z off (aH v)) r K):=(rfl)
def cA(z:List Value)(k:Nat):List Value:=(List.replicate k z).flatten
def fC(s:Shape)(k:Value):List MapEntry→Nat→Option (Option (Nat×Value))
 | [],_=>some none
 |e::es,i=>
  match qA s k e.key with
  |some true=>some (some (i,e.val))
  |some false=>fC s k es (i+1)
  |none=>none
def j9:Shape→Bool| .int| .str| .bool=>true|_=>false
def zM:Shape→Value→Bool
 | .int,.int _ _=>true
 | .str,.string _=>true
 | .bool,.bool _=>true
 | .s fs,.agg xs=>fs.all fun(off,agg,sh)=>agg.isNone && j9 sh && (match sh,xs[off]? with| .int,some (.int _ _)=>true| .str,some (.string _)=>true| .bool,some (.bool _)=>true|_,_=>false)
 |_,_=>false
def xt(H:Hp)(s:Shape)(r:Option Nat)(k:Value)(F:Option Value→Prop)(_t:Tag F:=⟨⟩):Prop:=
 match r with
 |none=>F none
 |some b=>aC (H.mp b) fun m=>aC (fC s k m.1 0) fun x=>F (x.map (·.2))
def Ke(es:List MapEntry)(x:Option (Nat×Value))(k v:Value)(clock:Nat):List MapEntry:=
 match x with
 |some (i,_)=>es.modify i fun e=>{e with key:=k,val:=v}
 |none=>es++[{key:=k,val:=v,born:=clock}]
def IR(x:Option (Nat×Value))(clock:Nat):Nat:=match x with|some _=>clock|none=>clock+1
def Ey(es:List MapEntry)(x:Option (Nat×Value))(k:Value):Bool:=
 match x with
 |some (i,_)=>Instr.sameBits 10000 (((es[i]?).map (·.key)).getD k) k
 |none=>true
@[go_sem] theorem UH(es:List MapEntry)(k:Value):Ey es none k=true:=(rfl)
def E0(es:List MapEntry)(x:Option (Nat×Value)):List MapEntry:=match x with|some (i,_)=>es.eraseIdx i|none=>es
def Q6(H:Hp)(s:Shape)(b:Nat)(k v:Value)(F:Hp→Prop)(_t:Tag F:=⟨⟩):Prop:=
 aC (H.mp b) fun es=>aC (fC s k es.1 0) fun x=>dm (Ey es.1 x k=true) (F (H.C9 b (Ke es.1 x k v es.2) (IR x es.2)))
def Wa(H:Hp)(s:Shape)(b:Nat)(k:Value)(F:Hp→Prop)(_t:Tag F:=⟨⟩):Prop:=
 aC (H.mp b) fun es=>aC (fC s k es.1 0) fun x=>F (H.C9 b (E0 es.1 x) es.2)
def X1(H:Hp)(z:List Value)(a:Option Addr)(n:Nat)(F:Hp→Prop)(_t:Tag F:=⟨⟩):Prop:=
 (n=0∧F H)∨(n≠0∧∃b o l,a=some ⟨b,o,none⟩∧I0 (H.own b) (H.BD b)=some l∧gz (cA z n)∧o+n*z.length≤l.length∧F (H.wr b (bh l o (cA z n))))
@[go_sem] theorem Zw(k:IntKind)(n:Int):zM .int (.int k n)=true:=(rfl)
@[go_sem] theorem Zx(s:ByteArray):zM .str (.string s)=true:=(rfl)
def ef(P:Program)(f:FuncId):Bool:=match P.funcs[f]? with|some fn=>fn.name != "runtime.NumGoroutine" && fn.body.isSome|none=>false
def Q8(P:Program)(H:Hp)(T:TypeId)(v:Value)(name:String)(f:FuncId)(rv:Value):Prop:=
 ef P f=true∧∀w,w.heap=H→(method (P.types.size+Made.depth) T v name).run P w= .ok (f,rv) w
def gI(P:Program)(recv:Value)(name:String)(args:List Value)(H:Hp)(K:Value→Hp→Prop)(_t:Tag K:=⟨⟩):Prop:=
 ∃T v f rv,recv= .iface T v∧Q8 P H T v name f rv∧af P f (rv::args) H K
def VS(P:Program)(fv:Value)(args:List Value)(H:Hp)(K:Value→Hp→Prop)(_t:Tag K:=⟨⟩):Prop:=
 match fv with
 | .func (.func f) first captured=>ef P f=true∧af P f (first.toList++args++captured.toList) H K
 |_=>False
def Um(P:Program)(f:FuncId)(vs:List Value)(H:Hp)(K:Value→Hp→Prop)(_t:Tag K:=⟨⟩):Prop:=∃v,(∀w,(callFunc f vs.toArray).run P w= .ok (.value v) w)∧K v H
theorem Um.mk{P:Program}{f:FuncId}{vs:List Value}{H:Hp}{K:Value→Hp→Prop}{v:Value}(h:∀w,(callFunc f vs.toArray).run P w= .ok (.value v) w)(k:K v H):Um P f vs H K:=⟨v,h,k⟩
def rowOf(H:Hp)(size:Nat)(v:Value)(F:Nat→List Value→Prop)(_t:Tag F:=⟨⟩):Prop:=
 match v with
 | .slice a n _=>E9 (n==0) (F 0 []) (tM a fun b o=>aC (H.rd b) fun l=>dm (o+n*size≤l.length) (F n ((l.drop o).take (n*size))))
 | .string s=>dm (size=1) (F s.size (s.data.toList.map fun b=>.int .u8 b.toNat))
 |_=>False
def fW(T size bytes:Nat)(z:List Value)(s x:Value)(H:Hp)(K:Value→Hp→Prop)(_t:Tag K:=⟨⟩):Prop:=
 oA s fun base n c=>rowOf H size x fun m new=>
  (n+m≤c→m=0→K (.slice base n c) H)∧
  (n+m≤c→m≠0→tM base fun b o=>aC (I0 (H.own b) (H.BD b)) fun l=>dm (o+(n+m)*size≤l.length∧gz new) (K (.slice base (n+m) c) (H.wr b (bh l (o+n*size) new))))∧
  (c<n+m→Builtin.nextslicecap (n+m) c*bytes≤2^48∧
   rowOf H size s fun _ QZ=>∀c',n+m≤c'→K (.slice (some ⟨H.size,0,none⟩) (n+m) c') (H.new T (QZ++new++cA z (c' - (n+m)))))
def SK(T:TypeId)(s:ByteArray)(H:Hp)(K:Value→Hp→Prop)(_t:Tag K:=⟨⟩):Prop:=
 ∀c,s.size≤c→K (.slice (some ⟨H.size,0,none⟩) s.size c) (H.Mt T ((s.data.toList.map fun b=>.int .u8 b.toNat)++List.replicate (c - s.size) (.int .u8 0)))
def vi(T:TypeId)(v:Value)(F:Value→Prop)(_t:Tag F:=⟨⟩):Prop:=match v with| .iface t u=>dm (t=T) (F u)|_=>False
@[go_sem] theorem X2(T t:TypeId)(u:Value)(F:Value→Prop):vi T (.iface t u) F=dm (t=T) (F u):=(rfl)
def MA(v:Value)(F:Bool→Prop)(_t:Tag F:=⟨⟩):Prop:=match v with| .nilIface=>F true| .iface _ _=>F false|_=>False
@[go_sem] theorem acp(F:Bool→Prop):MA .nilIface F=F true:=(rfl)
@[go_sem] theorem aei(t:TypeId)(u:Value)(F:Bool→Prop):MA (.iface t u) F=F false:=(rfl)
theorem Ih{v:Value}{F:Bool→Prop}(h:MA v F):(v= .nilIface∧F true)∨∃t u,v= .iface t u∧F false:=by
 unfold MA at h;split at h
 ·exact .inl ⟨rfl,h⟩
 ·exact .inr ⟨_,_,rfl,h⟩
 ·exact h.elim
def NN(neg b:Bool):Bool:=bif neg then !b else b
@[go_sem] theorem aej:NN false false=false:=(rfl)
@[go_sem] theorem aek:NN false true=true:=(rfl)
@[go_sem] theorem ael:NN true false=true:=(rfl)
@[go_sem] theorem aem:NN true true=false:=(rfl)
theorem zR{T:TypeId}{v:Value}{F:Value→Prop}(h:vi T v F):∃u,v= .iface T u∧F u:=by
 unfold vi at h;split at h
 ·obtain⟨rfl,h⟩:=h;exact⟨_,rfl,h⟩
 ·exact h.elim
def bytesOf:List Value→Option (List UInt8)
 | []=>some []
 | .int .u8 n::r=>(bytesOf r).map (UInt8.ofNat n.toNat:: ·)
 |_::_=>none
@[go_sem] theorem VE:bytesOf []=some []:=(rfl)
@[go_sem] theorem UI(n:Int)(r:List Value):bytesOf (.int .u8 n::r)=(bytesOf r).map (UInt8.ofNat n.toNat:: ·):=(rfl)
def tL(H:Hp)(v:Value)(F:List UInt8→Prop)(_t:Tag F:=⟨⟩):Prop:=
 match v with
 | .slice a n c=>rowOf H 1 (.slice a n c) fun _ l=>aC (bytesOf l) F
 |_=>False
@[go_sem] theorem Zy(H:Hp)(a:Option Addr)(n c:Nat)(F:List UInt8→Prop):tL H (.slice a n c) F=rowOf H 1 (.slice a n c) fun _ l=>aC (bytesOf l) F:=(rfl)
inductive da where
 |au(x:Operand)
 |pick(c a b:Operand)
 |box(T:TypeId)(x:Operand)
 |zero(T:TypeId)(l:List Value)
 |build(z:List Value)(parts:List (Nat×Nat×Operand))
 |lit(T:TypeId)(n:Nat)(z:List Value)(parts:List (Nat×Nat×Operand))
 |aj(x:Operand)
 |eD(n:Nat)(x:Operand)
 |store(n:Nat)(x v:Operand)
 |nilCheck(x:Operand)
 |jz(op:BinOp)(s:Shape)(x y:Operand)
 |un(op:UnOp)(x:Operand)
 |conv(k:IntKind)(x:Operand)
 |iface(T:TypeId)(x:Operand)
 |func(fn:Fn)(first captured:List Operand)
 |mP
 |makeSlice(T bytes size:Nat)(z:List Value)(n c:Operand)
 |slice(size:Nat)(x:Operand)(lo hi mx:Option Operand)
 |IU(x:Operand)(lo hi:Option Operand)
 |fieldAddr(off:Nat)(x:Operand)
 |field(off:Nat)(agg:Option Nat)(x:Operand)
 |indexAddr(size:Nat)(x i:Operand)
 |zO(len size:Nat)(x i:Operand)
 |IV(x i:Operand)
 |lookup(s:Shape)(z:Value)(ok:Bool)(m k:Operand)
 |update(s:Shape)(m k v:Operand)
 |extract(i:Nat)(x:Operand)
 |call(f:FuncId)(args:List Operand)
 |dyn(f:Operand)(args:List Operand)
 |invoke(r:Operand)(name:String)(args:List Operand)
 |xW(x:Operand)
 |Tj(x:Operand)
 |Tk(x:Operand)
 |append(T size bytes:Nat)(z:List Value)(x y:Operand)
 |delete(s:Shape)(m k:Operand)
 |Mr(z:List Value)(x:Operand)
 |Tn(args:List Operand)
 |To(args:List Operand)
 |IW(T:TypeId)(x:Operand)
 |Tp(neg:Bool)(x:Operand)
 |NV(x:Operand)
 |IT(T:TypeId)(x:Operand)
 |ext(f:FuncId)(args:List Operand)
 deriving Inhabited
def fg(P:Program)(t:TypeId):Option Value:=(P.info? t).bind (·.zero)
def eI:Nat:=8
def j8(place:Nat→Option (Nat×Nat))(IP:Nat):List (Nat×Operand)→Option (List (Nat×Nat×Operand))
 | []=>some []
 | (i,x)::r=>
  match place i with
  |none=>none
  |some (off,size)=>if off+size≤IP then(j8 place IP r).map ((off,size,x):: ·)else none
def LX(P:Program)(fs:Array Field):Bool:=fs.all fun f=>(P.info? f.type).isSome
def placeOf(P:Program)(fs:Array Field):Array (Nat×Nat):=fs.map fun f=>(f.offset,P.cellsOf f.type)
def parts(P:Program)(t:TypeId)(IP:Nat)(ps:List (Nat×Operand)):Option (List (Nat×Nat×Operand)):=
 match P.underlying t with
 |some (.struct fields)=>if LX P fields then j8 ((placeOf P fields)[·]?) IP ps else none
 |some (.array _ e)=>if(P.info? e).isSome then j8 (fun i=>some (i*P.cellsOf e,P.cellsOf e)) IP ps else none
 |_=>none
end Go.Vc
