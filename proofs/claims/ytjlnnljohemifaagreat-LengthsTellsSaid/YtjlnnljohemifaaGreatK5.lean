/- Texts put behind each other. -/
import Derived.Test.YtjlnnljohemifaaGreatK98
import Derived.Test.YtjlnnljohemifaaGreatK4
import Derived.Laws.StructEq
set_option linter.unusedVariables false
namespace Go.Vc
attribute [go_sem] anY aoF an7 aox ao1 aop apI List.drop_succ_cons
  List.take_zero List.take_succ_cons Bool.not_true Bool.not_false apY anB
abbrev Ev:=Operand→Option Value
inductive Shape where
 |int|str|bool|ptr|Rv|mp|fn|ZK
 |s(fs:List (Nat×Option Nat×Shape))
 deriving Inhabited
def bB:Shape→Value→Value→Option Bool
 | .int,.int k a,.int k' b=>if k=k' then some (decide (a=b))else none
 | .str,.string a,.string b=>some (a.toList==b.toList)
 | .bool,.bool a,.bool b=>some (a==b)
 | .ptr,.pointer none,.pointer b=>some b.isNone
 | .ptr,.pointer (some _),.pointer none=>some false
 | .Rv,.slice none _ _,.slice b _ _=>some b.isNone
 | .Rv,.slice (some _) _ _,.slice none _ _=>some false
 | .mp,.map none,.map b=>some b.isNone
 | .mp,.map (some _),.map none=>some false
 | .fn,.nilFunc,.nilFunc=>some true
 | .fn,.func ..,.nilFunc=>some false
 | .fn,.nilFunc,.func .. =>some false
 | .ZK,.nilIface,.iface .. =>some false
 | .ZK,.iface ..,.nilIface=>some false
 |_,_,_=>none
def xI(l:List Value)(off:Nat)(agg:Option Nat):Option Value:=
 match agg with
 |some n=>if off+n≤l.length then some (.agg ((l.drop off).take n).toArray)else none
 |none=>l[off]?
@[go_sem] theorem HG(l:List Value)(off:Nat):xI l off none=l[off]? :=(rfl)
@[go_sem] theorem Yl(l:List Value)(off n:Nat):xI l off (some n)=if off+n≤l.length then some (.agg ((l.drop off).take n).toArray)else none:=(rfl)
mutual
def tB:Shape→Value→Value→Option Bool
 | .s fs,.agg xs,.agg ys=>CO fs xs.toList ys.toList
 |sh,x,y=>bB sh x y
def CO:List (Nat×Option Nat×Shape)→List Value→List Value→Option Bool
 | [],_,_=>some true
 | (off,agg,sh)::fs,xs,ys=>
  match xI xs off agg with
  |none=>none
  |some x=>
   match xI ys off agg with
   |none=>none
   |some y=>
    match tB sh x y with
    |some true=>CO fs xs ys
    |some false=>some false
    |none=>none
end
def fC(P:Program)(t:TypeId):Bool:=match P.underlying t with|some (.struct _)|some (.array _ _)=>true|_=>false
def BB(P:Program)(sh:TypeId→Option Shape):List Field→Option (List (Nat×Option Nat×Shape))
 | []=>some []
 |f::fs=>
  if f.name= "_" then none else
  match sh f.type with
  |none=>none
  |some s=>(BB P sh fs).map ((f.offset,(if fC P f.type then some (P.cellsOf f.type)else none),s):: ·)
def shapeOf(P:Program):Nat→TypeId→Option Shape
 |0,_=>none
 |d+1,t=>
  match P.underlying t with
  |some (.int _)=>some .int
  |some .string=>some .str
  |some .bool=>some .bool
  |some (.pointer _)=>some .ptr
  |some (.slice _)=>some .Rv
  |some (.map _ _)=>some .mp
  |some (.func _ _ _)=>some .fn
  |some (.interface _)=>some .ZK
  |some (.struct fs)=>if P.stoodInHeld t then none else(BB P (shapeOf P d) fs.toList).map .s
  |_=>none
def fJ(P:Program)(d:Nat)(fs:List Field):Option (List (Nat×Option Nat×Shape)):=BB P (shapeOf P d) fs
theorem Dh(P:Program)(d:Nat):fJ P d []=some []:=rfl
theorem sJ(P:Program)(d:Nat)(f:Field)(fs:List Field):fJ P d (f::fs)=
  if f.name= "_" then none else
  match shapeOf P d f.type with
  |none=>none
  |some s=>(fJ P d fs).map ((f.offset,(if fC P f.type then some (P.cellsOf f.type)else none),s):: ·):=rfl
theorem ir(P:Program)(d:Nat)(t:TypeId):shapeOf P (d+1) t=
  match P.underlying t with
  |some (.int _)=>some .int
  |some .string=>some .str
  |some .bool=>some .bool
  |some (.pointer _)=>some .ptr
  |some (.slice _)=>some .Rv
  |some (.map _ _)=>some .mp
  |some (.func _ _ _)=>some .fn
  |some (.interface _)=>some .ZK
  |some (.struct fs)=>if P.stoodInHeld t then none else(fJ P d fs.toList).map .s
  |_=>none:=rfl
def cA(op:BinOp)(s:Shape):Value→Value→Option Value
 | .int k a,.int k' b=>
  match op with
  | .shl=>if b<0 then none else some (.int k (k.wrap (a*2^ (min b.toNat k.bits))))
  | .shr=>if b<0 then none else some (.int k (a.fdiv (2^ (min b.toNat k.bits))))
  |_=>
   if k≠k' then none else
   match op with
   | .add=>some (.int k (k.wrap (a+b)))
   | .sub=>some (.int k (k.wrap (a - b)))
   | .mul=>some (.int k (k.wrap (a*b)))
   | .quo=>if b=0 then none else some (.int k (k.wrap (a.tdiv b)))
   | .rem=>if b=0 then none else some (.int k (a.tmod b))
   | .and=>some (.int k (k.wrap (BitVec.ofInt k.bits a &&& BitVec.ofInt k.bits b).toNat))
   | .or=>some (.int k (k.wrap (BitVec.ofInt k.bits a |||BitVec.ofInt k.bits b).toNat))
   | .xor=>some (.int k (k.wrap (BitVec.ofInt k.bits a^^^BitVec.ofInt k.bits b).toNat))
   | .andNot=>some (.int k (k.wrap (BitVec.ofInt k.bits a &&& ~~~ BitVec.ofInt k.bits b).toNat))
   | .eql=>some (.bool (decide (a=b)))
   | .neq=>some (.bool (!decide (a=b)))
   | .lss=>some (.bool (decide (a<b)))
   | .leq=>some (.bool (decide (a≤b)))
   | .gtr=>some (.bool (decide (a>b)))
   | .geq=>some (.bool (decide (a≥b)))
   |_=>none
 | .string x,.string y=>
  match op with
  | .add=>if((x.size+y.size:Nat):Int)>IntKind.i64.max then none else some (.string (x++y))
  | .eql=>some (.bool (x.toList==y.toList))
  | .neq=>some (.bool (!(x.toList==y.toList)))
  | .lss=>some (.bool (Op.bytesLess x.toList y.toList))
  | .leq=>some (.bool (Op.bytesLess x.toList y.toList || x.toList==y.toList))
  | .gtr=>some (.bool (!(Op.bytesLess x.toList y.toList || x.toList==y.toList)))
  | .geq=>some (.bool (!Op.bytesLess x.toList y.toList))
  |_=>none
 |x,y=>
  match op with
  | .eql=>(tB s x y).map .bool
  | .neq=>(tB s x y).map fun b=>.bool (!b)
  |_=>none
section
variable (s : Shape) (k : IntKind) (a b : Int)
@[go_sem] theorem ab7:cA .add s (.int k a) (.int k b)=some (.int k (k.wrap (a+b))):=by simp[cA]
@[go_sem] theorem ab8:cA .sub s (.int k a) (.int k b)=some (.int k (k.wrap (a - b))):=by simp[cA]
@[go_sem] theorem ab9:cA .mul s (.int k a) (.int k b)=some (.int k (k.wrap (a*b))):=by simp[cA]
@[go_sem] theorem aca:cA .quo s (.int k a) (.int k b)=if b=0 then none else some (.int k (k.wrap (a.tdiv b))):=by simp[cA]
@[go_sem] theorem acb:cA .rem s (.int k a) (.int k b)=if b=0 then none else some (.int k (a.tmod b)):=by simp[cA]
@[go_sem] theorem acc:cA .eql s (.int k a) (.int k b)=some (.bool (decide (a=b))):=by simp[cA]
@[go_sem] theorem acd:cA .neq s (.int k a) (.int k b)=some (.bool (!decide (a=b))):=by simp[cA]
@[go_sem] theorem ace:cA .lss s (.int k a) (.int k b)=some (.bool (decide (a<b))):=by simp[cA]
@[go_sem] theorem acf:cA .leq s (.int k a) (.int k b)=some (.bool (decide (a≤b))):=by simp[cA]
@[go_sem] theorem acg:cA .gtr s (.int k a) (.int k b)=some (.bool (decide (a>b))):=by simp[cA]
@[go_sem] theorem ach:cA .geq s (.int k a) (.int k b)=some (.bool (decide (a≥b))):=by simp[cA]
@[go_sem] theorem aci:cA .and s (.int k a) (.int k b)=some (.int k (k.wrap (BitVec.ofInt k.bits a &&& BitVec.ofInt k.bits b).toNat)):=by simp[cA]
@[go_sem] theorem aei:cA .or s (.int k a) (.int k b)=some (.int k (k.wrap (BitVec.ofInt k.bits a |||BitVec.ofInt k.bits b).toNat)):=by simp[cA]
@[go_sem] theorem acj:cA .xor s (.int k a) (.int k b)=some (.int k (k.wrap (BitVec.ofInt k.bits a^^^BitVec.ofInt k.bits b).toNat)):=by simp[cA]
@[go_sem] theorem ack(k':IntKind):cA .shl s (.int k a) (.int k' b)=if b<0 then none else some (.int k (k.wrap (a*2^ (min b.toNat k.bits)))):=by simp[cA]
@[go_sem] theorem acl(k':IntKind):cA .shr s (.int k a) (.int k' b)=if b<0 then none else some (.int k (a.fdiv (2^ (min b.toNat k.bits)))):=by simp[cA]
variable (x y : ByteArray)
@[go_sem] theorem acm:cA .add s (.string x) (.string y)=if((x.size+y.size:Nat):Int)>IntKind.i64.max then none else some (.string (x++y)):=by simp[cA]
@[go_sem] theorem ZL:cA .eql s (.string x) (.string y)=some (.bool (x.toList==y.toList)):=by simp[cA]
@[go_sem] theorem ZM:cA .neq s (.string x) (.string y)=some (.bool (!(x.toList==y.toList))):=by simp[cA]
@[go_sem] theorem ZN(u v:Bool):cA .eql .bool (.bool u) (.bool v)=some (.bool (u==v)):=by simp[cA,tB,bB]
@[go_sem] theorem ZO(u v:Bool):cA .neq .bool (.bool u) (.bool v)=some (.bool (!(u==v))):=by simp[cA,tB,bB]
@[go_sem] theorem ZP(u:Option Addr):cA .eql .ptr (.pointer u) (.pointer none)=some (.bool u.isNone):=by cases u<;>simp[cA,tB,bB]
@[go_sem] theorem ZQ(u:Option Addr):cA .neq .ptr (.pointer u) (.pointer none)=some (.bool (!u.isNone)):=by cases u<;>simp[cA,tB,bB]
@[go_sem] theorem Ym(u:Option Addr)(n c:Nat):cA .eql .Rv (.slice u n c) (.slice none 0 0)=some (.bool u.isNone):=by cases u<;>simp[cA,tB,bB]
@[go_sem] theorem Yn(u:Option Addr)(n c:Nat):cA .neq .Rv (.slice u n c) (.slice none 0 0)=some (.bool (!u.isNone)):=by cases u<;>simp[cA,tB,bB]
@[go_sem] theorem ZR(t:TypeId)(v:Value):cA .eql .ZK (.iface t v) .nilIface=some (.bool false):=by simp[cA,tB,bB]
@[go_sem] theorem ZS(t:TypeId)(v:Value):cA .neq .ZK (.iface t v) .nilIface=some (.bool true):=by simp[cA,tB,bB]
@[go_sem] theorem Vz(fs:List (Nat×Option Nat×Shape))(l l':List Value):cA .eql (.s fs) (.agg l.toArray) (.agg l'.toArray)=(CO fs l l').map .bool:=by simp[cA,tB]
@[go_sem] theorem VA(fs:List (Nat×Option Nat×Shape))(l l':List Value):cA .neq (.s fs) (.agg l.toArray) (.agg l'.toArray)=(CO fs l l').map fun b=>.bool (!b):=by simp[cA,tB]
end
@[go_sem] theorem acn(b:Bool)(F:Bool→Prop):am (!b) F=am b fun t=>F (!t):=by cases b<;>rfl
def unF:UnOp→Value→Option Value
 | .neg,.int k n=>some (.int k (k.wrap (0 - n)))
 | .xor,.int k n=>some (.int k (k.wrap (BitVec.ofInt k.bits (if k.signed then -1 else k.max)^^^BitVec.ofInt k.bits n).toNat))
 | .not,.bool b=>some (.bool (!b))
 |_,_=>none
@[go_sem] theorem aej(b:Bool):unF .not (.bool b)=some (.bool (!b)):=(rfl)
@[go_sem] theorem aek(k:IntKind)(n:Int):unF .neg (.int k n)=some (.int k (k.wrap (0 - n))):=(rfl)
@[go_sem] theorem ael(k:IntKind)(n:Int):unF .xor (.int k n)=some (.int k (k.wrap (BitVec.ofInt k.bits (if k.signed then -1 else k.max)^^^BitVec.ofInt k.bits n).toNat)):=(rfl)
def zO(v:Value)(F:Nat→Nat→Prop)(_t:Tag F:=⟨⟩):Prop:=match v with| .pointer (some ⟨b,o,none⟩)=>F b o|_=>False
@[go_sem] theorem aem(b o:Nat)(F:Nat→Nat→Prop):zO (.pointer (some ⟨b,o,none⟩)) F=F b o:=(rfl)
theorem fM{v:Value}{F:Nat→Nat→Prop}(h:zO v F):∃b o,v= .pointer (some ⟨b,o,none⟩)∧F b o:=by
 unfold zO at h;split at h
 ·exact⟨_,_,rfl,h⟩
 ·exact h.elim
def EN(v:Value)(F:Int→Prop)(_t:Tag F:=⟨⟩):Prop:=match v with| .int _ n=>F n|_=>False
@[go_sem] theorem aen(k:IntKind)(n:Int)(F:Int→Prop):EN (.int k n) F=F n:=(rfl)
theorem kM{v:Value}{F:Int→Prop}(h:EN v F):∃k n,v= .int k n∧F n:=by
 unfold EN at h;split at h
 ·exact⟨_,_,rfl,h⟩
 ·exact h.elim
def sK(v:Value)(F:Option Addr→Nat→Nat→Prop)(_t:Tag F:=⟨⟩):Prop:=match v with| .slice a n c=>F a n c|_=>False
@[go_sem] theorem ZT(a:Option Addr)(n c:Nat)(F:Option Addr→Nat→Nat→Prop):sK (.slice a n c) F=F a n c:=(rfl)
theorem kN{v:Value}{F:Option Addr→Nat→Nat→Prop}(h:sK v F):∃a n c,v= .slice a n c∧F a n c:=by
 unfold sK at h;split at h
 ·exact⟨_,_,_,rfl,h⟩
 ·exact h.elim
def xT(a:Option Addr)(F:Nat→Nat→Prop)(_t:Tag F:=⟨⟩):Prop:=match a with|some ⟨b,o,none⟩=>F b o|_=>False
@[go_sem] theorem acp(b o:Nat)(F:Nat→Nat→Prop):xT (some ⟨b,o,none⟩) F=F b o:=(rfl)
theorem qS{a:Option Addr}{F:Nat→Nat→Prop}(h:xT a F):∃b o,a=some ⟨b,o,none⟩∧F b o:=by
 unfold xT at h;split at h
 ·exact⟨_,_,rfl,h⟩
 ·exact h.elim
def mf(v:Value)(F:ByteArray→Prop)(_t:Tag F:=⟨⟩):Prop:=match v with| .string s=>F s|_=>False
@[go_sem] theorem Yo(s:ByteArray)(F:ByteArray→Prop):mf (.string s) F=F s:=(rfl)
theorem pS{v:Value}{F:ByteArray→Prop}(h:mf v F):∃s,v= .string s∧F s:=by
 unfold mf at h;split at h
 ·exact⟨_,rfl,h⟩
 ·exact h.elim
def Q9(v:Value)(F:List Value→Prop)(_t:Tag F:=⟨⟩):Prop:=match v with| .tuple vs=>F vs.toList|_=>False
@[go_sem] theorem aeo(l:List Value)(F:List Value→Prop):Q9 (.tuple l.toArray) F=F l:=(rfl)
theorem J1{v:Value}{F:List Value→Prop}(h:Q9 v F):∃vs,v= .tuple vs∧F vs.toList:=by
 unfold Q9 at h;split at h
 ·exact⟨_,rfl,h⟩
 ·exact h.elim
def Ra(v:Value)(F:List Value→Prop)(_t:Tag F:=⟨⟩):Prop:=match v with| .agg vs=>F vs.toList|_=>False
@[go_sem] theorem aep(l:List Value)(F:List Value→Prop):Ra (.agg l.toArray) F=F l:=(rfl)
theorem J2{v:Value}{F:List Value→Prop}(h:Ra v F):∃vs,v= .agg vs∧F vs.toList:=by
 unfold Ra at h;split at h
 ·exact⟨_,rfl,h⟩
 ·exact h.elim
def EO(v:Value)(F:Option Nat→Prop)(_t:Tag F:=⟨⟩):Prop:=match v with| .map r=>F r|_=>False
@[go_sem] theorem aeq(r:Option Nat)(F:Option Nat→Prop):EO (.map r) F=F r:=(rfl)
theorem nh{v:Value}{F:Option Nat→Prop}(h:EO v F):∃r,v= .map r∧F r:=by
 unfold EO at h;split at h
 ·exact⟨_,rfl,h⟩
 ·exact h.elim
def OS(ev:Ev):List Operand→(List Value→Prop)→Prop
 | [],F=>F []
 |x::xs,F=>aF (ev x) fun v=>OS ev xs fun vs=>F (v::vs)
@[go_sem ↓] theorem aer(ev:Ev)(F:List Value→Prop):OS ev [] F=F []:=(rfl)
@[go_sem ↓] theorem acq(ev:Ev)(x:Operand)(xs:List Operand)(F:List Value→Prop):OS ev (x::xs) F=aF (ev x) fun v=>OS ev xs fun vs=>F (v::vs):=(rfl)
theorem nY{ev:Ev}{ρ:Operand→Value}(bI:∀x v,ev x=some v→ρ x=v):∀ {xs:List Operand} {F:List Value→Prop},OS ev xs F→F (xs.map ρ):=by
 intro xs
 induction xs with
 |nil=>intro F h;exact h
 |cons x xs ih=>
  intro F h
  obtain⟨v,hv,h⟩:=aC h
  have:=ih h
  rw[aoy,bI x v hv]
  exact this
def Di(ev:Ev):List Value→List (Nat×Nat×Operand)→(List Value→Prop)→Prop
 |z,[],K=>K z
 |z,(off,size,x)::r,K=>aF (ev x) fun v=>eB ((aM v).length=size) (Di ev (bk z off (aM v)) r K)
@[go_sem ↓] theorem ZU(ev:Ev)(z:List Value)(K:List Value→Prop):Di ev z [] K=K z:=(rfl)
@[go_sem ↓] theorem Yp(ev:Ev)(z:List Value)(off size:Nat)(x:Operand)(r:List (Nat×Nat×Operand))(K:List Value→Prop):
  Di ev z ((off,size,x)::r) K=aF (ev x) fun v=>eB ((aM v).length=size) (Di ev (bk z off (aM v)) r K):=(rfl)
def cN(z:List Value)(k:Nat):List Value:=(List.replicate k z).flatten
def ic(s:Shape)(k:Value):List MapEntry→Nat→Option (Option (Nat×Value))
 | [],_=>some none
 |e::es,i=>
  match tB s k e.key with
  |some true=>some (some (i,e.val))
  |some false=>ic s k es (i+1)
  |none=>none
def nm:Shape→Bool| .int| .str| .bool=>true|_=>false
def C4:Shape→Value→Bool
 | .int,.int _ _=>true
 | .str,.string _=>true
 | .bool,.bool _=>true
 | .s fs,.agg xs=>fs.all fun(off,agg,sh)=>agg.isNone && nm sh && (match sh,xs[off]? with| .int,some (.int _ _)=>true| .str,some (.string _)=>true| .bool,some (.bool _)=>true|_,_=>false)
 |_,_=>false
def z8(H:Hp)(s:Shape)(r:Option Nat)(k:Value)(F:Option Value→Prop)(_t:Tag F:=⟨⟩):Prop:=
 match r with
 |none=>F none
 |some b=>aF (H.mp b) fun m=>aF (ic s k m.1 0) fun x=>F (x.map (·.2))
def MD(es:List MapEntry)(x:Option (Nat×Value))(k v:Value)(clock:Nat):List MapEntry:=
 match x with
 |some (i,_)=>es.modify i fun e=>{e with key:=k,val:=v}
 |none=>es++[{key:=k,val:=v,born:=clock}]
def Lb(x:Option (Nat×Value))(clock:Nat):Nat:=match x with|some _=>clock|none=>clock+1
def Gp(es:List MapEntry)(x:Option (Nat×Value))(k:Value):Bool:=
 match x with
 |some (i,_)=>Instr.sameBits 10000 (((es[i]?).map (·.key)).getD k) k
 |none=>true
@[go_sem] theorem VB(es:List MapEntry)(k:Value):Gp es none k=true:=(rfl)
def HS(es:List MapEntry)(x:Option (Nat×Value)):List MapEntry:=match x with|some (i,_)=>es.eraseIdx i|none=>es
def Ta(H:Hp)(s:Shape)(b:Nat)(k v:Value)(F:Hp→Prop)(_t:Tag F:=⟨⟩):Prop:=
 aF (H.mp b) fun es=>aF (ic s k es.1 0) fun x=>eB (Gp es.1 x k=true) (F (H.EW b (MD es.1 x k v es.2) (Lb x es.2)))
def Yq(H:Hp)(s:Shape)(b:Nat)(k:Value)(F:Hp→Prop)(_t:Tag F:=⟨⟩):Prop:=
 aF (H.mp b) fun es=>aF (ic s k es.1 0) fun x=>F (H.EW b (HS es.1 x) es.2)
def Yr(H:Hp)(z:List Value)(a:Option Addr)(n:Nat)(F:Hp→Prop)(_t:Tag F:=⟨⟩):Prop:=
 (n=0∧F H)∨(n≠0∧∃b o l,a=some ⟨b,o,none⟩∧KZ (H.own b) (H.Du b)=some l∧gU (cN z n)∧o+n*z.length≤l.length∧F (H.wr b (bk l o (cN z n))))
@[go_sem] theorem ZV(k:IntKind)(n:Int):C4 .int (.int k n)=true:=(rfl)
@[go_sem] theorem ZW(s:ByteArray):C4 .str (.string s)=true:=(rfl)
def eW(P:Program)(f:FuncId):Bool:=match P.funcs[f]? with|some fn=>fn.name != "runtime.NumGoroutine" && fn.body.isSome|none=>false
def TJ(P:Program)(H:Hp)(T:TypeId)(v:Value)(name:String)(f:FuncId)(rv:Value):Prop:=
 eW P f=true∧∀w,w.heap=H→(method (P.types.size+Made.depth) T v name).run P w= .ok (f,rv) w
def jm(P:Program)(recv:Value)(name:String)(args:List Value)(H:Hp)(K:Value→Hp→Prop)(_t:Tag K:=⟨⟩):Prop:=
 ∃T v f rv,recv= .iface T v∧TJ P H T v name f rv∧ai P f (rv::args) H K
def Ys(P:Program)(fv:Value)(args:List Value)(H:Hp)(K:Value→Hp→Prop)(_t:Tag K:=⟨⟩):Prop:=
 match fv with
 | .func (.func f) first captured=>eW P f=true∧ai P f (first.toList++args++captured.toList) H K
 |_=>False
def Vq(P:Program)(f:FuncId)(vs:List Value)(H:Hp)(K:Value→Hp→Prop)(_t:Tag K:=⟨⟩):Prop:=∃v,(∀w,(callFunc f vs.toArray).run P w= .ok (.value v) w)∧K v H
theorem Vq.mk{P:Program}{f:FuncId}{vs:List Value}{H:Hp}{K:Value→Hp→Prop}{v:Value}(h:∀w,(callFunc f vs.toArray).run P w= .ok (.value v) w)(k:K v H):Vq P f vs H K:=⟨v,h,k⟩
def rowOf(H:Hp)(size:Nat)(v:Value)(F:Nat→List Value→Prop)(_t:Tag F:=⟨⟩):Prop:=
 match v with
 | .slice a n _=>HQ (n==0) (F 0 []) (xT a fun b o=>aF (H.rd b) fun l=>eB (o+n*size≤l.length) (F n ((l.drop o).take (n*size))))
 | .string s=>eB (size=1) (F s.size (s.data.toList.map fun b=>.int .u8 b.toNat))
 |_=>False
def im(T size bytes:Nat)(z:List Value)(s x:Value)(H:Hp)(K:Value→Hp→Prop)(_t:Tag K:=⟨⟩):Prop:=
 sK s fun base n c=>rowOf H size x fun m new=>
  (n+m≤c→m=0→K (.slice base n c) H)∧
  (n+m≤c→m≠0→xT base fun b o=>aF (KZ (H.own b) (H.Du b)) fun l=>eB (o+(n+m)*size≤l.length∧gU new) (K (.slice base (n+m) c) (H.wr b (bk l (o+n*size) new))))∧
  (c<n+m→Builtin.nextslicecap (n+m) c*bytes≤2^48∧
   rowOf H size s fun _ Tm=>∀c',n+m≤c'→K (.slice (some ⟨H.size,0,none⟩) (n+m) c') (H.new T (Tm++new++cN z (c' - (n+m)))))
def TK(T:TypeId)(s:ByteArray)(H:Hp)(K:Value→Hp→Prop)(_t:Tag K:=⟨⟩):Prop:=
 ∀c,s.size≤c→K (.slice (some ⟨H.size,0,none⟩) s.size c) (H.OO T ((s.data.toList.map fun b=>.int .u8 b.toNat)++List.replicate (c - s.size) (.int .u8 0)))
def yw(T:TypeId)(v:Value)(F:Value→Prop)(_t:Tag F:=⟨⟩):Prop:=match v with| .iface t u=>eB (t=T) (F u)|_=>False
@[go_sem] theorem Yt(T t:TypeId)(u:Value)(F:Value→Prop):yw T (.iface t u) F=eB (t=T) (F u):=(rfl)
def OT(v:Value)(F:Bool→Prop)(_t:Tag F:=⟨⟩):Prop:=match v with| .nilIface=>F true| .iface _ _=>F false|_=>False
@[go_sem] theorem acr(F:Bool→Prop):OT .nilIface F=F true:=(rfl)
@[go_sem] theorem aes(t:TypeId)(u:Value)(F:Bool→Prop):OT (.iface t u) F=F false:=(rfl)
theorem J3{v:Value}{F:Bool→Prop}(h:OT v F):(v= .nilIface∧F true)∨∃t u,v= .iface t u∧F false:=by
 unfold OT at h;split at h
 ·exact .inl ⟨rfl,h⟩
 ·exact .inr ⟨_,_,rfl,h⟩
 ·exact h.elim
def OU(neg b:Bool):Bool:=bif neg then !b else b
@[go_sem] theorem aet:OU false false=false:=(rfl)
@[go_sem] theorem aeu:OU false true=true:=(rfl)
@[go_sem] theorem aev:OU true false=true:=(rfl)
@[go_sem] theorem aew:OU true true=false:=(rfl)
theorem Dj{T:TypeId}{v:Value}{F:Value→Prop}(h:yw T v F):∃u,v= .iface T u∧F u:=by
 unfold yw at h;split at h
 ·obtain⟨rfl,h⟩:=h;exact⟨_,rfl,h⟩
 ·exact h.elim
def bytesOf:List Value→Option (List UInt8)
 | []=>some []
 | .int .u8 n::r=>(bytesOf r).map (UInt8.ofNat n.toNat:: ·)
 |_::_=>none
@[go_sem] theorem Wv:bytesOf []=some []:=(rfl)
@[go_sem] theorem VC(n:Int)(r:List Value):bytesOf (.int .u8 n::r)=(bytesOf r).map (UInt8.ofNat n.toNat:: ·):=(rfl)
def xX(H:Hp)(v:Value)(F:List UInt8→Prop)(_t:Tag F:=⟨⟩):Prop:=
 match v with
 | .slice a n c=>rowOf H 1 (.slice a n c) fun _ l=>aF (bytesOf l) F
 |_=>False
@[go_sem] theorem ZX(H:Hp)(a:Option Addr)(n c:Nat)(F:List UInt8→Prop):xX H (.slice a n c) F=rowOf H 1 (.slice a n c) fun _ l=>aF (bytesOf l) F:=(rfl)
inductive df where
 |dk(x:Operand)
 |pick(c a b:Operand)
 |box(T:TypeId)(x:Operand)
 |zero(T:TypeId)(l:List Value)
 |build(z:List Value)(parts:List (Nat×Nat×Operand))
 |lit(T:TypeId)(n:Nat)(z:List Value)(parts:List (Nat×Nat×Operand))
 |eK(x:Operand)
 |zQ(n:Nat)(x:Operand)
 |store(n:Nat)(x v:Operand)
 |nilCheck(x:Operand)
 |aD(op:BinOp)(s:Shape)(x y:Operand)
 |un(op:UnOp)(x:Operand)
 |conv(k:IntKind)(x:Operand)
 |iface(T:TypeId)(x:Operand)
 |func(fn:Fn)(first captured:List Operand)
 |AC
 |makeSlice(T bytes size:Nat)(z:List Value)(n c:Operand)
 |slice(size:Nat)(x:Operand)(lo hi mx:Option Operand)
 |Lc(x:Operand)(lo hi:Option Operand)
 |fieldAddr(off:Nat)(x:Operand)
 |field(off:Nat)(agg:Option Nat)(x:Operand)
 |indexAddr(size:Nat)(x i:Operand)
 |gO(len size:Nat)(x i:Operand)
 |Ld(x i:Operand)
 |lookup(s:Shape)(z:Value)(ok:Bool)(m k:Operand)
 |update(s:Shape)(m k v:Operand)
 |extract(i:Nat)(x:Operand)
 |call(f:FuncId)(args:List Operand)
 |dyn(f:Operand)(args:List Operand)
 |invoke(r:Operand)(name:String)(args:List Operand)
 |bu(x:Operand)
 |VD(x:Operand)
 |VE(x:Operand)
 |append(T size bytes:Nat)(z:List Value)(x y:Operand)
 |delete(s:Shape)(m k:Operand)
 |Ks(z:List Value)(x:Operand)
 |VF(args:List Operand)
 |Qc(args:List Operand)
 |GJ(T:TypeId)(x:Operand)
 |VG(neg:Bool)(x:Operand)
 |PT(x:Operand)
 |Le(T:TypeId)(x:Operand)
 |ext(f:FuncId)(args:List Operand)
 deriving Inhabited
def gw(P:Program)(t:TypeId):Option Value:=(P.info? t).bind (·.zero)
def fD:Nat:=8
def nq(place:Nat→Option (Nat×Nat))(Lf:Nat):List (Nat×Operand)→Option (List (Nat×Nat×Operand))
 | []=>some []
 | (i,x)::r=>
  match place i with
  |none=>none
  |some (off,size)=>if off+size≤Lf then(nq place Lf r).map ((off,size,x):: ·)else none
def MQ(P:Program)(fs:Array Field):Bool:=fs.all fun f=>(P.info? f.type).isSome
def placeOf(P:Program)(fs:Array Field):Array (Nat×Nat):=fs.map fun f=>(f.offset,P.cellsOf f.type)
def parts(P:Program)(t:TypeId)(Lf:Nat)(ps:List (Nat×Operand)):Option (List (Nat×Nat×Operand)):=
 match P.underlying t with
 |some (.struct fields)=>if MQ P fields then nq ((placeOf P fields)[·]?) Lf ps else none
 |some (.array _ e)=>if(P.info? e).isSome then nq (fun i=>some (i*P.cellsOf e,P.cellsOf e)) Lf ps else none
 |_=>none
end Go.Vc
