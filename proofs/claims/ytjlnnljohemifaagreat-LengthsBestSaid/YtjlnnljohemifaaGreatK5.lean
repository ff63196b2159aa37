/- Texts put behind each other. -/
import Derived.Test.YtjlnnljohemifaaGreatK98
import Derived.Test.YtjlnnljohemifaaGreatK4
import Derived.Laws.StructEq
set_option linter.unusedVariables false
namespace Go.Vc
attribute [go_sem] ams anj amz amY anq amP List.drop_zero List.drop_succ_cons
  List.take_zero List.take_succ_cons Bool.not_true Bool.not_false aom al6
abbrev Ev:=Operand→Option Value
inductive Shape where
 |int|str|bool|ptr|Wa|mp|fn|Y8
 |s(fs:List (Nat×Option Nat×Shape))
 deriving Inhabited
def bB:Shape→Value→Value→Option Bool
 | .int,.int k a,.int k' b=>if k=k' then some (decide (a=b))else none
 | .str,.string a,.string b=>some (a.toList==b.toList)
 | .bool,.bool a,.bool b=>some (a==b)
 | .ptr,.pointer none,.pointer b=>some b.isNone
 | .ptr,.pointer (some _),.pointer none=>some false
 | .Wa,.slice none _ _,.slice b _ _=>some b.isNone
 | .Wa,.slice (some _) _ _,.slice none _ _=>some false
 | .mp,.map none,.map b=>some b.isNone
 | .mp,.map (some _),.map none=>some false
 | .fn,.nilFunc,.nilFunc=>some true
 | .fn,.func ..,.nilFunc=>some false
 | .fn,.nilFunc,.func .. =>some false
 | .Y8,.nilIface,.iface .. =>some false
 | .Y8,.iface ..,.nilIface=>some false
 |_,_,_=>none
def xw(l:List Value)(off:Nat)(agg:Option Nat):Option Value:=
 match agg with
 |some n=>if off+n≤l.length then some (.agg ((l.drop off).take n).toArray)else none
 |none=>l[off]?
@[go_sem] theorem Hk(l:List Value)(off:Nat):xw l off none=l[off]? :=(rfl)
@[go_sem] theorem XK(l:List Value)(off n:Nat):xw l off (some n)=if off+n≤l.length then some (.agg ((l.drop off).take n).toArray)else none:=(rfl)
mutual
def tq:Shape→Value→Value→Option Bool
 | .s fs,.agg xs,.agg ys=>Cx fs xs.toList ys.toList
 |sh,x,y=>bB sh x y
def Cx:List (Nat×Option Nat×Shape)→List Value→List Value→Option Bool
 | [],_,_=>some true
 | (off,agg,sh)::fs,xs,ys=>
  match xw xs off agg with
  |none=>none
  |some x=>
   match xw ys off agg with
   |none=>none
   |some y=>
    match tq sh x y with
    |some true=>Cx fs xs ys
    |some false=>some false
    |none=>none
end
def fD(P:Program)(t:TypeId):Bool:=match P.underlying t with|some (.struct _)|some (.array _ _)=>true|_=>false
def Bm(P:Program)(sh:TypeId→Option Shape):List Field→Option (List (Nat×Option Nat×Shape))
 | []=>some []
 |f::fs=>
  if f.name= "_" then none else
  match sh f.type with
  |none=>none
  |some s=>(Bm P sh fs).map ((f.offset,(if fD P f.type then some (P.cellsOf f.type)else none),s):: ·)
def shapeOf(P:Program):Nat→TypeId→Option Shape
 |0,_=>none
 |d+1,t=>
  match P.underlying t with
  |some (.int _)=>some .int
  |some .string=>some .str
  |some .bool=>some .bool
  |some (.pointer _)=>some .ptr
  |some (.slice _)=>some .Wa
  |some (.map _ _)=>some .mp
  |some (.func _ _ _)=>some .fn
  |some (.interface _)=>some .Y8
  |some (.struct fs)=>if P.stoodInHeld t then none else(Bm P (shapeOf P d) fs.toList).map .s
  |_=>none
def fK(P:Program)(d:Nat)(fs:List Field):Option (List (Nat×Option Nat×Shape)):=Bm P (shapeOf P d) fs
theorem C4(P:Program)(d:Nat):fK P d []=some []:=rfl
theorem sE(P:Program)(d:Nat)(f:Field)(fs:List Field):fK P d (f::fs)=
  if f.name= "_" then none else
  match shapeOf P d f.type with
  |none=>none
  |some s=>(fK P d fs).map ((f.offset,(if fD P f.type then some (P.cellsOf f.type)else none),s):: ·):=rfl
theorem is(P:Program)(d:Nat)(t:TypeId):shapeOf P (d+1) t=
  match P.underlying t with
  |some (.int _)=>some .int
  |some .string=>some .str
  |some .bool=>some .bool
  |some (.pointer _)=>some .ptr
  |some (.slice _)=>some .Wa
  |some (.map _ _)=>some .mp
  |some (.func _ _ _)=>some .fn
  |some (.interface _)=>some .Y8
  |some (.struct fs)=>if P.stoodInHeld t then none else(fK P d fs.toList).map .s
  |_=>none:=rfl
def cz(op:BinOp)(s:Shape):Value→Value→Option Value
 | .int k a,.int k' b=>
  match op with
  | .shl=>if b<0 then none else some (.int k (k.wrap (a*2^ (min b.toNat k.bits))))
  | .shr=>if b<0 then none else some (.int k (a.fdiv (2^ (min b.toNat k.bits))))
  |_=>
   if k≠k' then none else
   match op with
   | .add=>some (.int k (k.wrap (a+b)))
   | .sub=>some (.int k (k.wrap (a - b)))
   | .mul=>some (.int k (k.wrap (a*b)))
   | .quo=>if b=0 then none else some (.int k (k.wrap (a.tdiv b)))
   | .rem=>if b=0 then none else some (.int k (a.tmod b))
   | .and=>some (.int k (k.wrap (BitVec.ofInt k.bits a &&& BitVec.ofInt k.bits b).toNat))
   | .or=>some (.int k (k.wrap (BitVec.ofInt k.bits a |||BitVec.ofInt k.bits b).toNat))
   | .xor=>some (.int k (k.wrap (BitVec.ofInt k.bits a^^^BitVec.ofInt k.bits b).toNat))
   | .andNot=>some (.int k (k.wrap (BitVec.ofInt k.bits a &&& ~~~ BitVec.ofInt k.bits b).toNat))
   | .eql=>some (.bool (decide (a=b)))
   | .neq=>some (.bool (!decide (a=b)))
   | .lss=>some (.bool (decide (a<b)))
   | .leq=>some (.bool (decide (a≤b)))
   | .gtr=>some (.bool (decide (a>b)))
   | .geq=>some (.bool (decide (a≥b)))
   |_=>none
 | .string x,.string y=>
  match op with
  | .add=>if((x.size+y.size:Nat):Int)>IntKind.i64.max then none else some (.string (x++y))
  | .eql=>some (.bool (x.toList==y.toList))
  | .neq=>some (.bool (!(x.toList==y.toList)))
  | .lss=>some (.bool (Op.bytesLess x.toList y.toList))
  | .leq=>some (.bool (Op.bytesLess x.toList y.toList || x.toList==y.toList))
  | .gtr=>some (.bool (!(Op.bytesLess x.toList y.toList || x.toList==y.toList)))
  | .geq=>some (.bool (!Op.bytesLess x.toList y.toList))
  |_=>none
 |x,y=>
  match op with
  | .eql=>(tq s x y).map .bool
  | .neq=>(tq s x y).map fun b=>.bool (!b)
  |_=>none
section
variable (s : Shape) (k : IntKind) (a b : Int)
@[go_sem] theorem abr:cz .add s (.int k a) (.int k b)=some (.int k (k.wrap (a+b))):=by simp[cz]
@[go_sem] theorem abt:cz .sub s (.int k a) (.int k b)=some (.int k (k.wrap (a - b))):=by simp[cz]
@[go_sem] theorem abu:cz .mul s (.int k a) (.int k b)=some (.int k (k.wrap (a*b))):=by simp[cz]
@[go_sem] theorem abv:cz .quo s (.int k a) (.int k b)=if b=0 then none else some (.int k (k.wrap (a.tdiv b))):=by simp[cz]
@[go_sem] theorem abw:cz .rem s (.int k a) (.int k b)=if b=0 then none else some (.int k (a.tmod b)):=by simp[cz]
@[go_sem] theorem abx:cz .eql s (.int k a) (.int k b)=some (.bool (decide (a=b))):=by simp[cz]
@[go_sem] theorem aby:cz .neq s (.int k a) (.int k b)=some (.bool (!decide (a=b))):=by simp[cz]
@[go_sem] theorem abz:cz .lss s (.int k a) (.int k b)=some (.bool (decide (a<b))):=by simp[cz]
@[go_sem] theorem abA:cz .leq s (.int k a) (.int k b)=some (.bool (decide (a≤b))):=by simp[cz]
@[go_sem] theorem abB:cz .gtr s (.int k a) (.int k b)=some (.bool (decide (a>b))):=by simp[cz]
@[go_sem] theorem abC:cz .geq s (.int k a) (.int k b)=some (.bool (decide (a≥b))):=by simp[cz]
@[go_sem] theorem abD:cz .and s (.int k a) (.int k b)=some (.int k (k.wrap (BitVec.ofInt k.bits a &&& BitVec.ofInt k.bits b).toNat)):=by simp[cz]
@[go_sem] theorem adC:cz .or s (.int k a) (.int k b)=some (.int k (k.wrap (BitVec.ofInt k.bits a |||BitVec.ofInt k.bits b).toNat)):=by simp[cz]
@[go_sem] theorem abE:cz .xor s (.int k a) (.int k b)=some (.int k (k.wrap (BitVec.ofInt k.bits a^^^BitVec.ofInt k.bits b).toNat)):=by simp[cz]
@[go_sem] theorem abF(k':IntKind):cz .shl s (.int k a) (.int k' b)=if b<0 then none else some (.int k (k.wrap (a*2^ (min b.toNat k.bits)))):=by simp[cz]
@[go_sem] theorem abG(k':IntKind):cz .shr s (.int k a) (.int k' b)=if b<0 then none else some (.int k (a.fdiv (2^ (min b.toNat k.bits)))):=by simp[cz]
variable (x y : ByteArray)
@[go_sem] theorem abH:cz .add s (.string x) (.string y)=if((x.size+y.size:Nat):Int)>IntKind.i64.max then none else some (.string (x++y)):=by simp[cz]
@[go_sem] theorem Y9:cz .eql s (.string x) (.string y)=some (.bool (x.toList==y.toList)):=by simp[cz]
@[go_sem] theorem Za:cz .neq s (.string x) (.string y)=some (.bool (!(x.toList==y.toList))):=by simp[cz]
@[go_sem] theorem Zb(u v:Bool):cz .eql .bool (.bool u) (.bool v)=some (.bool (u==v)):=by simp[cz,tq,bB]
@[go_sem] theorem Zc(u v:Bool):cz .neq .bool (.bool u) (.bool v)=some (.bool (!(u==v))):=by simp[cz,tq,bB]
@[go_sem] theorem Zd(u:Option Addr):cz .eql .ptr (.pointer u) (.pointer none)=some (.bool u.isNone):=by cases u<;>simp[cz,tq,bB]
@[go_sem] theorem Ze(u:Option Addr):cz .neq .ptr (.pointer u) (.pointer none)=some (.bool (!u.isNone)):=by cases u<;>simp[cz,tq,bB]
@[go_sem] theorem XL(u:Option Addr)(n c:Nat):cz .eql .Wa (.slice u n c) (.slice none 0 0)=some (.bool u.isNone):=by cases u<;>simp[cz,tq,bB]
@[go_sem] theorem XM(u:Option Addr)(n c:Nat):cz .neq .Wa (.slice u n c) (.slice none 0 0)=some (.bool (!u.isNone)):=by cases u<;>simp[cz,tq,bB]
@[go_sem] theorem Zf(t:TypeId)(v:Value):cz .eql .Y8 (.iface t v) .nilIface=some (.bool false):=by simp[cz,tq,bB]
@[go_sem] theorem Zg(t:TypeId)(v:Value):cz .neq .Y8 (.iface t v) .nilIface=some (.bool true):=by simp[cz,tq,bB]
@[go_sem] theorem UN(fs:List (Nat×Option Nat×Shape))(l l':List Value):cz .eql (.s fs) (.agg l.toArray) (.agg l'.toArray)=(Cx fs l l').map .bool:=by simp[cz,tq]
@[go_sem] theorem UO(fs:List (Nat×Option Nat×Shape))(l l':List Value):cz .neq (.s fs) (.agg l.toArray) (.agg l'.toArray)=(Cx fs l l').map fun b=>.bool (!b):=by simp[cz,tq]
end
@[go_sem] theorem abI(b:Bool)(F:Bool→Prop):ak (!b) F=ak b fun t=>F (!t):=by cases b<;>rfl
def unF:UnOp→Value→Option Value
 | .neg,.int k n=>some (.int k (k.wrap (0 - n)))
 | .xor,.int k n=>some (.int k (k.wrap (BitVec.ofInt k.bits (if k.signed then -1 else k.max)^^^BitVec.ofInt k.bits n).toNat))
 | .not,.bool b=>some (.bool (!b))
 |_,_=>none
@[go_sem] theorem adD(b:Bool):unF .not (.bool b)=some (.bool (!b)):=(rfl)
@[go_sem] theorem adE(k:IntKind)(n:Int):unF .neg (.int k n)=some (.int k (k.wrap (0 - n))):=(rfl)
@[go_sem] theorem adF(k:IntKind)(n:Int):unF .xor (.int k n)=some (.int k (k.wrap (BitVec.ofInt k.bits (if k.signed then -1 else k.max)^^^BitVec.ofInt k.bits n).toNat)):=(rfl)
def zB(v:Value)(F:Nat→Nat→Prop)(_t:Tag F:=⟨⟩):Prop:=match v with| .pointer (some ⟨b,o,none⟩)=>F b o|_=>False
@[go_sem] theorem adG(b o:Nat)(F:Nat→Nat→Prop):zB (.pointer (some ⟨b,o,none⟩)) F=F b o:=(rfl)
theorem fN{v:Value}{F:Nat→Nat→Prop}(h:zB v F):∃b o,v= .pointer (some ⟨b,o,none⟩)∧F b o:=by
 unfold zB at h;split at h
 ·exact⟨_,_,rfl,h⟩
 ·exact h.elim
def EA(v:Value)(F:Int→Prop)(_t:Tag F:=⟨⟩):Prop:=match v with| .int _ n=>F n|_=>False
@[go_sem] theorem adH(k:IntKind)(n:Int)(F:Int→Prop):EA (.int k n) F=F n:=(rfl)
theorem kL{v:Value}{F:Int→Prop}(h:EA v F):∃k n,v= .int k n∧F n:=by
 unfold EA at h;split at h
 ·exact⟨_,_,rfl,h⟩
 ·exact h.elim
def sF(v:Value)(F:Option Addr→Nat→Nat→Prop)(_t:Tag F:=⟨⟩):Prop:=match v with| .slice a n c=>F a n c|_=>False
@[go_sem] theorem Zh(a:Option Addr)(n c:Nat)(F:Option Addr→Nat→Nat→Prop):sF (.slice a n c) F=F a n c:=(rfl)
theorem kM{v:Value}{F:Option Addr→Nat→Nat→Prop}(h:sF v F):∃a n c,v= .slice a n c∧F a n c:=by
 unfold sF at h;split at h
 ·exact⟨_,_,_,rfl,h⟩
 ·exact h.elim
def xI(a:Option Addr)(F:Nat→Nat→Prop)(_t:Tag F:=⟨⟩):Prop:=match a with|some ⟨b,o,none⟩=>F b o|_=>False
@[go_sem] theorem abK(b o:Nat)(F:Nat→Nat→Prop):xI (some ⟨b,o,none⟩) F=F b o:=(rfl)
theorem qQ{a:Option Addr}{F:Nat→Nat→Prop}(h:xI a F):∃b o,a=some ⟨b,o,none⟩∧F b o:=by
 unfold xI at h;split at h
 ·exact⟨_,_,rfl,h⟩
 ·exact h.elim
def mh(v:Value)(F:ByteArray→Prop)(_t:Tag F:=⟨⟩):Prop:=match v with| .string s=>F s|_=>False
@[go_sem] theorem XN(s:ByteArray)(F:ByteArray→Prop):mh (.string s) F=F s:=(rfl)
theorem pR{v:Value}{F:ByteArray→Prop}(h:mh v F):∃s,v= .string s∧F s:=by
 unfold mh at h;split at h
 ·exact⟨_,rfl,h⟩
 ·exact h.elim
def QG(v:Value)(F:List Value→Prop)(_t:Tag F:=⟨⟩):Prop:=match v with| .tuple vs=>F vs.toList|_=>False
@[go_sem] theorem adI(l:List Value)(F:List Value→Prop):QG (.tuple l.toArray) F=F l:=(rfl)
theorem JI{v:Value}{F:List Value→Prop}(h:QG v F):∃vs,v= .tuple vs∧F vs.toList:=by
 unfold QG at h;split at h
 ·exact⟨_,rfl,h⟩
 ·exact h.elim
def QH(v:Value)(F:List Value→Prop)(_t:Tag F:=⟨⟩):Prop:=match v with| .agg vs=>F vs.toList|_=>False
@[go_sem] theorem adJ(l:List Value)(F:List Value→Prop):QH (.agg l.toArray) F=F l:=(rfl)
theorem JJ{v:Value}{F:List Value→Prop}(h:QH v F):∃vs,v= .agg vs∧F vs.toList:=by
 unfold QH at h;split at h
 ·exact⟨_,rfl,h⟩
 ·exact h.elim
def EB(v:Value)(F:Option Nat→Prop)(_t:Tag F:=⟨⟩):Prop:=match v with| .map r=>F r|_=>False
@[go_sem] theorem adK(r:Option Nat)(F:Option Nat→Prop):EB (.map r) F=F r:=(rfl)
theorem nj{v:Value}{F:Option Nat→Prop}(h:EB v F):∃r,v= .map r∧F r:=by
 unfold EB at h;split at h
 ·exact⟨_,rfl,h⟩
 ·exact h.elim
def Od(ev:Ev):List Operand→(List Value→Prop)→Prop
 | [],F=>F []
 |x::xs,F=>aE (ev x) fun v=>Od ev xs fun vs=>F (v::vs)
@[go_sem ↓] theorem adL(ev:Ev)(F:List Value→Prop):Od ev [] F=F []:=(rfl)
@[go_sem ↓] theorem abL(ev:Ev)(x:Operand)(xs:List Operand)(F:List Value→Prop):Od ev (x::xs) F=aE (ev x) fun v=>Od ev xs fun vs=>F (v::vs):=(rfl)
theorem n7{ev:Ev}{ρ:Operand→Value}(bI:∀x v,ev x=some v→ρ x=v):∀ {xs:List Operand} {F:List Value→Prop},Od ev xs F→F (xs.map ρ):=by
 intro xs
 induction xs with
 |nil=>intro F h;exact h
 |cons x xs ih=>
  intro F h
  obtain⟨v,hv,h⟩:=aD h
  have:=ih h
  rw[amL,bI x v hv]
  exact this
def C5(ev:Ev):List Value→List (Nat×Nat×Operand)→(List Value→Prop)→Prop
 |z,[],K=>K z
 |z,(off,size,x)::r,K=>aE (ev x) fun v=>eB ((aJ v).length=size) (C5 ev (bq z off (aJ v)) r K)
@[go_sem ↓] theorem Zi(ev:Ev)(z:List Value)(K:List Value→Prop):C5 ev z [] K=K z:=(rfl)
@[go_sem ↓] theorem XO(ev:Ev)(z:List Value)(off size:Nat)(x:Operand)(r:List (Nat×Nat×Operand))(K:List Value→Prop):
  C5 ev z ((off,size,x)::r) K=aE (ev x) fun v=>eB ((aJ v).length=size) (C5 ev (bq z off (aJ v)) r K):=(rfl)
def cR(z:List Value)(k:Nat):List Value:=(List.replicate k z).flatten
def ij(s:Shape)(k:Value):List MapEntry→Nat→Option (Option (Nat×Value))
 | [],_=>some none
 |e::es,i=>
  match tq s k e.key with
  |some true=>some (some (i,e.val))
  |some false=>ij s k es (i+1)
  |none=>none
def nu:Shape→Bool| .int| .str| .bool=>true|_=>false
def CM:Shape→Value→Bool
 | .int,.int _ _=>true
 | .str,.string _=>true
 | .bool,.bool _=>true
 | .s fs,.agg xs=>fs.all fun(off,agg,sh)=>agg.isNone && nu sh && (match sh,xs[off]? with| .int,some (.int _ _)=>true| .str,some (.string _)=>true| .bool,some (.bool _)=>true|_,_=>false)
 |_,_=>false
def zM(H:Hp)(s:Shape)(r:Option Nat)(k:Value)(F:Option Value→Prop)(_t:Tag F:=⟨⟩):Prop:=
 match r with
 |none=>F none
 |some b=>aE (H.mp b) fun m=>aE (ij s k m.1 0) fun x=>F (x.map (·.2))
def Ma(es:List MapEntry)(x:Option (Nat×Value))(k v:Value)(clock:Nat):List MapEntry:=
 match x with
 |some (i,_)=>es.modify i fun e=>{e with key:=k,val:=v}
 |none=>es++[{key:=k,val:=v,born:=clock}]
def KJ(x:Option (Nat×Value))(clock:Nat):Nat:=match x with|some _=>clock|none=>clock+1
def Gb(es:List MapEntry)(x:Option (Nat×Value))(k:Value):Bool:=
 match x with
 |some (i,_)=>Instr.sameBits 10000 (((es[i]?).map (·.key)).getD k) k
 |none=>true
@[go_sem] theorem UP(es:List MapEntry)(k:Value):Gb es none k=true:=(rfl)
def Hx(es:List MapEntry)(x:Option (Nat×Value)):List MapEntry:=match x with|some (i,_)=>es.eraseIdx i|none=>es
def Sz(H:Hp)(s:Shape)(b:Nat)(k v:Value)(F:Hp→Prop)(_t:Tag F:=⟨⟩):Prop:=
 aE (H.mp b) fun es=>aE (ij s k es.1 0) fun x=>eB (Gb es.1 x k=true) (F (H.EH b (Ma es.1 x k v es.2) (KJ x es.2)))
def XP(H:Hp)(s:Shape)(b:Nat)(k:Value)(F:Hp→Prop)(_t:Tag F:=⟨⟩):Prop:=
 aE (H.mp b) fun es=>aE (ij s k es.1 0) fun x=>F (H.EH b (Hx es.1 x) es.2)
def XQ(H:Hp)(z:List Value)(a:Option Addr)(n:Nat)(F:Hp→Prop)(_t:Tag F:=⟨⟩):Prop:=
 (n=0∧F H)∨(n≠0∧∃b o l,a=some ⟨b,o,none⟩∧KA (H.own b) (H.Dg b)=some l∧j5 (cR z n)∧o+n*z.length≤l.length∧F (H.wr b (bq l o (cR z n))))
@[go_sem] theorem Zj(k:IntKind)(n:Int):CM .int (.int k n)=true:=(rfl)
@[go_sem] theorem Zk(s:ByteArray):CM .str (.string s)=true:=(rfl)
def eV(P:Program)(f:FuncId):Bool:=match P.funcs[f]? with|some fn=>fn.name != "runtime.NumGoroutine" && fn.body.isSome|none=>false
def Tf(P:Program)(H:Hp)(T:TypeId)(v:Value)(name:String)(f:FuncId)(rv:Value):Prop:=
 eV P f=true∧∀w,w.heap=H→(method (P.types.size+Made.depth) T v name).run P w= .ok (f,rv) w
def jj(P:Program)(recv:Value)(name:String)(args:List Value)(H:Hp)(K:Value→Hp→Prop)(_t:Tag K:=⟨⟩):Prop:=
 ∃T v f rv,recv= .iface T v∧Tf P H T v name f rv∧ah P f (rv::args) H K
def XR(P:Program)(fv:Value)(args:List Value)(H:Hp)(K:Value→Hp→Prop)(_t:Tag K:=⟨⟩):Prop:=
 match fv with
 | .func (.func f) first captured=>eV P f=true∧ah P f (first.toList++args++captured.toList) H K
 |_=>False
def UE(P:Program)(f:FuncId)(vs:List Value)(H:Hp)(K:Value→Hp→Prop)(_t:Tag K:=⟨⟩):Prop:=∃v,(∀w,(callFunc f vs.toArray).run P w= .ok (.value v) w)∧K v H
theorem UE.mk{P:Program}{f:FuncId}{vs:List Value}{H:Hp}{K:Value→Hp→Prop}{v:Value}(h:∀w,(callFunc f vs.toArray).run P w= .ok (.value v) w)(k:K v H):UE P f vs H K:=⟨v,h,k⟩
def rowOf(H:Hp)(size:Nat)(v:Value)(F:Nat→List Value→Prop)(_t:Tag F:=⟨⟩):Prop:=
 match v with
 | .slice a n _=>Hv (n==0) (F 0 []) (xI a fun b o=>aE (H.rd b) fun l=>eB (o+n*size≤l.length) (F n ((l.drop o).take (n*size))))
 | .string s=>eB (size=1) (F s.size (s.data.toList.map fun b=>.int .u8 b.toNat))
 |_=>False
def lR(T size bytes:Nat)(z:List Value)(s x:Value)(H:Hp)(K:Value→Hp→Prop)(_t:Tag K:=⟨⟩):Prop:=
 sF s fun base n c=>rowOf H size x fun m new=>
  (n+m≤c→m=0→K (.slice base n c) H)∧
  (n+m≤c→m≠0→xI base fun b o=>aE (KA (H.own b) (H.Dg b)) fun l=>eB (o+(n+m)*size≤l.length∧j5 new) (K (.slice base (n+m) c) (H.wr b (bq l (o+n*size) new))))∧
  (c<n+m→Builtin.nextslicecap (n+m) c*bytes≤2^48∧
   rowOf H size s fun _ SK=>∀c',n+m≤c'→K (.slice (some ⟨H.size,0,none⟩) (n+m) c') (H.new T (SK++new++cR z (c' - (n+m)))))
def Tg(T:TypeId)(s:ByteArray)(H:Hp)(K:Value→Hp→Prop)(_t:Tag K:=⟨⟩):Prop:=
 ∀c,s.size≤c→K (.slice (some ⟨H.size,0,none⟩) s.size c) (H.N9 T ((s.data.toList.map fun b=>.int .u8 b.toNat)++List.replicate (c - s.size) (.int .u8 0)))
def yd(T:TypeId)(v:Value)(F:Value→Prop)(_t:Tag F:=⟨⟩):Prop:=match v with| .iface t u=>eB (t=T) (F u)|_=>False
@[go_sem] theorem XS(T t:TypeId)(u:Value)(F:Value→Prop):yd T (.iface t u) F=eB (t=T) (F u):=(rfl)
def Oe(v:Value)(F:Bool→Prop)(_t:Tag F:=⟨⟩):Prop:=match v with| .nilIface=>F true| .iface _ _=>F false|_=>False
@[go_sem] theorem abM(F:Bool→Prop):Oe .nilIface F=F true:=(rfl)
@[go_sem] theorem adM(t:TypeId)(u:Value)(F:Bool→Prop):Oe (.iface t u) F=F false:=(rfl)
theorem JK{v:Value}{F:Bool→Prop}(h:Oe v F):(v= .nilIface∧F true)∨∃t u,v= .iface t u∧F false:=by
 unfold Oe at h;split at h
 ·exact .inl ⟨rfl,h⟩
 ·exact .inr ⟨_,_,rfl,h⟩
 ·exact h.elim
def Of(neg b:Bool):Bool:=bif neg then !b else b
@[go_sem] theorem adN:Of false false=false:=(rfl)
@[go_sem] theorem adO:Of false true=true:=(rfl)
@[go_sem] theorem adP:Of true false=true:=(rfl)
@[go_sem] theorem adQ:Of true true=false:=(rfl)
theorem C6{T:TypeId}{v:Value}{F:Value→Prop}(h:yd T v F):∃u,v= .iface T u∧F u:=by
 unfold yd at h;split at h
 ·obtain⟨rfl,h⟩:=h;exact⟨_,rfl,h⟩
 ·exact h.elim
def bytesOf:List Value→Option (List UInt8)
 | []=>some []
 | .int .u8 n::r=>(bytesOf r).map (UInt8.ofNat n.toNat:: ·)
 |_::_=>none
@[go_sem] theorem VN:bytesOf []=some []:=(rfl)
@[go_sem] theorem UQ(n:Int)(r:List Value):bytesOf (.int .u8 n::r)=(bytesOf r).map (UInt8.ofNat n.toNat:: ·):=(rfl)
def xM(H:Hp)(v:Value)(F:List UInt8→Prop)(_t:Tag F:=⟨⟩):Prop:=
 match v with
 | .slice a n c=>rowOf H 1 (.slice a n c) fun _ l=>aE (bytesOf l) F
 |_=>False
@[go_sem] theorem Zl(H:Hp)(a:Option Addr)(n c:Nat)(F:List UInt8→Prop):xM H (.slice a n c) F=rowOf H 1 (.slice a n c) fun _ l=>aE (bytesOf l) F:=(rfl)
inductive de where
 |dk(x:Operand)
 |pick(c a b:Operand)
 |box(T:TypeId)(x:Operand)
 |zero(T:TypeId)(l:List Value)
 |build(z:List Value)(parts:List (Nat×Nat×Operand))
 |lit(T:TypeId)(n:Nat)(z:List Value)(parts:List (Nat×Nat×Operand))
 |gF(x:Operand)
 |kY(n:Nat)(x:Operand)
 |store(n:Nat)(x v:Operand)
 |nilCheck(x:Operand)
 |aB(op:BinOp)(s:Shape)(x y:Operand)
 |un(op:UnOp)(x:Operand)
 |conv(k:IntKind)(x:Operand)
 |iface(T:TypeId)(x:Operand)
 |func(fn:Fn)(first captured:List Operand)
 |Ap
 |makeSlice(T bytes size:Nat)(z:List Value)(n c:Operand)
 |slice(size:Nat)(x:Operand)(lo hi mx:Option Operand)
 |KK(x:Operand)(lo hi:Option Operand)
 |fieldAddr(off:Nat)(x:Operand)
 |field(off:Nat)(agg:Option Nat)(x:Operand)
 |indexAddr(size:Nat)(x i:Operand)
 |gT(len size:Nat)(x i:Operand)
 |KL(x i:Operand)
 |lookup(s:Shape)(z:Value)(ok:Bool)(m k:Operand)
 |update(s:Shape)(m k v:Operand)
 |extract(i:Nat)(x:Operand)
 |call(f:FuncId)(args:List Operand)
 |dyn(f:Operand)(args:List Operand)
 |invoke(r:Operand)(name:String)(args:List Operand)
 |bz(x:Operand)
 |UR(x:Operand)
 |US(x:Operand)
 |append(T size bytes:Nat)(z:List Value)(x y:Operand)
 |delete(s:Shape)(m k:Operand)
 |J6(z:List Value)(x:Operand)
 |UT(args:List Operand)
 |Ip(args:List Operand)
 |Gv(T:TypeId)(x:Operand)
 |UU(neg:Bool)(x:Operand)
 |Pf(x:Operand)
 |KM(T:TypeId)(x:Operand)
 |ext(f:FuncId)(args:List Operand)
 deriving Inhabited
def gC(P:Program)(t:TypeId):Option Value:=(P.info? t).bind (·.zero)
def fE:Nat:=8
def nw(place:Nat→Option (Nat×Nat))(KN:Nat):List (Nat×Operand)→Option (List (Nat×Nat×Operand))
 | []=>some []
 | (i,x)::r=>
  match place i with
  |none=>none
  |some (off,size)=>if off+size≤KN then(nw place KN r).map ((off,size,x):: ·)else none
def Mn(P:Program)(fs:Array Field):Bool:=fs.all fun f=>(P.info? f.type).isSome
def placeOf(P:Program)(fs:Array Field):Array (Nat×Nat):=fs.map fun f=>(f.offset,P.cellsOf f.type)
def parts(P:Program)(t:TypeId)(KN:Nat)(ps:List (Nat×Operand)):Option (List (Nat×Nat×Operand)):=
 match P.underlying t with
 |some (.struct fields)=>if Mn P fields then nw ((placeOf P fields)[·]?) KN ps else none
 |some (.array _ e)=>if(P.info? e).isSome then nw (fun i=>some (i*P.cellsOf e,P.cellsOf e)) KN ps else none
 |_=>none
end Go.Vc
