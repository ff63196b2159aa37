/- Texts put behind each other. -/
import Derived.Test.YtjkkkibiegfecaaGreatDoorK5
import Derived.Laws.StructEq
set_option linter.unusedVariables false
set_option maxRecDepth 100000
set_option maxHeartbeats 8000000
namespace Go.Vc
section
variable{v:Value}
attribute [go_sem] ajX akB akp ak5 alk List.set_cons_succ List.drop_zero List.drop_succ_cons
  List.take_zero List.take_succ_cons akw akF Bool.true_and ajJ
abbrev Ev:=Operand->Option Value
inductive Shape where
 |int|str|bool|ptr|Vz|mp|fn|VA
 |s(fs:List (Nat×Option Nat×Shape))
 deriving Inhabited
def cV:Shape->Value->Value->Option Bool
 | .int,.int k a,.int h b=>if k=h then some (decide (a=b))else none
 | .str,.string a,.string b=>some (a.toList==b.toList)
 | .bool,.bool a,.bool b=>some (a==b)
 | .ptr,.pointer none,.pointer b=>some b.isNone
 | .ptr,.pointer (some _),.pointer none=>some false
 | .Vz,.slice none _ _,.slice b _ _=>some b.isNone
 | .Vz,.slice (some _) _ _,.slice none _ _=>some false
 | .mp,.map none,.map b=>some b.isNone
 | .mp,.map (some _),.map none=>some false
 | .fn,.nilFunc,.nilFunc=>some true
 | .fn,.func ..,.nilFunc=>some false
 | .fn,.nilFunc,.func .. =>some false
 | .VA,.nilIface,.iface .. =>some false
 | .VA,.iface ..,.nilIface=>some false
 |_,_,_=>none
def lV(l:List Value)(off:Nat)(agg:Option Nat):Option Value:=
 match agg with
 |some n=>if off+n<=l.length then some (.agg ((l.drop off).take n).toArray)else none
 |none=>l[off]?
@[go_sem] theorem Ue(l:List Value)(off:Nat):lV l off none=l[off]? :=(rfl)
@[go_sem] theorem Uf(l:List Value)(off n:Nat):lV l off (some n)=if off+n<=l.length then some (.agg ((l.drop off).take n).toArray)else none:=(rfl)
mutual
def xf:Shape->Value->Value->Option Bool
 | .s h,.agg xs,.agg z=>ri h xs.toList z.toList
 |sh,x,y=>cV sh x y
def ri:List (Nat×Option Nat×Shape)->List Value->List Value->Option Bool
 | [],_,_=>some true
 | (off,agg,w)::z,xs,h=>
  match lV xs off agg with
  |none=>none
  |some x=>
   match lV h off agg with
   |none=>none
   |some y=>
    match xf w x y with
    |some true=>ri z xs h
    |some false=>some false
    |none=>none
end
def ez(P:Program)(t:TypeId):Bool:=match P.underlying t with|some (.struct _)|some (.array _ _)=>true|_=>false
def xa(P:Program)(h:TypeId->Option Shape):List Field->Option (List (Nat×Option Nat×Shape))
 | []=>some []
 |f::z=>
  if f.name= "_" then none else
  match h f.type with
  |none=>none
  |some s=>(xa P h z).map ((f.offset,(if ez P f.type then some (P.cellsOf f.type)else none),s):: ·)
def shapeOf(P:Program):Nat->TypeId->Option Shape
 |0,_=>none
 |d+1,t=>
  match P.underlying t with
  |some (.int _)=>some .int
  |some .string=>some .str
  |some .bool=>some .bool
  |some (.pointer _)=>some .ptr
  |some (.slice _)=>some .Vz
  |some (.map _ _)=>some .mp
  |some (.func _ _ _)=>some .fn
  |some (.interface _)=>some .VA
  |some (.struct h)=>if P.stoodInHeld t then none else(xa P (shapeOf P d) h.toList).map .s
  |_=>none
def fC(P:Program)(d:Nat)(h:List Field):Option (List (Nat×Option Nat×Shape)):=xa P (shapeOf P d) h
theorem y8(P:Program)(d:Nat):fC P d []=some []:=rfl
theorem nK(P:Program)(d:Nat)(f:Field)(h:List Field):fC P d (f::h)=
  if f.name= "_" then none else
  match shapeOf P d f.type with
  |none=>none
  |some s=>(fC P d h).map ((f.offset,(if ez P f.type then some (P.cellsOf f.type)else none),s):: ·):=rfl
theorem gu(P:Program)(d:Nat)(t:TypeId):shapeOf P (d+1) t=
  match P.underlying t with
  |some (.int _)=>some .int
  |some .string=>some .str
  |some .bool=>some .bool
  |some (.pointer _)=>some .ptr
  |some (.slice _)=>some .Vz
  |some (.map _ _)=>some .mp
  |some (.func _ _ _)=>some .fn
  |some (.interface _)=>some .VA
  |some (.struct h)=>if P.stoodInHeld t then none else(fC P d h.toList).map .s
  |_=>none:=rfl
def dQ(op:BinOp)(s:Shape):Value->Value->Option Value
 | .int k a,.int h b=>
  match op with
  | .shl=>if b<0 then none else some (.int k (k.wrap (a*2^ (min b.toNat k.bits))))
  | .shr=>if b<0 then none else some (.int k (a.fdiv (2^ (min b.toNat k.bits))))
  |_=>
   if k≠h then none else
   match op with
   | .add=>some (.int k (k.wrap (a+b)))
   | .sub=>some (.int k (k.wrap (a - b)))
   | .mul=>some (.int k (k.wrap (a*b)))
   | .quo=>if b=0 then none else some (.int k (k.wrap (a.tdiv b)))
   | .rem=>if b=0 then none else some (.int k (a.tmod b))
   | .and=>some (.int k (k.wrap (BitVec.ofInt k.bits a &&& BitVec.ofInt k.bits b).toNat))
   | .or=>some (.int k (k.wrap (BitVec.ofInt k.bits a |||BitVec.ofInt k.bits b).toNat))
   | .xor=>some (.int k (k.wrap (BitVec.ofInt k.bits a^^^BitVec.ofInt k.bits b).toNat))
   | .andNot=>some (.int k (k.wrap (BitVec.ofInt k.bits a &&& ~~~ BitVec.ofInt k.bits b).toNat))
   | .eql=>some (.bool (decide (a=b)))
   | .neq=>some (.bool (!decide (a=b)))
   | .lss=>some (.bool (decide (a<b)))
   | .leq=>some (.bool (decide (a<=b)))
   | .gtr=>some (.bool (decide (a>b)))
   | .geq=>some (.bool (decide (a>=b)))
   |_=>none
 | .string x,.string y=>
  match op with
  | .add=>if((x.size+y.size:Nat):Int)>IntKind.i64.max then none else some (.string (x++y))
  | .eql=>some (.bool (x.toList==y.toList))
  | .neq=>some (.bool (!(x.toList==y.toList)))
  | .lss=>some (.bool (Op.bytesLess x.toList y.toList))
  | .leq=>some (.bool (Op.bytesLess x.toList y.toList || x.toList==y.toList))
  | .gtr=>some (.bool (!(Op.bytesLess x.toList y.toList || x.toList==y.toList)))
  | .geq=>some (.bool (!Op.bytesLess x.toList y.toList))
  |_=>none
 |x,y=>
  match op with
  | .eql=>(xf s x y).map .bool
  | .neq=>(xf s x y).map fun b=>.bool (!b)
  |_=>none
section
variable (s : Shape) (k : IntKind) (a b : Int)
@[go_sem] theorem X2:dQ .add s (.int k a) (.int k b)=some (.int k (k.wrap (a+b))):=by simp[dQ]
@[go_sem] theorem X3:dQ .sub s (.int k a) (.int k b)=some (.int k (k.wrap (a - b))):=by simp[dQ]
@[go_sem] theorem X4:dQ .mul s (.int k a) (.int k b)=some (.int k (k.wrap (a*b))):=by simp[dQ]
@[go_sem] theorem X5:dQ .quo s (.int k a) (.int k b)=if b=0 then none else some (.int k (k.wrap (a.tdiv b))):=by simp[dQ]
@[go_sem] theorem X6:dQ .rem s (.int k a) (.int k b)=if b=0 then none else some (.int k (a.tmod b)):=by simp[dQ]
@[go_sem] theorem X7:dQ .eql s (.int k a) (.int k b)=some (.bool (decide (a=b))):=by simp[dQ]
@[go_sem] theorem X8:dQ .neq s (.int k a) (.int k b)=some (.bool (!decide (a=b))):=by simp[dQ]
@[go_sem] theorem Ya:dQ .lss s (.int k a) (.int k b)=some (.bool (decide (a<b))):=by simp[dQ]
@[go_sem] theorem Yb:dQ .leq s (.int k a) (.int k b)=some (.bool (decide (a<=b))):=by simp[dQ]
@[go_sem] theorem Yc:dQ .gtr s (.int k a) (.int k b)=some (.bool (decide (a>b))):=by simp[dQ]
@[go_sem] theorem Yd:dQ .geq s (.int k a) (.int k b)=some (.bool (decide (a>=b))):=by simp[dQ]
@[go_sem] theorem Ye:dQ .and s (.int k a) (.int k b)=some (.int k (k.wrap (BitVec.ofInt k.bits a &&& BitVec.ofInt k.bits b).toNat)):=by simp[dQ]
@[go_sem] theorem ZI:dQ .or s (.int k a) (.int k b)=some (.int k (k.wrap (BitVec.ofInt k.bits a |||BitVec.ofInt k.bits b).toNat)):=by simp[dQ]
@[go_sem] theorem Yf:dQ .xor s (.int k a) (.int k b)=some (.int k (k.wrap (BitVec.ofInt k.bits a^^^BitVec.ofInt k.bits b).toNat)):=by simp[dQ]
@[go_sem] theorem Yg(h:IntKind):dQ .shl s (.int k a) (.int h b)=if b<0 then none else some (.int k (k.wrap (a*2^ (min b.toNat k.bits)))):=by rfl
@[go_sem] theorem Yh(h:IntKind):dQ .shr s (.int k a) (.int h b)=if b<0 then none else some (.int k (a.fdiv (2^ (min b.toNat k.bits)))):=by rfl
variable (x y : ByteArray)
@[go_sem] theorem Yi:dQ .add s (.string x) (.string y)=if((x.size+y.size:Nat):Int)>IntKind.i64.max then none else some (.string (x++y)):=by rfl
@[go_sem] theorem VB:dQ .eql s (.string x) (.string y)=some (.bool (x.toList==y.toList)):=by rfl
@[go_sem] theorem VC:dQ .neq s (.string x) (.string y)=some (.bool (!(x.toList==y.toList))):=by rfl
@[go_sem] theorem VD(u v:Bool):dQ .eql .bool (.bool u) (.bool v)=some (.bool (u==v)):=by rfl
@[go_sem] theorem VE(u v:Bool):dQ .neq .bool (.bool u) (.bool v)=some (.bool (!(u==v))):=by rfl
@[go_sem] theorem VF(u:Option Addr):dQ .eql .ptr (.pointer u) (.pointer none)=some (.bool u.isNone):=by cases u<;>rfl
@[go_sem] theorem VG(u:Option Addr):dQ .neq .ptr (.pointer u) (.pointer none)=some (.bool (!u.isNone)):=by cases u<;>rfl
@[go_sem] theorem Ug(u:Option Addr)(n c:Nat):dQ .eql .Vz (.slice u n c) (.slice none 0 0)=some (.bool u.isNone):=by cases u<;>rfl
@[go_sem] theorem Uh(u:Option Addr)(n c:Nat):dQ .neq .Vz (.slice u n c) (.slice none 0 0)=some (.bool (!u.isNone)):=by cases u<;>rfl
@[go_sem] theorem VH(t:TypeId)(v:Value):dQ .eql .VA (.iface t v) .nilIface=some (.bool false):=by rfl
@[go_sem] theorem VI(t:TypeId)(v:Value):dQ .neq .VA (.iface t v) .nilIface=some (.bool true):=by rfl
@[go_sem] theorem Rq(h:List (Nat×Option Nat×Shape))(l l':List Value):dQ .eql (.s h) (.agg l.toArray) (.agg l'.toArray)=(ri h l l').map .bool:=by rfl
@[go_sem] theorem Rr(h:List (Nat×Option Nat×Shape))(l l':List Value):dQ .neq (.s h) (.agg l.toArray) (.agg l'.toArray)=(ri h l l').map fun b=>.bool (!b):=by rfl
end
@[go_sem] theorem Yj(b:Bool)(F:Bool->Prop):ai (!b) F=ai b fun t=>F (!t):=by cases b<;>rfl
def Yk:UnOp->Value->Option Value
 | .neg,.int k n=>some (.int k (k.wrap (0 - n)))
 | .xor,.int k n=>some (.int k (k.wrap (BitVec.ofInt k.bits (if k.signed then -1 else k.max)^^^BitVec.ofInt k.bits n).toNat))
 | .not,.bool b=>some (.bool (!b))
 |_,_=>none
@[go_sem] theorem ZJ(b:Bool):Yk .not (.bool b)=some (.bool (!b)):=(rfl)
@[go_sem] theorem ZK(k:IntKind)(n:Int):Yk .neg (.int k n)=some (.int k (k.wrap (0 - n))):=(rfl)
@[go_sem] theorem ZL(k:IntKind)(n:Int):Yk .xor (.int k n)=some (.int k (k.wrap (BitVec.ofInt k.bits (if k.signed then -1 else k.max)^^^BitVec.ofInt k.bits n).toNat)):=(rfl)
def tP(v:Value)(F:Nat->Nat->Prop)(_t:Tag F:=⟨⟩):Prop:=match v with| .pointer (some ⟨b,o,none⟩)=>F b o|_=>False
@[go_sem] theorem ZM(b o:Nat)(F:Nat->Nat->Prop):tP (.pointer (some ⟨b,o,none⟩)) F=F b o:=(rfl)
theorem fD{F:Nat->Nat->Prop}(h:tP v F):∃b o,v= .pointer (some ⟨b,o,none⟩)/\F b o:=by
 unfold tP at h;grind
def xu(v:Value)(F:Int->Prop)(_t:Tag F:=⟨⟩):Prop:=match v with| .int _ n=>F n|_=>False
@[go_sem] theorem ZN(k:IntKind)(n:Int)(F:Int->Prop):xu (.int k n) F=F n:=(rfl)
theorem gh{F:Int->Prop}(h:xu v F):∃k n,v= .int k n/\F n:=by
 unfold xu at h;grind
def nl(v:Value)(F:Option Addr->Nat->Nat->Prop)(_t:Tag F:=⟨⟩):Prop:=match v with| .slice a n c=>F a n c|_=>False
@[go_sem] theorem VJ(a:Option Addr)(n c:Nat)(F:Option Addr->Nat->Nat->Prop):nl (.slice a n c) F=F a n c:=(rfl)
theorem hO{F:Option Addr->Nat->Nat->Prop}(h:nl v F):∃a n c,v= .slice a n c/\F a n c:=by
 unfold nl at h;grind
def qq(a:Option Addr)(F:Nat->Nat->Prop)(_t:Tag F:=⟨⟩):Prop:=match a with|some ⟨b,o,none⟩=>F b o|_=>False
@[go_sem] theorem Yl(b o:Nat)(F:Nat->Nat->Prop):qq (some ⟨b,o,none⟩) F=F b o:=(rfl)
theorem lE{a:Option Addr}{F:Nat->Nat->Prop}(h:qq a F):∃b o,a=some ⟨b,o,none⟩/\F b o:=by
 unfold qq at h;grind
def iB(v:Value)(F:ByteArray->Prop)(_t:Tag F:=⟨⟩):Prop:=match v with| .string s=>F s|_=>False
@[go_sem] theorem Ui(s:ByteArray)(F:ByteArray->Prop):iB (.string s) F=F s:=(rfl)
theorem kZ{F:ByteArray->Prop}(h:iB v F):∃s,v= .string s/\F s:=by
 unfold iB at h;grind
def Mk(v:Value)(F:List Value->Prop)(_t:Tag F:=⟨⟩):Prop:=match v with| .tuple vs=>F vs.toList|_=>False
@[go_sem] theorem ZO(l:List Value)(F:List Value->Prop):Mk (.tuple l.toArray) F=F l:=(rfl)
theorem FU{F:List Value->Prop}(h:Mk v F):∃vs,v= .tuple vs/\F vs.toList:=by
 unfold Mk at h;grind
def J9(v:Value)(F:List Value->Prop)(_t:Tag F:=⟨⟩):Prop:=match v with| .agg vs=>F vs.toList|_=>False
@[go_sem] theorem ZP(l:List Value)(F:List Value->Prop):J9 (.agg l.toArray) F=F l:=(rfl)
theorem zk{F:List Value->Prop}(h:J9 v F):∃vs,v= .agg vs/\F vs.toList:=by
 unfold J9 at h;grind
def zm(v:Value)(F:Option Nat->Prop)(_t:Tag F:=⟨⟩):Prop:=match v with| .map r=>F r|_=>False
@[go_sem] theorem ZQ(r:Option Nat)(F:Option Nat->Prop):zm (.map r) F=F r:=(rfl)
theorem ju{F:Option Nat->Prop}(h:zm v F):∃r,v= .map r/\F r:=by
 unfold zm at h;grind
def J8(ev:Ev):List Operand->(List Value->Prop)->Prop
 | [],F=>F []
 |x::xs,F=>aE (ev x) fun v=>J8 ev xs fun vs=>F (v::vs)
@[go_sem ↓] theorem ZR(ev:Ev)(F:List Value->Prop):J8 ev [] F=F []:=(rfl)
@[go_sem ↓] theorem Ym(ev:Ev)(x:Operand)(xs:List Operand)(F:List Value->Prop):J8 ev (x::xs) F=aE (ev x) fun v=>J8 ev xs fun vs=>F (v::vs):=(rfl)
theorem jL{ev:Ev}{ρ:Operand->Value}(z:∀x v,ev x=some v->ρ x=v):∀ {xs:List Operand} {F:List Value->Prop},J8 ev xs F->F (xs.map ρ):=by
 intro xs;induction xs with
 |nil=>intro F h;exact h
 |cons x xs l=>
  intro F h;obtain⟨v,w,h⟩:=aB h;grind
def xt(ev:Ev):List Value->List (Nat×Nat×Operand)->(List Value->Prop)->Prop
 |z,[],K=>K z
 |z,(off,size,x)::r,K=>aE (ev x) fun v=>dZ ((aK v).length=size) (xt ev (aS z off (aK v)) r K)
@[go_sem ↓] theorem VK(ev:Ev)(z:List Value)(K:List Value->Prop):xt ev z [] K=K z:=(rfl)
@[go_sem ↓] theorem Uj(ev:Ev)(z:List Value)(off size:Nat)(x:Operand)(r:List (Nat×Nat×Operand))(K:List Value->Prop):
  xt ev z ((off,size,x)::r) K=aE (ev x) fun v=>dZ ((aK v).length=size) (xt ev (aS z off (aK v)) r K):=(rfl)
def dw(z:List Value)(k:Nat):List Value:=(List.replicate k z).flatten
def iH(s:Shape)(k:Value):List MapEntry->Nat->Option (Option (Nat×Value))
 | [],_=>some none
 |e::es,i=>
  match xf s k e.key with
  |some true=>some (some (i,e.val))
  |some false=>iH s k es (i+1)
  |none=>none
def ng:Shape->Bool| .int| .str| .bool=>true|_=>false
def A0:Shape->Value->Bool
 | .int,.int _ _=>true
 | .str,.string _=>true
 | .bool,.bool _=>true
 | .s z,.agg xs=>z.all fun(off,agg,h)=>agg.isNone && ng h && (match h,xs[off]? with| .int,some (.int _ _)=>true| .str,some (.string _)=>true| .bool,some (.bool _)=>true|_,_=>false)
 |_,_=>false
def AM(H:Hp)(s:Shape)(r:Option Nat)(k:Value)(F:Option Value->Prop)(_t:Tag F:=⟨⟩):Prop:=
 match r with
 |none=>F none
 |some b=>aE (H.mp b) fun m=>aE (iH s k m.1 0) fun x=>F (x.map (·.2))
def JU(es:List MapEntry)(x:Option (Nat×Value))(k v:Value)(clock:Nat):List MapEntry:=
 match x with
 |some (i,_)=>es.modify i fun e=>{e with key:=k,val:=v}
 |none=>es++[{key:=k,val:=v,born:=clock}]
def Gw(x:Option (Nat×Value))(clock:Nat):Nat:=match x with|some _=>clock|none=>clock+1
def Cb(es:List MapEntry)(x:Option (Nat×Value))(k:Value):Bool:=
 match x with
 |some (i,_)=>Instr.sameBits 10000 (((es[i]?).map (·.key)).getD k) k
 |none=>true
@[go_sem] theorem Rs(es:List MapEntry)(k:Value):Cb es none k=true:=(rfl)
def Cp(es:List MapEntry)(x:Option (Nat×Value)):List MapEntry:=match x with|some (i,_)=>es.eraseIdx i|none=>es
def SF(H:Hp)(s:Shape)(b:Nat)(k v:Value)(F:Hp->Prop)(_t:Tag F:=⟨⟩):Prop:=
 aE (H.mp b) fun es=>aE (iH s k es.1 0) fun x=>dZ (Cb es.1 x k=true) (F (H.A9 b (JU es.1 x k v es.2) (Gw x es.2)))
def SG(H:Hp)(s:Shape)(b:Nat)(k:Value)(F:Hp->Prop)(_t:Tag F:=⟨⟩):Prop:=
 aE (H.mp b) fun es=>aE (iH s k es.1 0) fun x=>F (H.A9 b (Cp es.1 x) es.2)
def Uk(H:Hp)(z:List Value)(a:Option Addr)(n:Nat)(F:Hp->Prop)(_t:Tag F:=⟨⟩):Prop:=
 (n=0/\F H)\/(n≠0/\∃b o l,a=some ⟨b,o,none⟩/\EG (H.own b) (H.xd b)=some l/\dR (dw z n)/\o+n*z.length<=l.length/\F (H.wr b (aS l o (dw z n))))
@[go_sem] theorem VL(k:IntKind)(n:Int):A0 .int (.int k n)=true:=(rfl)
@[go_sem] theorem VM(s:ByteArray):A0 .str (.string s)=true:=(rfl)
def eR(P:Program)(f:FuncId):Bool:=match P.funcs[f]? with|some fn=>fn.name != "runtime.NumGoroutine" && fn.body.isSome|none=>false
def NW(P:Program)(H:Hp)(T:TypeId)(v:Value)(name:String)(f:FuncId)(rv:Value):Prop:=
 eR P f=true/\∀w,w.heap=H->(method (P.types.size+Made.depth) T v name).run P w= .ok (f,rv) w
def fN(P:Program)(recv:Value)(name:String)(args:List Value)(H:Hp)(K:Value->Hp->Prop)(_t:Tag K:=⟨⟩):Prop:=
 ∃T v f rv,recv= .iface T v/\NW P H T v name f rv/\ee P f (rv::args) H K
def Su(P:Program)(h:Value)(args:List Value)(H:Hp)(K:Value->Hp->Prop)(_t:Tag K:=⟨⟩):Prop:=
 match h with
 | .func (.func f) first captured=>eR P f=true/\ee P f (first.toList++args++captured.toList) H K
 |_=>False
def acv(P:Program)(f:FuncId)(vs:List Value)(H:Hp)(K:Value->Hp->Prop)(_t:Tag K:=⟨⟩):Prop:=∃v,(∀w,(callFunc f vs.toArray).run P w= .ok (.value v) w)/\K v H
def rowOf(H:Hp)(size:Nat)(v:Value)(F:Nat->List Value->Prop)(_t:Tag F:=⟨⟩):Prop:=
 match v with
 | .slice a n _=>Cx (n==0) (F 0 []) (qq a fun b o=>aE (H.rd b) fun l=>dZ (o+n*size<=l.length) (F n ((l.drop o).take (n*size))))
 | .string s=>dZ (size=1) (F s.size (s.data.toList.map fun b=>.int .u8 b.toNat))
 |_=>False
def eI(T size bytes:Nat)(z:List Value)(s x:Value)(H:Hp)(K:Value->Hp->Prop)(_t:Tag K:=⟨⟩):Prop:=
 nl s fun base n c=>rowOf H size x fun m new=>
  (n+m<=c->m=0->K (.slice base n c) H)/\
  (n+m<=c->m≠0->qq base fun b o=>aE (EG (H.own b) (H.xd b)) fun l=>dZ (o+(n+m)*size<=l.length/\dR new) (K (.slice base (n+m) c) (H.wr b (aS l (o+n*size) new))))/\
  (c<n+m->Builtin.nextslicecap (n+m) c*bytes<=2^48/\
   rowOf H size s fun _ h=>∀c',n+m<=c'->K (.slice (some ⟨H.size,0,none⟩) (n+m) c') (H.new T (h++new++dw z (c' - (n+m)))))
def PH(T:TypeId)(s:ByteArray)(H:Hp)(K:Value->Hp->Prop)(_t:Tag K:=⟨⟩):Prop:=
 ∀c,s.size<=c->K (.slice (some ⟨H.size,0,none⟩) s.size c) (H.JY T ((s.data.toList.map fun b=>.int .u8 b.toNat)++List.replicate (c - s.size) (.int .u8 0)))
def tB(T:TypeId)(v:Value)(F:Value->Prop)(_t:Tag F:=⟨⟩):Prop:=match v with| .iface t u=>dZ (t=T) (F u)|_=>False
@[go_sem] theorem Ul(T t:TypeId)(u:Value)(F:Value->Prop):tB T (.iface t u) F=dZ (t=T) (F u):=(rfl)
def Ka(v:Value)(F:Bool->Prop)(_t:Tag F:=⟨⟩):Prop:=match v with| .nilIface=>F true| .iface _ _=>F false|_=>False
@[go_sem] theorem Yn(F:Bool->Prop):Ka .nilIface F=F true:=(rfl)
@[go_sem] theorem ZS(t:TypeId)(u:Value)(F:Bool->Prop):Ka (.iface t u) F=F false:=(rfl)
theorem FW{F:Bool->Prop}(h:Ka v F):(v= .nilIface/\F true)\/∃t u,v= .iface t u/\F false:=by
 unfold Ka at h;grind
def Lr(neg b:Bool):Bool:=bif neg then !b else b
@[go_sem] theorem ZT:Lr false false=false:=(rfl)
@[go_sem] theorem ZU:Lr false true=true:=(rfl)
@[go_sem] theorem ZV:Lr true false=true:=(rfl)
@[go_sem] theorem ZW:Lr true true=false:=(rfl)
theorem xv{T:TypeId}{F:Value->Prop}(h:tB T v F):∃u,v= .iface T u/\F u:=by
 unfold tB at h;split at h
 ·obtain⟨rfl,h⟩:=h;grind
 grind
def bytesOf:List Value->Option (List UInt8)
 | []=>some []
 | .int .u8 n::r=>(bytesOf r).map (UInt8.ofNat n.toNat:: ·)
 |_::_=>none
@[go_sem] theorem So:bytesOf []=some []:=(rfl)
@[go_sem] theorem Rt(n:Int)(r:List Value):bytesOf (.int .u8 n::r)=(bytesOf r).map (UInt8.ofNat n.toNat:: ·):=(rfl)
def rG(H:Hp)(v:Value)(F:List UInt8->Prop)(_t:Tag F:=⟨⟩):Prop:=
 match v with
 | .slice a n c=>rowOf H 1 (.slice a n c) fun _ l=>aE (bytesOf l) F
 |_=>False
@[go_sem] theorem VN(H:Hp)(a:Option Addr)(n c:Nat)(F:List UInt8->Prop):rG H (.slice a n c) F=rowOf H 1 (.slice a n c) fun _ l=>aE (bytesOf l) F:=(rfl)
inductive dH where
 |cY(x:Operand)
 |pick(c a b:Operand)
 |box(T:TypeId)(x:Operand)
 |zero(T:TypeId)(l:List Value)
 |build(z:List Value)(parts:List (Nat×Nat×Operand))
 |lit(T:TypeId)(n:Nat)(z:List Value)(parts:List (Nat×Nat×Operand))
 |bB(x:Operand)
 |cE(n:Nat)(x:Operand)
 |store(n:Nat)(x v:Operand)
 |nilCheck(x:Operand)
 |eV(op:BinOp)(s:Shape)(x y:Operand)
 |un(op:UnOp)(x:Operand)
 |conv(k:IntKind)(x:Operand)
 |iface(T:TypeId)(x:Operand)
 |func(fn:Fn)(first captured:List Operand)
 |Ls
 |makeSlice(T bytes size:Nat)(z:List Value)(n c:Operand)
 |slice(size:Nat)(x:Operand)(lo hi mx:Option Operand)
 |Gz(x:Operand)(lo hi:Option Operand)
 |fieldAddr(off:Nat)(x:Operand)
 |field(off:Nat)(agg:Option Nat)(x:Operand)
 |indexAddr(size:Nat)(x i:Operand)
 |xp(len size:Nat)(x i:Operand)
 |GA(x i:Operand)
 |GC(len size:Nat)(agg:Option Nat)(x i:Operand)
 |lookup(s:Shape)(z:Value)(ok:Bool)(m k:Operand)
 |update(s:Shape)(m k v:Operand)
 |extract(i:Nat)(x:Operand)
 |call(f:FuncId)(args:List Operand)
 |dyn(f:Operand)(args:List Operand)
 |invoke(r:Operand)(name:String)(args:List Operand)
 |JX(x:Operand)
 |Qi(x:Operand)
 |Qj(x:Operand)
 |append(T size bytes:Nat)(z:List Value)(x y:Operand)
 |delete(s:Shape)(m k:Operand)
 |JW(z:List Value)(x:Operand)
 |Qm(args:List Operand)
 |Qn(args:List Operand)
 |GB(T:TypeId)(x:Operand)
 |Qo(neg:Bool)(x:Operand)
 |Lz(x:Operand)
 |Gy(T:TypeId)(x:Operand)
 |ext(f:FuncId)(args:List Operand)
 deriving Inhabited
def fI(P:Program)(t:TypeId):Option Value:=(P.info? t).bind (·.zero)
def fP:Nat:=8
def jG(place:Nat->Option (Nat×Nat))(h:Nat):List (Nat×Operand)->Option (List (Nat×Nat×Operand))
 | []=>some []
 | (i,x)::r=>
  match place i with
  |none=>none
  |some (off,size)=>if off+size<=h then(jG place h r).map ((off,size,x):: ·)else none
def JH(P:Program)(h:Array Field):Bool:=h.all fun f=>(P.info? f.type).isSome
def placeOf(P:Program)(h:Array Field):Array (Nat×Nat):=h.map fun f=>(f.offset,P.cellsOf f.type)
def parts(P:Program)(t:TypeId)(h:Nat)(ps:List (Nat×Operand)):Option (List (Nat×Nat×Operand)):=
 match P.underlying t with
 |some (.struct fields)=>if JH P fields then jG ((placeOf P fields)[·]?) h ps else none
 |some (.array _ e)=>if(P.info? e).isSome then jG (fun i=>some (i*P.cellsOf e,P.cellsOf e)) h ps else none
 |_=>none
end
end Go.Vc
