/- Texts put behind each other. -/
import Derived.Test.YtnanofhkpglbaaaGreatDoorK6
import Derived.Laws.StructEq
set_option linter.unusedVariables false
set_option maxRecDepth 100000
set_option maxHeartbeats 80000000
namespace Go.Vc
section
variable{v:Value}
attribute [go_sem] alk alP alN amj amN List.set_cons_succ List.drop_zero List.drop_succ_cons
  List.take_zero List.take_succ_cons al0 al6 Bool.true_and ak7
abbrev Ev:=Operand->Option Value
inductive Shape where
 |int|str|bool|ptr|WE|mp|fn|WF
 |s(fs:List (Nat×Option Nat×Shape))
 deriving Inhabited
def cH:Shape->Value->Value->Option Bool
 | .int,.int k a,.int h b=>if k=h then some (decide (a=b))else none
 | .str,.string a,.string b=>some (a.toList==b.toList)
 | .bool,.bool a,.bool b=>some (a==b)
 | .ptr,.pointer none,.pointer b=>some b.isNone
 | .ptr,.pointer (some _),.pointer none=>some false
 | .WE,.slice none _ _,.slice b _ _=>some b.isNone
 | .WE,.slice (some _) _ _,.slice none _ _=>some false
 | .mp,.map none,.map b=>some b.isNone
 | .mp,.map (some _),.map none=>some false
 | .fn,.nilFunc,.nilFunc=>some true
 | .fn,.func ..,.nilFunc=>some false
 | .fn,.nilFunc,.func .. =>some false
 | .WF,.nilIface,.iface .. =>some false
 | .WF,.iface ..,.nilIface=>some false
 |_,_,_=>none
def lK(l:List Value)(off:Nat)(agg:Option Nat):Option Value:=
 match agg with
 |some n=>if off+n<=l.length then some (.agg ((l.drop off).take n).toArray)else none
 |none=>l[off]?
@[go_sem] theorem Lx(l:List Value)(off:Nat):lK l off none=l[off]? :=(rfl)
@[go_sem] theorem Vj(l:List Value)(off n:Nat):lK l off (some n)=if off+n<=l.length then some (.agg ((l.drop off).take n).toArray)else none:=(rfl)
mutual
def tJ:Shape->Value->Value->Option Bool
 | .s h,.agg xs,.agg z=>pw h xs.toList z.toList
 |sh,x,y=>cH sh x y
def pw:List (Nat×Option Nat×Shape)->List Value->List Value->Option Bool
 | [],_,_=>some true
 | (off,agg,w)::z,xs,h=>
  match lK xs off agg with
  |none=>none
  |some x=>
   match lK h off agg with
   |none=>none
   |some y=>
    match tJ w x y with
    |some true=>pw z xs h
    |some false=>some false
    |none=>none
end
def eu(P:Program)(t:TypeId):Bool:=match P.underlying t with|some (.struct _)|some (.array _ _)=>true|_=>false
def wO(P:Program)(h:TypeId->Option Shape):List Field->Option (List (Nat×Option Nat×Shape))
 | []=>some []
 |f::z=>
  if f.name= "_" then none else
  match h f.type with
  |none=>none
  |some s=>(wO P h z).map ((f.offset,(if eu P f.type then some (P.cellsOf f.type)else none),s):: ·)
def shapeOf(P:Program):Nat->TypeId->Option Shape
 |0,_=>none
 |d+1,t=>
  match P.underlying t with
  |some (.int _)=>some .int
  |some .string=>some .str
  |some .bool=>some .bool
  |some (.pointer _)=>some .ptr
  |some (.slice _)=>some .WE
  |some (.map _ _)=>some .mp
  |some (.func _ _ _)=>some .fn
  |some (.interface _)=>some .WF
  |some (.struct h)=>if P.stoodInHeld t then none else(wO P (shapeOf P d) h.toList).map .s
  |_=>none
def fy(P:Program)(d:Nat)(h:List Field):Option (List (Nat×Option Nat×Shape)):=wO P (shapeOf P d) h
theorem yV(P:Program)(d:Nat):fy P d []=some []:=rfl
theorem nv(P:Program)(d:Nat)(f:Field)(h:List Field):fy P d (f::h)=
  if f.name= "_" then none else
  match shapeOf P d f.type with
  |none=>none
  |some s=>(fy P d h).map ((f.offset,(if eu P f.type then some (P.cellsOf f.type)else none),s):: ·):=rfl
theorem gu(P:Program)(d:Nat)(t:TypeId):shapeOf P (d+1) t=
  match P.underlying t with
  |some (.int _)=>some .int
  |some .string=>some .str
  |some .bool=>some .bool
  |some (.pointer _)=>some .ptr
  |some (.slice _)=>some .WE
  |some (.map _ _)=>some .mp
  |some (.func _ _ _)=>some .fn
  |some (.interface _)=>some .WF
  |some (.struct h)=>if P.stoodInHeld t then none else(fy P d h.toList).map .s
  |_=>none:=rfl
def dN(op:BinOp)(s:Shape):Value->Value->Option Value
 | .int k a,.int h b=>
  match op with
  | .shl=>if b<0 then none else some (.int k (k.wrap (a*2^ (min b.toNat k.bits))))
  | .shr=>if b<0 then none else some (.int k (a.fdiv (2^ (min b.toNat k.bits))))
  |_=>
   if k≠h then none else
   match op with
   | .add=>some (.int k (k.wrap (a+b)))
   | .sub=>some (.int k (k.wrap (a - b)))
   | .mul=>some (.int k (k.wrap (a*b)))
   | .quo=>if b=0 then none else some (.int k (k.wrap (a.tdiv b)))
   | .rem=>if b=0 then none else some (.int k (a.tmod b))
   | .and=>some (.int k (k.wrap (BitVec.ofInt k.bits a &&& BitVec.ofInt k.bits b).toNat))
   | .or=>some (.int k (k.wrap (BitVec.ofInt k.bits a |||BitVec.ofInt k.bits b).toNat))
   | .xor=>some (.int k (k.wrap (BitVec.ofInt k.bits a^^^BitVec.ofInt k.bits b).toNat))
   | .andNot=>some (.int k (k.wrap (BitVec.ofInt k.bits a &&& ~~~ BitVec.ofInt k.bits b).toNat))
   | .eql=>some (.bool (decide (a=b)))
   | .neq=>some (.bool (!decide (a=b)))
   | .lss=>some (.bool (decide (a<b)))
   | .leq=>some (.bool (decide (a<=b)))
   | .gtr=>some (.bool (decide (a>b)))
   | .geq=>some (.bool (decide (a>=b)))
   |_=>none
 | .string x,.string y=>
  match op with
  | .add=>if((x.size+y.size:Nat):Int)>IntKind.i64.max then none else some (.string (x++y))
  | .eql=>some (.bool (x.toList==y.toList))
  | .neq=>some (.bool (!(x.toList==y.toList)))
  | .lss=>some (.bool (Op.bytesLess x.toList y.toList))
  | .leq=>some (.bool (Op.bytesLess x.toList y.toList || x.toList==y.toList))
  | .gtr=>some (.bool (!(Op.bytesLess x.toList y.toList || x.toList==y.toList)))
  | .geq=>some (.bool (!Op.bytesLess x.toList y.toList))
  |_=>none
 |x,y=>
  match op with
  | .eql=>(tJ s x y).map .bool
  | .neq=>(tJ s x y).map fun b=>.bool (!b)
  |_=>none
section
variable (s : Shape) (k : IntKind) (a b : Int)
@[go_sem] theorem Zh:dN .add s (.int k a) (.int k b)=some (.int k (k.wrap (a+b))):=by simp[dN]
@[go_sem] theorem Zi:dN .sub s (.int k a) (.int k b)=some (.int k (k.wrap (a - b))):=by simp[dN]
@[go_sem] theorem Zj:dN .mul s (.int k a) (.int k b)=some (.int k (k.wrap (a*b))):=by simp[dN]
@[go_sem] theorem Zk:dN .quo s (.int k a) (.int k b)=if b=0 then none else some (.int k (k.wrap (a.tdiv b))):=by simp[dN]
@[go_sem] theorem Zl:dN .rem s (.int k a) (.int k b)=if b=0 then none else some (.int k (a.tmod b)):=by simp[dN]
@[go_sem] theorem Zm:dN .eql s (.int k a) (.int k b)=some (.bool (decide (a=b))):=by simp[dN]
@[go_sem] theorem Zn:dN .neq s (.int k a) (.int k b)=some (.bool (!decide (a=b))):=by simp[dN]
@[go_sem] theorem Zo:dN .lss s (.int k a) (.int k b)=some (.bool (decide (a<b))):=by simp[dN]
@[go_sem] theorem Zp:dN .leq s (.int k a) (.int k b)=some (.bool (decide (a<=b))):=by simp[dN]
@[go_sem] theorem Zq:dN .gtr s (.int k a) (.int k b)=some (.bool (decide (a>b))):=by simp[dN]
@[go_sem] theorem Zr:dN .geq s (.int k a) (.int k b)=some (.bool (decide (a>=b))):=by simp[dN]
@[go_sem] theorem Zt:dN .and s (.int k a) (.int k b)=some (.int k (k.wrap (BitVec.ofInt k.bits a &&& BitVec.ofInt k.bits b).toNat)):=by simp[dN]
@[go_sem] theorem aaZ:dN .or s (.int k a) (.int k b)=some (.int k (k.wrap (BitVec.ofInt k.bits a |||BitVec.ofInt k.bits b).toNat)):=by simp[dN]
@[go_sem] theorem Zu:dN .xor s (.int k a) (.int k b)=some (.int k (k.wrap (BitVec.ofInt k.bits a^^^BitVec.ofInt k.bits b).toNat)):=by simp[dN]
@[go_sem] theorem Zw(h:IntKind):dN .shl s (.int k a) (.int h b)=if b<0 then none else some (.int k (k.wrap (a*2^ (min b.toNat k.bits)))):=by rfl
@[go_sem] theorem Zx(h:IntKind):dN .shr s (.int k a) (.int h b)=if b<0 then none else some (.int k (a.fdiv (2^ (min b.toNat k.bits)))):=by rfl
variable (x y : ByteArray)
@[go_sem] theorem Zy:dN .add s (.string x) (.string y)=if((x.size+y.size:Nat):Int)>IntKind.i64.max then none else some (.string (x++y)):=by rfl
@[go_sem] theorem WG:dN .eql s (.string x) (.string y)=some (.bool (x.toList==y.toList)):=by rfl
@[go_sem] theorem WH:dN .neq s (.string x) (.string y)=some (.bool (!(x.toList==y.toList))):=by rfl
@[go_sem] theorem WI(u v:Bool):dN .eql .bool (.bool u) (.bool v)=some (.bool (u==v)):=by rfl
@[go_sem] theorem WJ(u v:Bool):dN .neq .bool (.bool u) (.bool v)=some (.bool (!(u==v))):=by rfl
@[go_sem] theorem WK(u:Option Addr):dN .eql .ptr (.pointer u) (.pointer none)=some (.bool u.isNone):=by cases u<;>rfl
@[go_sem] theorem WL(u:Option Addr):dN .neq .ptr (.pointer u) (.pointer none)=some (.bool (!u.isNone)):=by cases u<;>rfl
@[go_sem] theorem Vk(u:Option Addr)(n c:Nat):dN .eql .WE (.slice u n c) (.slice none 0 0)=some (.bool u.isNone):=by cases u<;>rfl
@[go_sem] theorem Vl(u:Option Addr)(n c:Nat):dN .neq .WE (.slice u n c) (.slice none 0 0)=some (.bool (!u.isNone)):=by cases u<;>rfl
@[go_sem] theorem WM(t:TypeId)(v:Value):dN .eql .WF (.iface t v) .nilIface=some (.bool false):=by rfl
@[go_sem] theorem WN(t:TypeId)(v:Value):dN .neq .WF (.iface t v) .nilIface=some (.bool true):=by rfl
@[go_sem] theorem St(h:List (Nat×Option Nat×Shape))(l l':List Value):dN .eql (.s h) (.agg l.toArray) (.agg l'.toArray)=(pw h l l').map .bool:=by rfl
@[go_sem] theorem Su(h:List (Nat×Option Nat×Shape))(l l':List Value):dN .neq (.s h) (.agg l.toArray) (.agg l'.toArray)=(pw h l l').map fun b=>.bool (!b):=by rfl
end
@[go_sem] theorem Zz(b:Bool)(F:Bool->Prop):ai (!b) F=ai b fun t=>F (!t):=by cases b<;>rfl
def ZA:UnOp->Value->Option Value
 | .neg,.int k n=>some (.int k (k.wrap (0 - n)))
 | .xor,.int k n=>some (.int k (k.wrap (BitVec.ofInt k.bits (if k.signed then -1 else k.max)^^^BitVec.ofInt k.bits n).toNat))
 | .not,.bool b=>some (.bool (!b))
 |_,_=>none
@[go_sem] theorem aa0(b:Bool):ZA .not (.bool b)=some (.bool (!b)):=(rfl)
@[go_sem] theorem aa1(k:IntKind)(n:Int):ZA .neg (.int k n)=some (.int k (k.wrap (0 - n))):=(rfl)
@[go_sem] theorem aa2(k:IntKind)(n:Int):ZA .xor (.int k n)=some (.int k (k.wrap (BitVec.ofInt k.bits (if k.signed then -1 else k.max)^^^BitVec.ofInt k.bits n).toNat)):=(rfl)
def tI(v:Value)(F:Nat->Nat->Prop)(_t:Tag F:=⟨⟩):Prop:=match v with| .pointer (some ⟨b,o,none⟩)=>F b o|_=>False
@[go_sem] theorem aa3(b o:Nat)(F:Nat->Nat->Prop):tI (.pointer (some ⟨b,o,none⟩)) F=F b o:=(rfl)
theorem fz{F:Nat->Nat->Prop}(h:tI v F):∃b o,v= .pointer (some ⟨b,o,none⟩)/\F b o:=by
 unfold tI at h;grind
def xi(v:Value)(F:Int->Prop)(_t:Tag F:=⟨⟩):Prop:=match v with| .int _ n=>F n|_=>False
@[go_sem] theorem aa4(k:IntKind)(n:Int)(F:Int->Prop):xi (.int k n) F=F n:=(rfl)
theorem gg{F:Int->Prop}(h:xi v F):∃k n,v= .int k n/\F n:=by
 unfold xi at h;grind
def mS(v:Value)(F:Option Addr->Nat->Nat->Prop)(_t:Tag F:=⟨⟩):Prop:=match v with| .slice a n c=>F a n c|_=>False
@[go_sem] theorem WO(a:Option Addr)(n c:Nat)(F:Option Addr->Nat->Nat->Prop):mS (.slice a n c) F=F a n c:=(rfl)
theorem hV{F:Option Addr->Nat->Nat->Prop}(h:mS v F):∃a n c,v= .slice a n c/\F a n c:=by
 unfold mS at h;grind
def p9(a:Option Addr)(F:Nat->Nat->Prop)(_t:Tag F:=⟨⟩):Prop:=match a with|some ⟨b,o,none⟩=>F b o|_=>False
@[go_sem] theorem ZB(b o:Nat)(F:Nat->Nat->Prop):p9 (some ⟨b,o,none⟩) F=F b o:=(rfl)
theorem lw{a:Option Addr}{F:Nat->Nat->Prop}(h:p9 a F):∃b o,a=some ⟨b,o,none⟩/\F b o:=by
 unfold p9 at h;grind
def iB(v:Value)(F:ByteArray->Prop)(_t:Tag F:=⟨⟩):Prop:=match v with| .string s=>F s|_=>False
@[go_sem] theorem Vm(s:ByteArray)(F:ByteArray->Prop):iB (.string s) F=F s:=(rfl)
theorem kQ{F:ByteArray->Prop}(h:iB v F):∃s,v= .string s/\F s:=by
 unfold iB at h;grind
def MR(v:Value)(F:List Value->Prop)(_t:Tag F:=⟨⟩):Prop:=match v with| .tuple vs=>F vs.toList|_=>False
@[go_sem] theorem aa5(l:List Value)(F:List Value->Prop):MR (.tuple l.toArray) F=F l:=(rfl)
theorem F7{F:List Value->Prop}(h:MR v F):∃vs,v= .tuple vs/\F vs.toList:=by
 unfold MR at h;grind
def KH(v:Value)(F:List Value->Prop)(_t:Tag F:=⟨⟩):Prop:=match v with| .agg vs=>F vs.toList|_=>False
@[go_sem] theorem aa6(l:List Value)(F:List Value->Prop):KH (.agg l.toArray) F=F l:=(rfl)
theorem y9{F:List Value->Prop}(h:KH v F):∃vs,v= .agg vs/\F vs.toList:=by
 unfold KH at h;grind
def zd(v:Value)(F:Option Nat->Prop)(_t:Tag F:=⟨⟩):Prop:=match v with| .map r=>F r|_=>False
@[go_sem] theorem aa7(r:Option Nat)(F:Option Nat->Prop):zd (.map r) F=F r:=(rfl)
theorem jr{F:Option Nat->Prop}(h:zd v F):∃r,v= .map r/\F r:=by
 unfold zd at h;grind
def KG(ev:Ev):List Operand->(List Value->Prop)->Prop
 | [],F=>F []
 |x::xs,F=>aF (ev x) fun v=>KG ev xs fun vs=>F (v::vs)
@[go_sem ↓] theorem aa8(ev:Ev)(F:List Value->Prop):KG ev [] F=F []:=(rfl)
@[go_sem ↓] theorem ZC(ev:Ev)(x:Operand)(xs:List Operand)(F:List Value->Prop):KG ev (x::xs) F=aF (ev x) fun v=>KG ev xs fun vs=>F (v::vs):=(rfl)
theorem jK{ev:Ev}{ρ:Operand->Value}(z:∀x v,ev x=some v->ρ x=v):∀ {xs:List Operand} {F:List Value->Prop},KG ev xs F->F (xs.map ρ):=by
 intro xs;induction xs with
 |nil=>intro F h;exact h
 |cons x xs l=>
  intro F h;obtain⟨v,w,h⟩:=aC h;grind
def xh(ev:Ev):List Value->List (Nat×Nat×Operand)->(List Value->Prop)->Prop
 |z,[],K=>K z
 |z,(off,size,x)::r,K=>aF (ev x) fun v=>dW ((aK v).length=size) (xh ev (aQ z off (aK v)) r K)
@[go_sem ↓] theorem WP(ev:Ev)(z:List Value)(K:List Value->Prop):xh ev z [] K=K z:=(rfl)
@[go_sem ↓] theorem Vn(ev:Ev)(z:List Value)(off size:Nat)(x:Operand)(r:List (Nat×Nat×Operand))(K:List Value->Prop):
  xh ev z ((off,size,x)::r) K=aF (ev x) fun v=>dW ((aK v).length=size) (xh ev (aQ z off (aK v)) r K):=(rfl)
def dm(z:List Value)(k:Nat):List Value:=(List.replicate k z).flatten
def fG(s:Shape)(k:Value):List MapEntry->Nat->Option (Option (Nat×Value))
 | [],_=>some none
 |e::es,i=>
  match tJ s k e.key with
  |some true=>some (some (i,e.val))
  |some false=>fG s k es (i+1)
  |none=>none
def mP:Shape->Bool| .int| .str| .bool=>true|_=>false
def yA:Shape->Value->Bool
 | .int,.int _ _=>true
 | .str,.string _=>true
 | .bool,.bool _=>true
 | .s z,.agg xs=>z.all fun(off,agg,h)=>agg.isNone && mP h && (match h,xs[off]? with| .int,some (.int _ _)=>true| .str,some (.string _)=>true| .bool,some (.bool _)=>true|_,_=>false)
 |_,_=>false
def uJ(H:Hp)(s:Shape)(r:Option Nat)(k:Value)(F:Option Value->Prop)(_t:Tag F:=⟨⟩):Prop:=
 match r with
 |none=>F none
 |some b=>aF (H.mp b) fun m=>aF (fG s k m.1 0) fun x=>F (x.map (·.2))
def Ix(es:List MapEntry)(x:Option (Nat×Value))(k v:Value)(clock:Nat):List MapEntry:=
 match x with
 |some (i,_)=>es.modify i fun e=>{e with key:=k,val:=v}
 |none=>es++[{key:=k,val:=v,born:=clock}]
def GN(x:Option (Nat×Value))(clock:Nat):Nat:=match x with|some _=>clock|none=>clock+1
def Ca(es:List MapEntry)(x:Option (Nat×Value))(k:Value):Bool:=
 match x with
 |some (i,_)=>Instr.sameBits 10000 (((es[i]?).map (·.key)).getD k) k
 |none=>true
@[go_sem] theorem Sv(es:List MapEntry)(k:Value):Ca es none k=true:=(rfl)
def Cr(es:List MapEntry)(x:Option (Nat×Value)):List MapEntry:=match x with|some (i,_)=>es.eraseIdx i|none=>es
def OO(H:Hp)(s:Shape)(b:Nat)(k v:Value)(F:Hp->Prop)(_t:Tag F:=⟨⟩):Prop:=
 aF (H.mp b) fun es=>aF (fG s k es.1 0) fun x=>dW (Ca es.1 x k=true) (F (H.AO b (Ix es.1 x k v es.2) (GN x es.2)))
def TI(H:Hp)(s:Shape)(b:Nat)(k:Value)(F:Hp->Prop)(_t:Tag F:=⟨⟩):Prop:=
 aF (H.mp b) fun es=>aF (fG s k es.1 0) fun x=>F (H.AO b (Cr es.1 x) es.2)
def Vo(H:Hp)(z:List Value)(a:Option Addr)(n:Nat)(F:Hp->Prop)(_t:Tag F:=⟨⟩):Prop:=
 (n=0/\F H)\/(n≠0/\∃b o l,a=some ⟨b,o,none⟩/\EO (H.own b) (H.wQ b)=some l/\dK (dm z n)/\o+n*z.length<=l.length/\F (H.wr b (aQ l o (dm z n))))
@[go_sem] theorem WQ(k:IntKind)(n:Int):yA .int (.int k n)=true:=(rfl)
@[go_sem] theorem WR(s:ByteArray):yA .str (.string s)=true:=(rfl)
def eQ(P:Program)(f:FuncId):Bool:=match P.funcs[f]? with|some fn=>fn.name != "runtime.NumGoroutine" && fn.body.isSome|none=>false
def OQ(P:Program)(H:Hp)(T:TypeId)(v:Value)(name:String)(f:FuncId)(rv:Value):Prop:=
 eQ P f=true/\∀w,w.heap=H->(method (P.types.size+Made.depth) T v name).run P w= .ok (f,rv) w
def fL(P:Program)(recv:Value)(name:String)(args:List Value)(H:Hp)(K:Value->Hp->Prop)(_t:Tag K:=⟨⟩):Prop:=
 ∃T v f rv,recv= .iface T v/\OQ P H T v name f rv/\dO P f (rv::args) H K
def Tw(P:Program)(h:Value)(args:List Value)(H:Hp)(K:Value->Hp->Prop)(_t:Tag K:=⟨⟩):Prop:=
 match h with
 | .func (.func f) first captured=>eQ P f=true/\dO P f (first.toList++args++captured.toList) H K
 |_=>False
def adK(P:Program)(f:FuncId)(vs:List Value)(H:Hp)(K:Value->Hp->Prop)(_t:Tag K:=⟨⟩):Prop:=∃v,(∀w,(callFunc f vs.toArray).run P w= .ok (.value v) w)/\K v H
def rowOf(H:Hp)(size:Nat)(v:Value)(F:Nat->List Value->Prop)(_t:Tag F:=⟨⟩):Prop:=
 match v with
 | .slice a n _=>Cz (n==0) (F 0 []) (p9 a fun b o=>aF (H.rd b) fun l=>dW (o+n*size<=l.length) (F n ((l.drop o).take (n*size))))
 | .string s=>dW (size=1) (F s.size (s.data.toList.map fun b=>.int .u8 b.toNat))
 |_=>False
def eh(T size bytes:Nat)(z:List Value)(s x:Value)(H:Hp)(K:Value->Hp->Prop)(_t:Tag K:=⟨⟩):Prop:=
 mS s fun base n c=>rowOf H size x fun m new=>
  (n+m<=c->m=0->K (.slice base n c) H)/\
  (n+m<=c->m≠0->p9 base fun b o=>aF (EO (H.own b) (H.wQ b)) fun l=>dW (o+(n+m)*size<=l.length/\dK new) (K (.slice base (n+m) c) (H.wr b (aQ l (o+n*size) new))))/\
  (c<n+m->Builtin.nextslicecap (n+m) c*bytes<=2^48/\
   rowOf H size s fun _ h=>∀c',n+m<=c'->K (.slice (some ⟨H.size,0,none⟩) (n+m) c') (H.new T (h++new++dm z (c' - (n+m)))))
def Qz(T:TypeId)(s:ByteArray)(H:Hp)(K:Value->Hp->Prop)(_t:Tag K:=⟨⟩):Prop:=
 ∀c,s.size<=c->K (.slice (some ⟨H.size,0,none⟩) s.size c) (H.Kt T ((s.data.toList.map fun b=>.int .u8 b.toNat)++List.replicate (c - s.size) (.int .u8 0)))
def tn(T:TypeId)(v:Value)(F:Value->Prop)(_t:Tag F:=⟨⟩):Prop:=match v with| .iface t u=>dW (t=T) (F u)|_=>False
@[go_sem] theorem Vp(T t:TypeId)(u:Value)(F:Value->Prop):tn T (.iface t u) F=dW (t=T) (F u):=(rfl)
def KI(v:Value)(F:Bool->Prop)(_t:Tag F:=⟨⟩):Prop:=match v with| .nilIface=>F true| .iface _ _=>F false|_=>False
@[go_sem] theorem ZD(F:Bool->Prop):KI .nilIface F=F true:=(rfl)
@[go_sem] theorem aa9(t:TypeId)(u:Value)(F:Bool->Prop):KI (.iface t u) F=F false:=(rfl)
theorem Ga{F:Bool->Prop}(h:KI v F):(v= .nilIface/\F true)\/∃t u,v= .iface t u/\F false:=by
 unfold KI at h;grind
def LW(neg b:Bool):Bool:=bif neg then !b else b
@[go_sem] theorem aba:LW false false=false:=(rfl)
@[go_sem] theorem abb:LW false true=true:=(rfl)
@[go_sem] theorem abc:LW true false=true:=(rfl)
@[go_sem] theorem abd:LW true true=false:=(rfl)
theorem xj{T:TypeId}{F:Value->Prop}(h:tn T v F):∃u,v= .iface T u/\F u:=by
 unfold tn at h;split at h
 ·obtain⟨rfl,h⟩:=h;grind
 grind
def bytesOf:List Value->Option (List UInt8)
 | []=>some []
 | .int .u8 n::r=>(bytesOf r).map (UInt8.ofNat n.toNat:: ·)
 |_::_=>none
@[go_sem] theorem Tq:bytesOf []=some []:=(rfl)
@[go_sem] theorem Sw(n:Int)(r:List Value):bytesOf (.int .u8 n::r)=(bytesOf r).map (UInt8.ofNat n.toNat:: ·):=(rfl)
def ri(H:Hp)(v:Value)(F:List UInt8->Prop)(_t:Tag F:=⟨⟩):Prop:=
 match v with
 | .slice a n c=>rowOf H 1 (.slice a n c) fun _ l=>aF (bytesOf l) F
 |_=>False
@[go_sem] theorem WS(H:Hp)(a:Option Addr)(n c:Nat)(F:List UInt8->Prop):ri H (.slice a n c) F=rowOf H 1 (.slice a n c) fun _ l=>aF (bytesOf l) F:=(rfl)
inductive dC where
 |mR(x:Operand)
 |pick(c a b:Operand)
 |box(T:TypeId)(x:Operand)
 |zero(T:TypeId)(l:List Value)
 |build(z:List Value)(parts:List (Nat×Nat×Operand))
 |lit(T:TypeId)(n:Nat)(z:List Value)(parts:List (Nat×Nat×Operand))
 |mB(x:Operand)
 |iC(n:Nat)(x:Operand)
 |store(n:Nat)(x v:Operand)
 |nilCheck(x:Operand)
 |j5(op:BinOp)(s:Shape)(x y:Operand)
 |un(op:UnOp)(x:Operand)
 |conv(k:IntKind)(x:Operand)
 |iface(T:TypeId)(x:Operand)
 |func(fn:Fn)(first captured:List Operand)
 |LX
 |makeSlice(T bytes size:Nat)(z:List Value)(n c:Operand)
 |slice(size:Nat)(x:Operand)(lo hi mx:Option Operand)
 |GQ(x:Operand)(lo hi:Option Operand)
 |fieldAddr(off:Nat)(x:Operand)
 |field(off:Nat)(agg:Option Nat)(x:Operand)
 |indexAddr(size:Nat)(x i:Operand)
 |xf(len size:Nat)(x i:Operand)
 |GR(x i:Operand)
 |GU(len size:Nat)(agg:Option Nat)(x i:Operand)
 |lookup(s:Shape)(z:Value)(ok:Bool)(m k:Operand)
 |update(s:Shape)(m k v:Operand)
 |extract(i:Nat)(x:Operand)
 |call(f:FuncId)(args:List Operand)
 |dyn(f:Operand)(args:List Operand)
 |invoke(r:Operand)(name:String)(args:List Operand)
 |Ks(x:Operand)
 |Q2(x:Operand)
 |Q3(x:Operand)
 |append(T size bytes:Nat)(z:List Value)(x y:Operand)
 |delete(s:Shape)(m k:Operand)
 |Kq(z:List Value)(x:Operand)
 |Q6(args:List Operand)
 |Q7(args:List Operand)
 |never
 |GS(T:TypeId)(x:Operand)
 |Q8(neg:Bool)(x:Operand)
 |Mc(x:Operand)
 |GP(T:TypeId)(x:Operand)
 |ext(f:FuncId)(args:List Operand)
 deriving Inhabited
def fF(P:Program)(t:TypeId):Option Value:=(P.info? t).bind (·.zero)
def fN:Nat:=8
def jE(place:Nat->Option (Nat×Nat))(h:Nat):List (Nat×Operand)->Option (List (Nat×Nat×Operand))
 | []=>some []
 | (i,x)::r=>
  match place i with
  |none=>none
  |some (off,size)=>if off+size<=h then(jE place h r).map ((off,size,x):: ·)else none
def Kf(P:Program)(h:Array Field):Bool:=h.all fun f=>(P.info? f.type).isSome
def placeOf(P:Program)(h:Array Field):Array (Nat×Nat):=h.map fun f=>(f.offset,P.cellsOf f.type)
def parts(P:Program)(t:TypeId)(h:Nat)(ps:List (Nat×Operand)):Option (List (Nat×Nat×Operand)):=
 match P.underlying t with
 |some (.struct fields)=>if Kf P fields then jE ((placeOf P fields)[·]?) h ps else none
 |some (.array _ e)=>if(P.info? e).isSome then jE (fun i=>some (i*P.cellsOf e,P.cellsOf e)) h ps else none
 |_=>none
end
end Go.Vc
