/- Texts put behind each other. -/
import Derived.Test.YtjlnnljohemifaaGreatK98
import Derived.Test.YtjlnnljohemifaaGreatK2
import Derived.Laws.Cells
set_option maxRecDepth 100000
set_option maxHeartbeats 8000000
set_option linter.unusedVariables false
namespace Go.Vc
def aC{α:Type}(o:Option α)(F:α→Prop)(_t:Tag F:=⟨⟩):Prop:=match o with|some v=>F v|none=>False
@[go_sem] theorem nO{α:Type}(v:α)(F:α→Prop):aC (some v) F=F v:=(rfl)
@[go_sem] theorem X3{α:Type}(F:α→Prop):aC none F=False:=(rfl)
theorem aA{α:Type}{o:Option α}{F:α→Prop}(h:aC o F):∃v,o=some v∧F v:=by
 cases o with
 |none=>exact h.elim
 |some v=>exact⟨v,rfl,h⟩
def now{α:Type}(x:α)(F:α→Prop)(_t:Tag F:=⟨⟩):Prop:=F x
@[go_sem] theorem NV{α:Type}(x:α)(F:α→Prop):now x F=F x:=(rfl)
def am(b:Bool)(F:Bool→Prop)(_t:Tag F:=⟨⟩):Prop:=F b
@[go_sem] theorem ZH(F:Bool→Prop):am true F=F true:=(rfl)
@[go_sem] theorem X4(F:Bool→Prop):am false F=F false:=(rfl)
theorem am.intro{b:Bool}{F:Bool→Prop}(ht:b=true→F true)(hf:b=false→F false):am b F:=by
 cases b
 ·exact hf rfl
 ·exact ht rfl
theorem am.dec{p:Prop}[Decidable p]{F:Bool→Prop}(ht:p→F true)(hf:¬p→F false):am (decide p) F:=by
 by_cases h:p
 ·rw[aow h];exact ht h
 ·rw[aoJ h];exact hf h
def Gt(b:Bool)(A B:Prop)(_ta:Tag A:=⟨⟩)(_tb:Tag B:=⟨⟩):Prop:=match b with|true=>A|false=>B
@[go_sem] theorem St(A B:Prop):Gt true A B=A:=(rfl)
@[go_sem] theorem ZI(A B:Prop):Gt false A B=B:=(rfl)
@[go_sem] theorem ahh:(true==true)=true:=(rfl)
@[go_sem] theorem ahi:(true==false)=false:=(rfl)
@[go_sem] theorem ahj:(false==true)=false:=(rfl)
@[go_sem] theorem ahk:(false==false)=true:=(rfl)
theorem am.cQ{b:Bool}{F:Bool→Prop}(hb:b=true)(h:F true):am b F:=by subst hb;exact h
theorem am.aY{b:Bool}{F:Bool→Prop}(hb:b=false)(h:F false):am b F:=by subst hb;exact h
def dD(c:Prop)(F:Prop)(_t:Tag F:=⟨⟩):Prop:=c∧F
@[go_sem] theorem ZJ(F:Prop):dD True F=F:=by simp[dD]
theorem dD.mk{c F:Prop}(h:c)(f:F):dD c F:=⟨h,f⟩
@[go_sem] theorem aew{α:Sort _}(a:α)(F:Prop):dD (a=a) F=F:=by simp[dD]
def aw(p:Prop)(_t:Tag p:=⟨⟩):Prop:=p
theorem aw.out{p:Prop}(h:aw p):p:=h
def BN(v:Value)(F:Bool→Prop)(_t:Tag F:=⟨⟩):Prop:=match v with| .bool b=>am b F|_=>False
@[go_sem] theorem X5(b:Bool)(F:Bool→Prop):BN (.bool b) F=am b F:=(rfl)
def Hp.rd(H:Hp)(b:Nat):Option (List Value):=match H[b]? with|some (.cells c _ _)=>some c.toList|_=>none
def Hp.own(H:Hp)(b:Nat):Option (List Value):=match H[b]? with|some (.cells c _ fr)=>if fr=(0,0)then some c.toList else none|_=>none
def Hp.B5(H:Hp)(b:Nat):Option (List Value):=match H[b]? with|some (.cells c _ fr)=>if fr.2=fr.1+1∧c.size≤fr.1 then some c.toList else none|_=>none
def JU{α:Type}(x y:Option α):Option α:=match x with|some v=>some v|none=>y
@[go_sem] theorem SO{α:Type}(v:α)(y:Option α):JU (some v) y=some v:=(rfl)
@[go_sem] theorem SP{α:Type}(y:Option α):JU none y=y:=(rfl)
def Hp.wr(H:Hp)(b:Nat)(l:List Value):Hp:=H.modify b fun| .cells _ t fr=>.cells l.toArray t fr|o=>o
def Hp.mp(H:Hp)(b:Nat):Option (List MapEntry×Nat):=match H[b]? with|some (.map es k)=>some (es.toList,k)|_=>none
def Hp.Dw(H:Hp)(b:Nat)(es:List MapEntry)(k:Nat):Hp:=H.setIfInBounds b (.map es.toArray k)
def Hp.new(H:Hp)(T:TypeId)(l:List Value):Hp:=H.push (.cells l.toArray T)
def Hp.NW(H:Hp)(T:TypeId)(l:List Value):Hp:=H.push (.cells l.toArray T (l.length,l.length+1))
def Hp.im(H:Hp):Hp:=H.push (.map #[] 0)
theorem ae{H:Hp}{b:Nat}{l:List Value}(h:H.own b=some l):H.rd b=some l:=by
 unfold Hp.own at h
 unfold Hp.rd
 split at h
 ·rename_i c t fr hb
  split at h
  ·simpa using h
  ·cases h
 ·cases h
theorem aB{H:Hp}{b:Nat}{l:List Value}(h:H.own b=some l):b<H.size:=by
 rcases apA b H.size with h'|h'
 ·exact h'
 ·simp[Hp.own,apy h']at h
theorem O5{H:Hp}{b:Nat}{l:List Value}(h:H.rd b=some l):b<H.size:=by
 rcases apA b H.size with h'|h'
 ·exact h'
 ·simp[Hp.rd,apy h']at h
theorem O2{H:Hp}{b:Nat}{x:List MapEntry×Nat}(h:H.mp b=some x):b<H.size:=by
 rcases apA b H.size with h'|h'
 ·exact h'
 ·simp[Hp.mp,apy h']at h
theorem Qv{H:Hp}{b:Nat}{l:List Value}(h:H.B5 b=some l):H.rd b=some l:=by
 unfold Hp.B5 at h
 unfold Hp.rd
 split at h
 ·rename_i c t fr hb
  split at h
  ·simpa using h
  ·cases h
 ·cases h
theorem NX{H:Hp}{b:Nat}{l:List Value}(h:H.B5 b=some l):H.own b=none:=by
 unfold Hp.B5 at h
 unfold Hp.own
 split at h
 ·rename_i c t fr hb
  split at h
  ·rename_i hf
   refine if_neg fun e=>?_
   rw[e]at hf
   simp at hf
  ·cases h
 ·cases h
theorem Gu{H:Hp}{b:Nat}{l:List Value}(h:JU (H.own b) (H.B5 b)=some l):H.own b=some l∨H.B5 b=some l:=by
 cases ho:H.own b with
 |none=>rw[ho,SP]at h;exact .inr h
 |some x=>rw[ho,SO]at h;injection h with h;subst h;exact .inl rfl
theorem IX{H:Hp}{b:Nat}{l:List Value}(h:JU (H.own b) (H.B5 b)=some l):H.rd b=some l:=by
 rcases Gu h with h|h
 ·exact ae h
 ·exact Qv h
theorem NY{H:Hp}{b:Nat}{l:List Value}(h:H.B5 b=some l):JU (H.own b) (H.B5 b)=some l:=by rw[NX h,h];rfl
theorem NZ{H:Hp}{b:Nat}{l:List Value}(h:H.own b=some l):JU (H.own b) (H.B5 b)=some l:=by rw[h];rfl
@[go_sem] theorem eo(H:Hp)(b:Nat)(l:List Value):(H.wr b l).size=H.size:=by simp[Hp.wr]
@[go_sem] theorem K6(H:Hp)(b:Nat)(es:List MapEntry)(k:Nat):(H.Dw b es k).size=H.size:=by simp[Hp.Dw]
@[go_sem] theorem ap(H:Hp)(T:TypeId)(l:List Value):(H.new T l).size=H.size+1:=by simp[Hp.new]
@[go_sem] theorem iC(H:Hp):H.im.size=H.size+1:=by simp[Hp.im]
@[go_sem] theorem Qw(H:Hp)(T:TypeId)(l:List Value):(H.NW T l).size=H.size+1:=by simp[Hp.NW]
theorem LY(H:Hp){c:Nat}(T:TypeId)(l:List Value)(h:c<H.size):(H.NW T l)[c]? =H[c]? :=by simp[Hp.NW,Array.getElem?_push,show c≠H.size by omega]
theorem vP(H:Hp){b c:Nat}(l:List Value)(h:b≠c):(H.wr b l)[c]? =H[c]? :=by simp[Hp.wr,apm,h]
theorem sj(H:Hp){b c:Nat}(es:List MapEntry)(k:Nat)(h:b≠c):(H.Dw b es k)[c]? =H[c]? :=by simp[Hp.Dw,Array.getElem?_setIfInBounds_ne h]
theorem sk(H:Hp){c:Nat}(T:TypeId)(l:List Value)(h:c<H.size):(H.new T l)[c]? =H[c]? :=by simp[Hp.new,Array.getElem?_push,show c≠H.size by omega]
theorem oE(H:Hp){c:Nat}(h:c<H.size):H.im[c]? =H[c]? :=by simp[Hp.im,Array.getElem?_push,show c≠H.size by omega]
theorem vg{H H':Hp}{b:Nat}(h:H'[b]? =H[b]?):H'.rd b=H.rd b:=by unfold Hp.rd;rw[h]
theorem qH{H H':Hp}{b:Nat}(h:H'[b]? =H[b]?):H'.own b=H.own b:=by unfold Hp.own;rw[h]
theorem vh{H H':Hp}{b:Nat}(h:H'[b]? =H[b]?):H'.mp b=H.mp b:=by unfold Hp.mp;rw[h]
theorem Ri{H:Hp}{b c:Nat}{l:List Value}(h:b≠c):(H.wr b l).rd c=H.rd c:=vg (vP H l h)
theorem j0{H:Hp}{b c:Nat}{l:List Value}(h:b≠c):(H.wr b l).own c=H.own c:=qH (vP H l h)
theorem Rj{H:Hp}{b c:Nat}{l:List Value}(h:b≠c):(H.wr b l).mp c=H.mp c:=vh (vP H l h)
theorem Px{H:Hp}{b c:Nat}{es:List MapEntry}{k:Nat}(h:b≠c):(H.Dw b es k).rd c=H.rd c:=vg (sj H es k h)
theorem M2{H:Hp}{b c:Nat}{es:List MapEntry}{k:Nat}(h:b≠c):(H.Dw b es k).own c=H.own c:=qH (sj H es k h)
theorem Py{H:Hp}{b c:Nat}{es:List MapEntry}{k:Nat}(h:b≠c):(H.Dw b es k).mp c=H.mp c:=vh (sj H es k h)
theorem Pz{H:Hp}{c:Nat}{T:TypeId}{l:List Value}(h:c<H.size):(H.new T l).rd c=H.rd c:=vg (sk H T l h)
theorem cu{H:Hp}{c:Nat}{T:TypeId}{l:List Value}(h:c<H.size):(H.new T l).own c=H.own c:=qH (sk H T l h)
theorem PA{H:Hp}{c:Nat}{T:TypeId}{l:List Value}(h:c<H.size):(H.new T l).mp c=H.mp c:=vh (sk H T l h)
theorem M3{H:Hp}{c:Nat}(h:c<H.size):H.im.rd c=H.rd c:=vg (oE H h)
theorem K7{H:Hp}{c:Nat}(h:c<H.size):H.im.own c=H.own c:=qH (oE H h)
theorem M4{H:Hp}{c:Nat}(h:c<H.size):H.im.mp c=H.mp c:=vh (oE H h)
@[go_sem] theorem az(H:Hp)(T:TypeId)(l:List Value):(H.new T l).own H.size=some l:=by simp[Hp.own,Hp.new]
@[go_sem] theorem X6(H:Hp)(T:TypeId)(l:List Value):(H.new T l).rd H.size=some l:=by simp[Hp.rd,Hp.new]
@[go_sem] theorem JP(H:Hp):H.im.mp H.size=some ([],0):=by simp[Hp.mp,Hp.im]
theorem PC{H:Hp}{c:Nat}{T:TypeId}{l:List Value}(h:c=H.size):(H.new T l).rd c=some l:=by subst h;exact X6 H T l
theorem aU{H:Hp}{c:Nat}{T:TypeId}{l:List Value}(h:c=H.size):(H.new T l).own c=some l:=by subst h;exact az H T l
theorem M5{H:Hp}{c:Nat}(h:c=H.size):H.im.mp c=some ([],0):=by subst h;exact JP H
theorem ai{H:Hp}{b:Nat}{l l':List Value}(h:H.own b=some l'):(H.wr b l).own b=some l:=by
 unfold Hp.own at h
 split at h
 ·rename_i c t fr hb
  split at h
  ·rename_i hf
   simp[Hp.own,Hp.wr,apm,hb,hf]
  ·cases h
 ·cases h
theorem LZ{H:Hp}{b:Nat}{l l':List Value}(h:H.B5 b=some l')(hl:l.length=l'.length):(H.wr b l).B5 b=some l:=by
 unfold Hp.B5 at h
 split at h
 ·rename_i c t fr hb
  split at h
  ·rename_i hf
   injection h with h
   have hc:c.size=l.length:=by rw[hl,←h];simp
   simp[Hp.B5,Hp.wr,apm,hb,hf.1]
   omega
  ·cases h
 ·cases h
theorem L0{H:Hp}{b:Nat}{l l':List Value}(h:JU (H.own b) (H.B5 b)=some l')(hl:l.length=l'.length):JU ((H.wr b l).own b) ((H.wr b l).B5 b)=some l:=by
 rcases Gu h with h|h
 ·exact NZ (ai h)
 ·exact NY (LZ h hl)
theorem rN{H:Hp}{b:Nat}{l l':List Value}(h:H.own b=some l'):(H.wr b l).rd b=some l:=ae (ai h)
theorem lj{H:Hp}{b:Nat}{es:List MapEntry}{k:Nat}{x:List MapEntry×Nat}(h:H.mp b=some x):(H.Dw b es k).mp b=some (es,k):=by
 have:=O2 h
 simp[Hp.mp,Hp.Dw,this]
structure ag(S:Nat→Prop)(H H':Hp):Prop where
 size:H.size≤H'.size
 aM:∀b,b<H.size→¬S b→H'[b]? =H[b]?
theorem ag.refl(S:Nat→Prop)(H:Hp):ag S H H:=⟨aov _,fun _ _ _=>rfl⟩
theorem ag.mono{S S':Nat→Prop}{H H':Hp}(h:ag S H H')(hs:∀b,b<H.size→S b→S' b):ag S' H H':=
 ⟨h.size,fun b hb hn=>h.aM b hb fun s=>hn (hs b hb s)⟩
theorem ag.trans{S:Nat→Prop}{A B C:Hp}(h:ag S A B)(k:ag S B C):ag S A C:=
 ⟨apb h.size k.size,fun b hb hn=>(k.aM b (aoH hb h.size) hn).trans (h.aM b hb hn)⟩
theorem ag.nu{S S':Nat→Prop}{A B C:Hp}(h:ag S A B)(k:ag S' B C)(hs:∀b,b<A.size→S' b→S b):ag S A C:=
 ⟨apb h.size k.size,fun b hb hn=>(k.aM b (aoH hb h.size) fun s=>hn (hs b hb s)).trans (h.aM b hb hn)⟩
theorem ag.wr{S:Nat→Prop}{A H:Hp}(h:ag S A H){b:Nat}(hb:b<A.size→S b)(l:List Value):ag S A (H.wr b l):=
 ⟨by rw[eo];exact h.size,fun c hc hn=>(vP H l fun e=>hn (by subst e;exact hb hc)).trans (h.aM c hc hn)⟩
theorem ag.Dw{S:Nat→Prop}{A H:Hp}(h:ag S A H){b:Nat}(hb:b<A.size→S b)(es:List MapEntry)(k:Nat):ag S A (H.Dw b es k):=
 ⟨by rw[K6];exact h.size,fun c hc hn=>(sj H es k fun e=>hn (by subst e;exact hb hc)).trans (h.aM c hc hn)⟩
theorem ag.new{S:Nat→Prop}{A H:Hp}(h:ag S A H)(T:TypeId)(l:List Value):ag S A (H.new T l):=
 ⟨by rw[ap];exact Nat.le_succ_of_le h.size,fun c hc hn=>(sk H T l (aoH hc h.size)).trans (h.aM c hc hn)⟩
theorem ag.im{S:Nat→Prop}{A H:Hp}(h:ag S A H):ag S A H.im:=
 ⟨by rw[iC];exact Nat.le_succ_of_le h.size,fun c hc hn=>(oE H (aoH hc h.size)).trans (h.aM c hc hn)⟩
theorem ag.rd{S:Nat→Prop}{H H':Hp}(h:ag S H H'){b:Nat}{l:List Value}(hb:H.rd b=some l)(hn:¬S b):H'.rd b=some l:=
 (vg (h.aM b (O5 hb) hn)).trans hb
theorem ag.own{S:Nat→Prop}{H H':Hp}(h:ag S H H'){b:Nat}{l:List Value}(hb:H.own b=some l)(hn:¬S b):H'.own b=some l:=
 (qH (h.aM b (aB hb) hn)).trans hb
theorem ag.mp{S:Nat→Prop}{H H':Hp}(h:ag S H H'){b:Nat}{x:List MapEntry×Nat}(hb:H.mp b=some x)(hn:¬S b):H'.mp b=some x:=
 (vh (h.aM b (O2 hb) hn)).trans hb
def ah(H H':Hp):Prop:=ag (fun _=>False) H H'
def bk(l:List Value)(off:Nat):List Value→List Value
 | []=>l
 |v::vs=>bk (l.set off v) (off+1) vs
@[go_sem] theorem X7(l:List Value)(off:Nat):bk l off []=l:=(rfl)
@[go_sem] theorem oF(l:List Value)(off:Nat)(v:Value)(vs:List Value):bk l off (v::vs)=bk (l.set off v) (off+1) vs:=(rfl)
theorem kw(vs:List Value):∀ (l:List Value) (off:Nat),(bk l off vs).length=l.length:=by
 induction vs with
 |nil=>intro l off;rfl
 |cons v vs ih=>intro l off;rw[oF,ih];simp
theorem getElem?_splice(vs:List Value):∀ (l:List Value) (off j:Nat),off+vs.length≤l.length→
  (bk l off vs)[j]? =if off≤j∧j<off+vs.length then vs[j - off]? else l[j]? :=by
 induction vs with
 |nil=>intro l off j _;rw[if_neg (by simp only[apl];omega)];rfl
 |cons v vs ih=>
  intro l off j h
  simp only[aoD]at h
  rw[oF,ih _ _ _ (by simp;omega)]
  by_cases h1:off+1≤j∧j<off+1+vs.length
  ·rw[if_pos h1,if_pos ⟨by omega,by simp;omega⟩,show j - off=(j - (off+1))+1 by omega,apg]
  ·rw[if_neg h1]
   by_cases h2:off=j
   ·subst h2
    rw[if_pos ⟨aov _,by simp⟩,aop (by omega)]
    simp
   ·rw[aoo h2,if_neg (fun hx=>h1 ⟨by omega,by simp at hx;omega⟩)]
def aI:Value→List Value
 | .agg cs=>cs.toList
 |v=>[v]
theorem eI(v:Value):v.cells.toList=aI v:=by cases v<;>rfl
@[go_sem] theorem X8(l:List Value):aI (.agg l.toArray)=l:=(rfl)
@[go_sem] theorem VO(b:Bool):aI (.bool b)=[.bool b]:=(rfl)
@[go_sem] theorem X9(k:IntKind)(n:Int):aI (.int k n)=[.int k n]:=(rfl)
@[go_sem] theorem Ty(s:ByteArray):aI (.string s)=[.string s]:=(rfl)
@[go_sem] theorem SQ(a:Option Addr):aI (.pointer a)=[.pointer a]:=(rfl)
@[go_sem] theorem UN(a:Option Addr)(n c:Nat):aI (.slice a n c)=[.slice a n c]:=(rfl)
@[go_sem] theorem Ya(r:Option Nat):aI (.map r)=[.map r]:=(rfl)
@[go_sem] theorem UO(t:TypeId)(v:Value):aI (.iface t v)=[.iface t v]:=(rfl)
@[go_sem] theorem QY:aI .nilIface=[.nilIface]:=(rfl)
@[go_sem] theorem SR:aI .nilFunc=[.nilFunc]:=(rfl)
@[go_sem] theorem VP(f:Fn)(a b:Array Value):aI (.func f a b)=[.func f a b]:=(rfl)
@[go_sem] theorem acj(b:Bool):(Value.bool b).oneCell'=true:=(rfl)
@[go_sem] theorem aex(k:IntKind)(n:Int):(Value.int k n).oneCell'=true:=(rfl)
@[go_sem] theorem Yb(s:ByteArray):(Value.string s).oneCell'=true:=(rfl)
@[go_sem] theorem VQ(a:Option Addr):(Value.pointer a).oneCell'=true:=(rfl)
@[go_sem] theorem ZK(a:Option Addr)(n c:Nat):(Value.slice a n c).oneCell'=true:=(rfl)
@[go_sem] theorem aey(r:Option Nat):(Value.map r).oneCell'=true:=(rfl)
@[go_sem] theorem ZL(t:TypeId)(v:Value):(Value.iface t v).oneCell'=true:=(rfl)
@[go_sem] theorem UP:Value.nilIface.oneCell'=true:=(rfl)
@[go_sem] theorem VR:Value.nilFunc.oneCell'=true:=(rfl)
@[go_sem] theorem ack(f:Fn)(a b:Array Value):(Value.func f a b).oneCell'=true:=(rfl)
def sm:List Value→Bool
 | []=>true
 |v::l=>v.oneCell' && sm l
@[go_sem] theorem VS:sm []=true:=(rfl)
@[go_sem] theorem UQ(v:Value)(l:List Value):sm (v::l)=(v.oneCell' && sm l):=(rfl)
def gK(l:List Value):Prop:=∀v∈l,v.oneCell'=true
@[go_sem] theorem Yc:gK []=True:=by simp[gK]
@[go_sem] theorem VT(v:Value)(l:List Value):gK (v::l)=(v.oneCell'=true∧gK l):=by simp[gK]
theorem Qx{l:List Value}(h:sm l=true):gK l:=by
 induction l with
 |nil=>intro v hv;cases hv
 |cons x l ih=>
  simp only[sm,ao7]at h
  intro v hv
  rcases aot.1 hv with rfl|hv
  ·exact h.1
  ·exact ih h.2 v hv
theorem nA{w:World}{a:Addr}{l:List Value}(hs:a.spot=none)(h:Hp.rd w.heap a.block=some l):w.cell? a=l[a.off]? :=by
 unfold Hp.rd at h
 unfold World.cell?
 split at h
 ·rename_i c t fr hb
  injection h with h
  rw[hb]
  simp[hs,←h]
 ·cases h
theorem Fu{a:Addr}(hs:a.spot=none)(n:Nat):a.add n=⟨a.block,a.off+n,none⟩:=by
 unfold Addr.add
 split
 ·rename_i h;subst h;cases a;simp_all
 ·rfl
@[go_sem] theorem zw(b o n:Nat):(⟨b,o,none⟩:Addr).add n=⟨b,o+n,none⟩:=Fu rfl n
theorem qI{P:Program}{w:World}{a:Addr}{l:List Value}{n:Nat}(hs:a.spot=none)(h:Hp.rd w.heap a.block=some l)(hn:a.off+n≤l.length):
  (loadCells a n).run P w= .ok ((l.drop a.off).take n).toArray w:=by
 have hl:((l.drop a.off).take n).length=n:=by simp;omega
 have h1:=run_loadCells_list (P:=P) w a ((l.drop a.off).take n) fun j v hj=>by
  rw[Fu hs]
  refine(nA (a:=⟨a.block,a.off+j,none⟩) (l:=l) rfl h).trans ?_
  show l[a.off+j]? =some v
  have ZC:j<n:=by
   rcases apA j n with h'|h'
   ·exact h'
   ·rw[aoz (by omega)]at hj;cases hj
  rw[aoO ZC,aoW]at hj
  exact hj
 rw[hl]at h1
 exact h1
theorem heap_setCell(w:World)(b o:Nat)(v:Value){l:List Value}(h:Hp.rd w.heap b=some l):(w.setCell ⟨b,o,none⟩ v).heap=Hp.wr w.heap b (l.set o v):=by
 unfold Hp.rd at h
 split at h
 ·rename_i c t fr hb
  injection h with h
  have aO:b<w.heap.size:=(apd.1 hb).1
  simp only[World.setCell,Hp.wr]
  apply Array.ext_getElem?
  intro i
  rw[apm,apm]
  by_cases hi:b=i
  ·subst hi
   rw[if_pos rfl,if_pos rfl,hb]
   simp[←h]
   exact Array.ext' (by simp)
  ·rw[if_neg hi,if_neg hi]
 ·cases h
theorem ya{w:World}{b:Nat}{l:List Value}(h:Hp.own w.heap b=some l)(o:Nat):w.frozen? ⟨b,o,none⟩=false:=by
 unfold Hp.own at h
 unfold World.frozen?
 split at h
 ·rename_i c t fr hb
  split at h
  ·rename_i hf;rw[hb];simp[hf]
  ·cases h
 ·cases h
theorem Ip{w:World}{b:Nat}{l:List Value}(h:JU (Hp.own w.heap b) (Hp.B5 w.heap b)=some l){o:Nat}(ho:o<l.length):w.frozen? ⟨b,o,none⟩=false:=by
 rcases Gu h with h|h
 ·exact ya h o
 ·unfold Hp.B5 at h
  unfold World.frozen?
  split at h
  ·rename_i c t fr hb
   split at h
   ·rename_i hf
    injection h with h
    have hc:c.size=l.length:=by rw[←h];simp
    rw[hb]
    simp
    omega
   ·cases h
  ·cases h
@[go_sem] theorem RZ{H:Hp}{b:Nat}{l l':List Value}:(H.wr b l).wr b l'=H.wr b l':=by
 unfold Hp.wr
 apply Array.ext_getElem?
 intro i
 rw[apm,apm,apm]
 by_cases hi:b=i
 ·subst hi
  simp only[if_true]
  cases H[b]? with
  |none=>rfl
  |some x=>cases x<;>rfl
 ·simp[hi]
theorem is{P:Program}{b o:Nat}:∀ (vs:List Value) (i:Nat) (w:World) (l:List Value),JU (Hp.own w.heap b) (Hp.B5 w.heap b)=some l→o+i+vs.length≤l.length→gK vs→
  ∃w',(storeCells ⟨b,o,none⟩ vs i).run P w= .ok () w'∧cf w w'∧(vs≠[]→w'.heap=Hp.wr w.heap b (bk l (o+i) vs))∧(vs=[]→w'.heap=w.heap):=by
 intro vs
 induction vs with
 |nil=>intro i w l _ _ _;exact⟨w,rfl,cf.refl w,fun h=>absurd rfl h,fun _=>rfl⟩
 |cons v vs ih=>
  intro i w l h hn h1
  have hv:v.oneCell'=true:=h1 v ao5
  simp only[aoD]at hn
  have hc:w.cell? ⟨b,o+i,none⟩=some l[o+i]:=by rw[nA (l:=l) rfl (IX h)];simp[show o+i<l.length by omega]
  have uE:(store ((⟨b,o,none⟩:Addr).add i) v).run P w= .ok () (w.setCell ⟨b,o+i,none⟩ v):=by
   rw[zw,run_store P w _ v .plain hv,hc]
   simp[Ip h (show o+i<l.length by omega)]
  have hh:=heap_setCell w b (o+i) v (IX h)
  have Tw:JU (Hp.own (w.setCell ⟨b,o+i,none⟩ v).heap b) (Hp.B5 (w.setCell ⟨b,o+i,none⟩ v).heap b)=some (l.set (o+i) v):=by rw[hh];exact L0 h (by simp)
  obtain⟨w',hr,hs,hk,ZA⟩:=ih (i+1) (w.setCell ⟨b,o+i,none⟩ v) (l.set (o+i) v) Tw (by simp;omega) (fun x hx=>h1 x (aoQ _ hx))
  refine⟨w',?_,⟨hs.os,hs.output⟩,fun _=>?_,fun h=>by cases h⟩
  ·simp only[storeCells,Sem.run_bind,uE,Result.andThen_ok]
   exact hr
  ·rw[oF]
   cases vs with
   |nil=>rw[ZA rfl,hh];rfl
   |cons x xs=>rw[hk (by simp),hh,RZ];rfl
end Go.Vc
