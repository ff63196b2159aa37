/- Texts put behind each other. -/
import Derived.Test.YthpjfeolagohkaaGreatK98
import Derived.Test.YthpjfeolagohkaaGreatK4
import Derived.Laws.Cells
set_option maxRecDepth 100000
set_option maxHeartbeats 8000000
set_option linter.unusedVariables false
namespace Go.Vc
def aA{α:Type}(o:Option α)(F:α→Prop)(_t:Tag F:=⟨⟩):Prop:=match o with|some v=>F v|none=>False
@[go_sem] theorem mI{α:Type}(v:α)(F:α→Prop):aA (some v) F=F v:=(rfl)
@[go_sem] theorem Y4{α:Type}(F:α→Prop):aA none F=False:=(rfl)
theorem az{α:Type}{o:Option α}{F:α→Prop}(h:aA o F):∃v,o=some v∧F v:=by
 cases o with
 |none=>exact h.elim
 |some v=>exact⟨v,rfl,h⟩
def now{α:Type}(x:α)(F:α→Prop)(_t:Tag F:=⟨⟩):Prop:=F x
@[go_sem] theorem Nf{α:Type}(x:α)(F:α→Prop):now x F=F x:=(rfl)
def ai(b:Bool)(F:Bool→Prop)(_t:Tag F:=⟨⟩):Prop:=F b
@[go_sem] theorem Z7(F:Bool→Prop):ai true F=F true:=(rfl)
@[go_sem] theorem Y5(F:Bool→Prop):ai false F=F false:=(rfl)
theorem ai.intro{b:Bool}{F:Bool→Prop}(ht:b=true→F true)(hf:b=false→F false):ai b F:=by
 cases b
 ·exact hf rfl
 ·exact ht rfl
theorem ai.dec{p:Prop}[Decidable p]{F:Bool→Prop}(ht:p→F true)(hf:¬p→F false):ai (decide p) F:=by
 by_cases h:p
 ·rw[aoE h];exact ht h
 ·rw[aoK h];exact hf h
def DV(b:Bool)(A B:Prop)(_ta:Tag A:=⟨⟩)(_tb:Tag B:=⟨⟩):Prop:=match b with|true=>A|false=>B
@[go_sem] theorem Ts(A B:Prop):DV true A B=A:=(rfl)
@[go_sem] theorem Z8(A B:Prop):DV false A B=B:=(rfl)
@[go_sem] theorem ahI:(true==true)=true:=(rfl)
@[go_sem] theorem ahJ:(true==false)=false:=(rfl)
@[go_sem] theorem ahK:(false==true)=false:=(rfl)
@[go_sem] theorem ahL:(false==false)=true:=(rfl)
theorem ai.bI{b:Bool}{F:Bool→Prop}(hb:b=true)(h:F true):ai b F:=by subst hb;exact h
theorem ai.aP{b:Bool}{F:Bool→Prop}(hb:b=false)(h:F false):ai b F:=by subst hb;exact h
def dW(c:Prop)(F:Prop)(_t:Tag F:=⟨⟩):Prop:=c∧F
@[go_sem] theorem Z9(F:Prop):dW True F=F:=by simp[dW]
@[go_sem] theorem aeR{α:Sort _}(a:α)(F:Prop):dW (a=a) F=F:=by simp[dW]
def ar(p:Prop)(_t:Tag p:=⟨⟩):Prop:=p
theorem ar.out{p:Prop}(h:ar p):p:=h
def zO(v:Value)(F:Bool→Prop)(_t:Tag F:=⟨⟩):Prop:=match v with| .bool b=>ai b F|_=>False
@[go_sem] theorem Y6(b:Bool)(F:Bool→Prop):zO (.bool b) F=ai b F:=(rfl)
def Hp.rd(H:Hp)(b:Nat):Option (List Value):=match H[b]? with|some (.cells c _ _)=>some c.toList|_=>none
def Hp.own(H:Hp)(b:Nat):Option (List Value):=match H[b]? with|some (.cells c _ fr)=>if fr=(0,0)then some c.toList else none|_=>none
def Hp.nX(H:Hp)(b:Nat):Option (List Value):=match H[b]? with|some (.cells c _ fr)=>if fr.2=fr.1+1∧c.size≤fr.1 then some c.toList else none|_=>none
def DW{α:Type}(x y:Option α):Option α:=match x with|some v=>some v|none=>y
@[go_sem] theorem TJ{α:Type}(v:α)(y:Option α):DW (some v) y=some v:=(rfl)
@[go_sem] theorem TK{α:Type}(y:Option α):DW none y=y:=(rfl)
def Hp.wr(H:Hp)(b:Nat)(l:List Value):Hp:=H.modify b fun| .cells _ t fr=>.cells l.toArray t fr|o=>o
def Hp.mp(H:Hp)(b:Nat):Option (List MapEntry×Nat):=match H[b]? with|some (.map es k)=>some (es.toList,k)|_=>none
def Hp.Du(H:Hp)(b:Nat)(es:List MapEntry)(k:Nat):Hp:=H.setIfInBounds b (.map es.toArray k)
def Hp.new(H:Hp)(T:TypeId)(l:List Value):Hp:=H.push (.cells l.toArray T)
def Hp.jR(H:Hp)(T:TypeId)(l:List Value):Hp:=H.push (.cells l.toArray T (l.length,l.length+1))
def Hp.fh(H:Hp):Hp:=H.push (.map #[] 0)
theorem ae{H:Hp}{b:Nat}{l:List Value}(h:H.own b=some l):H.rd b=some l:=by
 unfold Hp.own at h
 unfold Hp.rd
 split at h
 ·rename_i c t fr hb
  split at h
  ·simpa using h
  ·cases h
 ·cases h
theorem aB{H:Hp}{b:Nat}{l:List Value}(h:H.own b=some l):b<H.size:=by
 rcases apK b H.size with h'|h'
 ·exact h'
 ·simp[Hp.own,apB h']at h
theorem zX{H:Hp}{b:Nat}{l:List Value}(h:H.rd b=some l):b<H.size:=by
 rcases apK b H.size with h'|h'
 ·exact h'
 ·simp[Hp.rd,apB h']at h
theorem OJ{H:Hp}{b:Nat}{x:List MapEntry×Nat}(h:H.mp b=some x):b<H.size:=by
 rcases apK b H.size with h'|h'
 ·exact h'
 ·simp[Hp.mp,apB h']at h
theorem pT{H:Hp}{b:Nat}{l:List Value}(h:H.nX b=some l):H.rd b=some l:=by
 unfold Hp.nX at h
 unfold Hp.rd
 split at h
 ·rename_i c t fr hb
  split at h
  ·simpa using h
  ·cases h
 ·cases h
theorem Ov{H:Hp}{b:Nat}{l:List Value}(h:H.nX b=some l):H.own b=none:=by
 unfold Hp.nX at h
 unfold Hp.own
 split at h
 ·rename_i c t fr hb
  split at h
  ·rename_i hf
   refine if_neg fun e=>?_
   rw[e]at hf
   simp at hf
  ·cases h
 ·cases h
theorem AQ{H:Hp}{b:Nat}{l:List Value}(h:DW (H.own b) (H.nX b)=some l):H.own b=some l∨H.nX b=some l:=by
 cases ho:H.own b with
 |none=>rw[ho,TK]at h;exact .inr h
 |some x=>rw[ho,TJ]at h;injection h with h;subst h;exact .inl rfl
theorem mC{H:Hp}{b:Nat}{l:List Value}(h:DW (H.own b) (H.nX b)=some l):H.rd b=some l:=by
 rcases AQ h with h|h
 ·exact ae h
 ·exact pT h
theorem yZ{H:Hp}{b:Nat}{l:List Value}(h:H.nX b=some l):DW (H.own b) (H.nX b)=some l:=by rw[Ov h,h];rfl
theorem yY{H:Hp}{b:Nat}{l:List Value}(h:H.own b=some l):DW (H.own b) (H.nX b)=some l:=by rw[h];rfl
@[go_sem] theorem fu(H:Hp)(b:Nat)(l:List Value):(H.wr b l).size=H.size:=by simp[Hp.wr]
@[go_sem] theorem LC(H:Hp)(b:Nat)(es:List MapEntry)(k:Nat):(H.Du b es k).size=H.size:=by simp[Hp.Du]
@[go_sem] theorem aq(H:Hp)(T:TypeId)(l:List Value):(H.new T l).size=H.size+1:=by simp[Hp.new]
@[go_sem] theorem ii(H:Hp):H.fh.size=H.size+1:=by simp[Hp.fh]
@[go_sem] theorem IC(H:Hp)(T:TypeId)(l:List Value):(H.jR T l).size=H.size+1:=by simp[Hp.jR]
theorem Dv(H:Hp){c:Nat}(T:TypeId)(l:List Value)(h:c<H.size):(H.jR T l)[c]? =H[c]? :=by simp[Hp.jR,Array.getElem?_push,show c≠H.size by omega]
theorem AS(H:Hp)(T:TypeId)(l:List Value):(H.jR T l).nX H.size=some l:=by simp[Hp.nX,Hp.jR]
theorem vB(H:Hp){b c:Nat}(l:List Value)(h:b≠c):(H.wr b l)[c]? =H[c]? :=by simp[Hp.wr,apj,h]
theorem rK(H:Hp){b c:Nat}(es:List MapEntry)(k:Nat)(h:b≠c):(H.Du b es k)[c]? =H[c]? :=by simp[Hp.Du,Array.getElem?_setIfInBounds_ne h]
theorem rL(H:Hp){c:Nat}(T:TypeId)(l:List Value)(h:c<H.size):(H.new T l)[c]? =H[c]? :=by simp[Hp.new,Array.getElem?_push,show c≠H.size by omega]
theorem oo(H:Hp){c:Nat}(h:c<H.size):H.fh[c]? =H[c]? :=by simp[Hp.fh,Array.getElem?_push,show c≠H.size by omega]
theorem vh{H H':Hp}{b:Nat}(h:H'[b]? =H[b]?):H'.rd b=H.rd b:=by unfold Hp.rd;rw[h]
theorem qt{H H':Hp}{b:Nat}(h:H'[b]? =H[b]?):H'.own b=H.own b:=by unfold Hp.own;rw[h]
theorem Q0{H H':Hp}{b:Nat}(h:H'[b]? =H[b]?):H'.nX b=H.nX b:=by unfold Hp.nX;rw[h]
theorem vi{H H':Hp}{b:Nat}(h:H'[b]? =H[b]?):H'.mp b=H.mp b:=by unfold Hp.mp;rw[h]
theorem R6{H:Hp}{b c:Nat}{l:List Value}(h:b≠c):(H.wr b l).rd c=H.rd c:=vh (vB H l h)
theorem pQ{H:Hp}{b c:Nat}{l:List Value}(h:b≠c):(H.wr b l).own c=H.own c:=qt (vB H l h)
theorem R7{H:Hp}{b c:Nat}{l:List Value}(h:b≠c):(H.wr b l).mp c=H.mp c:=vi (vB H l h)
theorem PV{H:Hp}{b c:Nat}{es:List MapEntry}{k:Nat}(h:b≠c):(H.Du b es k).rd c=H.rd c:=vh (rK H es k h)
theorem Ny{H:Hp}{b c:Nat}{es:List MapEntry}{k:Nat}(h:b≠c):(H.Du b es k).own c=H.own c:=qt (rK H es k h)
theorem PW{H:Hp}{b c:Nat}{es:List MapEntry}{k:Nat}(h:b≠c):(H.Du b es k).mp c=H.mp c:=vi (rK H es k h)
theorem PX{H:Hp}{c:Nat}{T:TypeId}{l:List Value}(h:c<H.size):(H.new T l).rd c=H.rd c:=vh (rL H T l h)
theorem bL{H:Hp}{c:Nat}{T:TypeId}{l:List Value}(h:c<H.size):(H.new T l).own c=H.own c:=qt (rL H T l h)
theorem PY{H:Hp}{c:Nat}{T:TypeId}{l:List Value}(h:c<H.size):(H.new T l).mp c=H.mp c:=vi (rL H T l h)
theorem Nz{H:Hp}{c:Nat}(h:c<H.size):H.fh.rd c=H.rd c:=vh (oo H h)
theorem LD{H:Hp}{c:Nat}(h:c<H.size):H.fh.own c=H.own c:=qt (oo H h)
theorem NA{H:Hp}{c:Nat}(h:c<H.size):H.fh.mp c=H.mp c:=vi (oo H h)
@[go_sem] theorem aD(H:Hp)(T:TypeId)(l:List Value):(H.new T l).own H.size=some l:=by simp[Hp.own,Hp.new]
@[go_sem] theorem Y7(H:Hp)(T:TypeId)(l:List Value):(H.new T l).rd H.size=some l:=by simp[Hp.rd,Hp.new]
@[go_sem] theorem Jm(H:Hp):H.fh.mp H.size=some ([],0):=by simp[Hp.mp,Hp.fh]
theorem PZ{H:Hp}{c:Nat}{T:TypeId}{l:List Value}(h:c=H.size):(H.new T l).rd c=some l:=by subst h;exact Y7 H T l
theorem be{H:Hp}{c:Nat}{T:TypeId}{l:List Value}(h:c=H.size):(H.new T l).own c=some l:=by subst h;exact aD H T l
theorem NB{H:Hp}{c:Nat}(h:c=H.size):H.fh.mp c=some ([],0):=by subst h;exact Jm H
theorem ah{H:Hp}{b:Nat}{l l':List Value}(h:H.own b=some l'):(H.wr b l).own b=some l:=by
 unfold Hp.own at h
 split at h
 ·rename_i c t fr hb
  split at h
  ·rename_i hf
   simp[Hp.own,Hp.wr,apj,hb,hf]
  ·cases h
 ·cases h
theorem Mx{H:Hp}{b:Nat}{l l':List Value}(h:H.nX b=some l')(hl:l.length=l'.length):(H.wr b l).nX b=some l:=by
 unfold Hp.nX at h
 split at h
 ·rename_i c t fr hb
  split at h
  ·rename_i hf
   injection h with h
   have hc:c.size=l.length:=by rw[hl,←h];simp
   simp[Hp.nX,Hp.wr,apj,hb,hf.1]
   omega
  ·cases h
 ·cases h
theorem uv{H:Hp}{b:Nat}{l l':List Value}(h:DW (H.own b) (H.nX b)=some l')(hl:l.length=l'.length):DW ((H.wr b l).own b) ((H.wr b l).nX b)=some l:=by
 rcases AQ h with h|h
 ·exact yY (ah h)
 ·exact yZ (Mx h hl)
theorem re{H:Hp}{b:Nat}{l l':List Value}(h:H.own b=some l'):(H.wr b l).rd b=some l:=ae (ah h)
theorem jX{H:Hp}{b:Nat}{es:List MapEntry}{k:Nat}{x:List MapEntry×Nat}(h:H.mp b=some x):(H.Du b es k).mp b=some (es,k):=by
 have:=OJ h
 simp[Hp.mp,Hp.Du,this]
structure ag(S:Nat→Prop)(H H':Hp):Prop where
 size:H.size≤H'.size
 aG:∀b,b<H.size→¬S b→H'[b]? =H[b]?
theorem ag.refl(S:Nat→Prop)(H:Hp):ag S H H:=⟨aoB _,fun _ _ _=>rfl⟩
theorem ag.mono{S S':Nat→Prop}{H H':Hp}(h:ag S H H')(hs:∀b,b<H.size→S b→S' b):ag S' H H':=
 ⟨h.size,fun b hb hn=>h.aG b hb fun s=>hn (hs b hb s)⟩
theorem ag.trans{S:Nat→Prop}{A B C:Hp}(h:ag S A B)(k:ag S B C):ag S A C:=
 ⟨apc h.size k.size,fun b hb hn=>(k.aG b (aoO hb h.size) hn).trans (h.aG b hb hn)⟩
theorem ag.k9{S S':Nat→Prop}{A B C:Hp}(h:ag S A B)(k:ag S' B C)(hs:∀b,b<A.size→S' b→S b):ag S A C:=
 ⟨apc h.size k.size,fun b hb hn=>(k.aG b (aoO hb h.size) fun s=>hn (hs b hb s)).trans (h.aG b hb hn)⟩
theorem ag.wr{S:Nat→Prop}{A H:Hp}(h:ag S A H){b:Nat}(hb:b<A.size→S b)(l:List Value):ag S A (H.wr b l):=
 ⟨by rw[fu];exact h.size,fun c hc hn=>(vB H l fun e=>hn (by subst e;exact hb hc)).trans (h.aG c hc hn)⟩
theorem ag.Du{S:Nat→Prop}{A H:Hp}(h:ag S A H){b:Nat}(hb:b<A.size→S b)(es:List MapEntry)(k:Nat):ag S A (H.Du b es k):=
 ⟨by rw[LC];exact h.size,fun c hc hn=>(rK H es k fun e=>hn (by subst e;exact hb hc)).trans (h.aG c hc hn)⟩
theorem ag.new{S:Nat→Prop}{A H:Hp}(h:ag S A H)(T:TypeId)(l:List Value):ag S A (H.new T l):=
 ⟨by rw[aq];exact Nat.le_succ_of_le h.size,fun c hc hn=>(rL H T l (aoO hc h.size)).trans (h.aG c hc hn)⟩
theorem ag.jR{S:Nat→Prop}{A H:Hp}(h:ag S A H)(T:TypeId)(l:List Value):ag S A (H.jR T l):=
 ⟨by rw[IC];exact Nat.le_succ_of_le h.size,fun c hc hn=>(Dv H T l (aoO hc h.size)).trans (h.aG c hc hn)⟩
theorem ag.fh{S:Nat→Prop}{A H:Hp}(h:ag S A H):ag S A H.fh:=
 ⟨by rw[ii];exact Nat.le_succ_of_le h.size,fun c hc hn=>(oo H (aoO hc h.size)).trans (h.aG c hc hn)⟩
theorem ag.rd{S:Nat→Prop}{H H':Hp}(h:ag S H H'){b:Nat}{l:List Value}(hb:H.rd b=some l)(hn:¬S b):H'.rd b=some l:=
 (vh (h.aG b (zX hb) hn)).trans hb
theorem ag.own{S:Nat→Prop}{H H':Hp}(h:ag S H H'){b:Nat}{l:List Value}(hb:H.own b=some l)(hn:¬S b):H'.own b=some l:=
 (qt (h.aG b (aB hb) hn)).trans hb
theorem ag.nX{S:Nat→Prop}{H H':Hp}(h:ag S H H'){b:Nat}{l:List Value}(hb:H.nX b=some l)(hn:¬S b):H'.nX b=some l:=
 (Q0 (h.aG b (zX (pT hb)) hn)).trans hb
theorem ag.mp{S:Nat→Prop}{H H':Hp}(h:ag S H H'){b:Nat}{x:List MapEntry×Nat}(hb:H.mp b=some x)(hn:¬S b):H'.mp b=some x:=
 (vi (h.aG b (OJ hb) hn)).trans hb
def am(H H':Hp):Prop:=ag (fun _=>False) H H'
def aY(l:List Value)(off:Nat):List Value→List Value
 | []=>l
 |v::vs=>aY (l.set off v) (off+1) vs
@[go_sem] theorem Y8(l:List Value)(off:Nat):aY l off []=l:=(rfl)
@[go_sem] theorem oq(l:List Value)(off:Nat)(v:Value)(vs:List Value):aY l off (v::vs)=aY (l.set off v) (off+1) vs:=(rfl)
theorem fe(vs:List Value):∀ (l:List Value) (off:Nat),(aY l off vs).length=l.length:=by
 induction vs with
 |nil=>intro l off;rfl
 |cons v vs ih=>intro l off;rw[oq,ih];simp
theorem getElem?_splice(vs:List Value):∀ (l:List Value) (off j:Nat),off+vs.length≤l.length→
  (aY l off vs)[j]? =if off≤j∧j<off+vs.length then vs[j - off]? else l[j]? :=by
 induction vs with
 |nil=>intro l off j _;rw[if_neg (by simp only[apo];omega)];rfl
 |cons v vs ih=>
  intro l off j h
  simp only[aoI]at h
  rw[oq,ih _ _ _ (by simp;omega)]
  by_cases h1:off+1≤j∧j<off+1+vs.length
  ·rw[if_pos h1,if_pos ⟨by omega,by simp;omega⟩,show j - off=(j - (off+1))+1 by omega,api]
  ·rw[if_neg h1]
   by_cases h2:off=j
   ·subst h2
    rw[if_pos ⟨aoB _,by simp⟩,aox (by omega)]
    simp
   ·rw[aov h2,if_neg (fun hx=>h1 ⟨by omega,by simp at hx;omega⟩)]
def aF:Value→List Value
 | .agg cs=>cs.toList
 |v=>[v]
theorem eo(v:Value):v.cells.toList=aF v:=by cases v<;>rfl
@[go_sem] theorem Y9(l:List Value):aF (.agg l.toArray)=l:=(rfl)
@[go_sem] theorem WC(b:Bool):aF (.bool b)=[.bool b]:=(rfl)
@[go_sem] theorem Za(k:IntKind)(n:Int):aF (.int k n)=[.int k n]:=(rfl)
@[go_sem] theorem Ub(s:ByteArray):aF (.string s)=[.string s]:=(rfl)
@[go_sem] theorem TL(a:Option Addr):aF (.pointer a)=[.pointer a]:=(rfl)
@[go_sem] theorem VE(a:Option Addr)(n c:Nat):aF (.slice a n c)=[.slice a n c]:=(rfl)
@[go_sem] theorem Zb(r:Option Nat):aF (.map r)=[.map r]:=(rfl)
@[go_sem] theorem VF(t:TypeId)(v:Value):aF (.iface t v)=[.iface t v]:=(rfl)
@[go_sem] theorem Rp:aF .nilIface=[.nilIface]:=(rfl)
@[go_sem] theorem TM:aF .nilFunc=[.nilFunc]:=(rfl)
@[go_sem] theorem WD(f:Fn)(a b:Array Value):aF (.func f a b)=[.func f a b]:=(rfl)
@[go_sem] theorem ade(b:Bool):(Value.bool b).oneCell'=true:=(rfl)
@[go_sem] theorem aeS(k:IntKind)(n:Int):(Value.int k n).oneCell'=true:=(rfl)
@[go_sem] theorem Zc(s:ByteArray):(Value.string s).oneCell'=true:=(rfl)
@[go_sem] theorem WE(a:Option Addr):(Value.pointer a).oneCell'=true:=(rfl)
@[go_sem] theorem aaa(a:Option Addr)(n c:Nat):(Value.slice a n c).oneCell'=true:=(rfl)
@[go_sem] theorem aeT(r:Option Nat):(Value.map r).oneCell'=true:=(rfl)
@[go_sem] theorem aab(t:TypeId)(v:Value):(Value.iface t v).oneCell'=true:=(rfl)
@[go_sem] theorem VG:Value.nilIface.oneCell'=true:=(rfl)
@[go_sem] theorem WF:Value.nilFunc.oneCell'=true:=(rfl)
@[go_sem] theorem adf(f:Fn)(a b:Array Value):(Value.func f a b).oneCell'=true:=(rfl)
def rM:List Value→Bool
 | []=>true
 |v::l=>v.oneCell' && rM l
@[go_sem] theorem WG:rM []=true:=(rfl)
@[go_sem] theorem VH(v:Value)(l:List Value):rM (v::l)=(v.oneCell' && rM l):=(rfl)
def fE(l:List Value):Prop:=∀v∈l,v.oneCell'=true
@[go_sem] theorem Zd:fE []=True:=by simp[fE]
@[go_sem] theorem WH(v:Value)(l:List Value):fE (v::l)=(v.oneCell'=true∧fE l):=by simp[fE]
theorem Q1{l:List Value}(h:rM l=true):fE l:=by
 induction l with
 |nil=>intro v hv;cases hv
 |cons x l ih=>
  simp only[rM,apf]at h
  intro v hv
  rcases apa.1 hv with rfl|hv
  ·exact h.1
  ·exact ih h.2 v hv
theorem fK{w:World}{a:Addr}{l:List Value}(hs:a.spot=none)(h:Hp.rd w.heap a.block=some l):w.cell? a=l[a.off]? :=by
 unfold Hp.rd at h
 unfold World.cell?
 split at h
 ·rename_i c t fr hb
  injection h with h
  rw[hb]
  simp[hs,←h]
 ·cases h
theorem FQ{a:Addr}(hs:a.spot=none)(n:Nat):a.add n=⟨a.block,a.off+n,none⟩:=by
 unfold Addr.add
 split
 ·rename_i h;subst h;cases a;simp_all
 ·rfl
@[go_sem] theorem xN(b o n:Nat):(⟨b,o,none⟩:Addr).add n=⟨b,o+n,none⟩:=FQ rfl n
theorem pk{P:Program}{w:World}{a:Addr}{l:List Value}{n:Nat}(hs:a.spot=none)(h:Hp.rd w.heap a.block=some l)(hn:a.off+n≤l.length):
  (loadCells a n).run P w= .ok ((l.drop a.off).take n).toArray w:=by
 have hl:((l.drop a.off).take n).length=n:=by simp;omega
 have h1:=run_loadCells_list (P:=P) w a ((l.drop a.off).take n) fun j v hj=>by
  rw[FQ hs]
  refine(fK (a:=⟨a.block,a.off+j,none⟩) (l:=l) rfl h).trans ?_
  show l[a.off+j]? =some v
  have hjn:j<n:=by
   rcases apK j n with h'|h'
   ·exact h'
   ·rw[aoC (by omega)]at hj;cases hj
  rw[aoT hjn,aoX]at hj
  exact hj
 rw[hl]at h1
 exact h1
theorem heap_setCell(w:World)(b o:Nat)(v:Value){l:List Value}(h:Hp.rd w.heap b=some l):(w.setCell ⟨b,o,none⟩ v).heap=Hp.wr w.heap b (l.set o v):=by
 unfold Hp.rd at h
 split at h
 ·rename_i c t fr hb
  injection h with h
  have aK:b<w.heap.size:=(aps.1 hb).1
  simp only[World.setCell,Hp.wr]
  apply Array.ext_getElem?
  intro i
  rw[apj,apj]
  by_cases hi:b=i
  ·subst hi
   rw[if_pos rfl,if_pos rfl,hb]
   simp[←h]
   exact Array.ext' (by simp)
  ·rw[if_neg hi,if_neg hi]
 ·cases h
theorem oM{w:World}{b:Nat}{l:List Value}(h:Hp.own w.heap b=some l)(o:Nat):w.frozen? ⟨b,o,none⟩=false:=by
 unfold Hp.own at h
 unfold World.frozen?
 split at h
 ·rename_i c t fr hb
  split at h
  ·rename_i hf;rw[hb];simp[hf]
  ·cases h
 ·cases h
theorem It{w:World}{b:Nat}{l:List Value}(h:DW (Hp.own w.heap b) (Hp.nX w.heap b)=some l){o:Nat}(ho:o<l.length):w.frozen? ⟨b,o,none⟩=false:=by
 rcases AQ h with h|h
 ·exact oM h o
 ·unfold Hp.nX at h
  unfold World.frozen?
  split at h
  ·rename_i c t fr hb
   split at h
   ·rename_i hf
    injection h with h
    have hc:c.size=l.length:=by rw[←h];simp
    rw[hb]
    simp
    omega
   ·cases h
  ·cases h
@[go_sem] theorem O4{H:Hp}{b:Nat}{l l':List Value}:(H.wr b l).wr b l'=H.wr b l':=by
 unfold Hp.wr
 apply Array.ext_getElem?
 intro i
 rw[apj,apj,apj]
 by_cases hi:b=i
 ·subst hi
  simp only[if_true]
  cases H[b]? with
  |none=>rfl
  |some x=>cases x<;>rfl
 ·simp[hi]
theorem gN{P:Program}{b o:Nat}:∀ (vs:List Value) (i:Nat) (w:World) (l:List Value),DW (Hp.own w.heap b) (Hp.nX w.heap b)=some l→o+i+vs.length≤l.length→fE vs→
  ∃w',(storeCells ⟨b,o,none⟩ vs i).run P w= .ok () w'∧bW w w'∧(vs≠[]→w'.heap=Hp.wr w.heap b (aY l (o+i) vs))∧(vs=[]→w'.heap=w.heap):=by
 intro vs
 induction vs with
 |nil=>intro i w l _ _ _;exact⟨w,rfl,bW.refl w,fun h=>absurd rfl h,fun _=>rfl⟩
 |cons v vs ih=>
  intro i w l h hn h1
  have hv:v.oneCell'=true:=h1 v apC
  simp only[aoI]at hn
  have hc:w.cell? ⟨b,o+i,none⟩=some l[o+i]:=by rw[fK (l:=l) rfl (mC h)];simp[show o+i<l.length by omega]
  have ma:(store ((⟨b,o,none⟩:Addr).add i) v).run P w= .ok () (w.setCell ⟨b,o+i,none⟩ v):=by
   rw[xN,run_store P w _ v .plain hv,hc]
   simp[It h (show o+i<l.length by omega)]
  have hh:=heap_setCell w b (o+i) v (mC h)
  have how:DW (Hp.own (w.setCell ⟨b,o+i,none⟩ v).heap b) (Hp.nX (w.setCell ⟨b,o+i,none⟩ v).heap b)=some (l.set (o+i) v):=by rw[hh];exact uv h (by simp)
  obtain⟨w',hr,hs,hk,hk0⟩:=ih (i+1) (w.setCell ⟨b,o+i,none⟩ v) (l.set (o+i) v) how (by simp;omega) (fun x hx=>h1 x (apd _ hx))
  refine⟨w',?_,⟨hs.os,hs.output⟩,fun _=>?_,fun h=>by cases h⟩
  ·simp only[storeCells,Sem.run_bind,ma,Result.andThen_ok]
   exact hr
  ·rw[oq]
   cases vs with
   |nil=>rw[hk0 rfl,hh];rfl
   |cons x xs=>rw[hk (by simp),hh,O4];rfl
end Go.Vc
