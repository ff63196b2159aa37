/- Texts put behind each other. -/
import Derived.Test.YthpjfeolagohkaaGreatK98
import Derived.Test.YthpjfeolagohkaaGreatK4
import Derived.Laws.Cells
set_option maxRecDepth 100000
set_option maxHeartbeats 8000000
set_option linter.unusedVariables false
namespace Go.Vc
def aE{α:Type}(o:Option α)(F:α→Prop)(_t:Tag F:=⟨⟩):Prop:=match o with|some v=>F v|none=>False
@[go_sem] theorem nA{α:Type}(v:α)(F:α→Prop):aE (some v) F=F v:=(rfl)
@[go_sem] theorem ZK{α:Type}(F:α→Prop):aE none F=False:=(rfl)
theorem aD{α:Type}{o:Option α}{F:α→Prop}(h:aE o F):∃v,o=some v∧F v:=by
 cases o with
 |none=>exact h.elim
 |some v=>exact⟨v,rfl,h⟩
def now{α:Type}(x:α)(F:α→Prop)(_t:Tag F:=⟨⟩):Prop:=F x
@[go_sem] theorem NS{α:Type}(x:α)(F:α→Prop):now x F=F x:=(rfl)
def ar(b:Bool)(F:Bool→Prop)(_t:Tag F:=⟨⟩):Prop:=F b
@[go_sem] theorem aaQ(F:Bool→Prop):ar true F=F true:=(rfl)
@[go_sem] theorem ZL(F:Bool→Prop):ar false F=F false:=(rfl)
theorem ar.intro{b:Bool}{F:Bool→Prop}(ht:b=true→F true)(hf:b=false→F false):ar b F:=by
 cases b
 ·exact hf rfl
 ·exact ht rfl
theorem ar.dec{p:Prop}[Decidable p]{F:Bool→Prop}(ht:p→F true)(hf:¬p→F false):ar (decide p) F:=by
 by_cases h:p
 ·rw[aqp h];exact ht h
 ·rw[aqA h];exact hf h
def Gg(b:Bool)(A B:Prop)(_ta:Tag A:=⟨⟩)(_tb:Tag B:=⟨⟩):Prop:=match b with|true=>A|false=>B
@[go_sem] theorem TJ(A B:Prop):Gg true A B=A:=(rfl)
@[go_sem] theorem aaR(A B:Prop):Gg false A B=B:=(rfl)
@[go_sem] theorem ai7:(true==true)=true:=(rfl)
@[go_sem] theorem ai8:(true==false)=false:=(rfl)
@[go_sem] theorem ai9:(false==true)=false:=(rfl)
@[go_sem] theorem aja:(false==false)=true:=(rfl)
theorem ar.cP{b:Bool}{F:Bool→Prop}(hb:b=true)(h:F true):ar b F:=by subst hb;exact h
theorem ar.aW{b:Bool}{F:Bool→Prop}(hb:b=false)(h:F false):ar b F:=by subst hb;exact h
def dO(c:Prop)(F:Prop)(_t:Tag F:=⟨⟩):Prop:=c∧F
@[go_sem] theorem aaS(F:Prop):dO True F=F:=by simp[dO]
theorem dO.mk{c F:Prop}(h:c)(f:F):dO c F:=⟨h,f⟩
@[go_sem] theorem af4{α:Sort _}(a:α)(F:Prop):dO (a=a) F=F:=by simp[dO]
def ax(p:Prop)(_t:Tag p:=⟨⟩):Prop:=p
theorem ax.out{p:Prop}(h:ax p):p:=h
def AS(v:Value)(F:Bool→Prop)(_t:Tag F:=⟨⟩):Prop:=match v with| .bool b=>ar b F|_=>False
@[go_sem] theorem ZM(b:Bool)(F:Bool→Prop):AS (.bool b) F=ar b F:=(rfl)
def Hp.rd(H:Hp)(b:Nat):Option (List Value):=match H[b]? with|some (.cells c _ _)=>some c.toList|_=>none
def Hp.own(H:Hp)(b:Nat):Option (List Value):=match H[b]? with|some (.cells c _ fr)=>if fr=(0,0)then some c.toList else none|_=>none
def Hp.CG(H:Hp)(b:Nat):Option (List Value):=match H[b]? with|some (.cells c _ fr)=>if fr.2=fr.1+1∧c.size≤fr.1 then some c.toList else none|_=>none
def Kb{α:Type}(x y:Option α):Option α:=match x with|some v=>some v|none=>y
@[go_sem] theorem TW{α:Type}(v:α)(y:Option α):Kb (some v) y=some v:=(rfl)
@[go_sem] theorem TX{α:Type}(y:Option α):Kb none y=y:=(rfl)
def Hp.wr(H:Hp)(b:Nat)(l:List Value):Hp:=H.modify b fun| .cells _ t fr=>.cells l.toArray t fr|o=>o
def Hp.mp(H:Hp)(b:Nat):Option (List MapEntry×Nat):=match H[b]? with|some (.map es k)=>some (es.toList,k)|_=>none
def Hp.Ei(H:Hp)(b:Nat)(es:List MapEntry)(k:Nat):Hp:=H.setIfInBounds b (.map es.toArray k)
def Hp.new(H:Hp)(T:TypeId)(l:List Value):Hp:=H.push (.cells l.toArray T)
def Hp.NC(H:Hp)(T:TypeId)(l:List Value):Hp:=H.push (.cells l.toArray T (l.length,l.length+1))
def Hp.iR(H:Hp):Hp:=H.push (.map #[] 0)
theorem ae{H:Hp}{b:Nat}{l:List Value}(h:H.own b=some l):H.rd b=some l:=by
 unfold Hp.own at h
 unfold Hp.rd
 split at h
 ·rename_i c t fr hb
  split at h
  ·simpa using h
  ·cases h
 ·cases h
theorem aB{H:Hp}{b:Nat}{l:List Value}(h:H.own b=some l):b<H.size:=by
 rcases arm b H.size with h'|h'
 ·exact h'
 ·simp[Hp.own,arj h']at h
theorem Pv{H:Hp}{b:Nat}{l:List Value}(h:H.rd b=some l):b<H.size:=by
 rcases arm b H.size with h'|h'
 ·exact h'
 ·simp[Hp.rd,arj h']at h
theorem Px{H:Hp}{b:Nat}{x:List MapEntry×Nat}(h:H.mp b=some x):b<H.size:=by
 rcases arm b H.size with h'|h'
 ·exact h'
 ·simp[Hp.mp,arj h']at h
theorem Rt{H:Hp}{b:Nat}{l:List Value}(h:H.CG b=some l):H.rd b=some l:=by
 unfold Hp.CG at h
 unfold Hp.rd
 split at h
 ·rename_i c t fr hb
  split at h
  ·simpa using h
  ·cases h
 ·cases h
theorem Pb{H:Hp}{b:Nat}{l:List Value}(h:H.CG b=some l):H.own b=none:=by
 unfold Hp.CG at h
 unfold Hp.own
 split at h
 ·rename_i c t fr hb
  split at h
  ·rename_i hf
   refine if_neg fun e=>?_
   rw[e]at hf
   simp at hf
  ·cases h
 ·cases h
theorem HK{H:Hp}{b:Nat}{l:List Value}(h:Kb (H.own b) (H.CG b)=some l):H.own b=some l∨H.CG b=some l:=by
 cases ho:H.own b with
 |none=>rw[ho,TX]at h;exact .inr h
 |some x=>rw[ho,TW]at h;injection h with h;subst h;exact .inl rfl
theorem JV{H:Hp}{b:Nat}{l:List Value}(h:Kb (H.own b) (H.CG b)=some l):H.rd b=some l:=by
 rcases HK h with h|h
 ·exact ae h
 ·exact Rt h
theorem Pd{H:Hp}{b:Nat}{l:List Value}(h:H.CG b=some l):Kb (H.own b) (H.CG b)=some l:=by rw[Pb h,h];rfl
theorem Pe{H:Hp}{b:Nat}{l:List Value}(h:H.own b=some l):Kb (H.own b) (H.CG b)=some l:=by rw[h];rfl
@[go_sem] theorem cG(H:Hp)(b:Nat)(l:List Value):(H.wr b l).size=H.size:=by simp[Hp.wr]
@[go_sem] theorem My(H:Hp)(b:Nat)(es:List MapEntry)(k:Nat):(H.Ei b es k).size=H.size:=by simp[Hp.Ei]
@[go_sem] theorem am(H:Hp)(T:TypeId)(l:List Value):(H.new T l).size=H.size+1:=by simp[Hp.new]
@[go_sem] theorem iJ(H:Hp):H.iR.size=H.size+1:=by simp[Hp.iR]
@[go_sem] theorem Ql(H:Hp)(T:TypeId)(l:List Value):(H.NC T l).size=H.size+1:=by simp[Hp.NC]
theorem LI(H:Hp){c:Nat}(T:TypeId)(l:List Value)(h:c<H.size):(H.NC T l)[c]? =H[c]? :=by simp[Hp.NC,Array.getElem?_push,show c≠H.size by omega]
theorem wK(H:Hp){b c:Nat}(l:List Value)(h:b≠c):(H.wr b l)[c]? =H[c]? :=by simp[Hp.wr,arb,h]
theorem sX(H:Hp){b c:Nat}(es:List MapEntry)(k:Nat)(h:b≠c):(H.Ei b es k)[c]? =H[c]? :=by simp[Hp.Ei,Array.getElem?_setIfInBounds_ne h]
theorem sY(H:Hp){c:Nat}(T:TypeId)(l:List Value)(h:c<H.size):(H.new T l)[c]? =H[c]? :=by simp[Hp.new,Array.getElem?_push,show c≠H.size by omega]
theorem pq(H:Hp){c:Nat}(h:c<H.size):H.iR[c]? =H[c]? :=by simp[Hp.iR,Array.getElem?_push,show c≠H.size by omega]
theorem vZ{H H':Hp}{b:Nat}(h:H'[b]? =H[b]?):H'.rd b=H.rd b:=by unfold Hp.rd;rw[h]
theorem rE{H H':Hp}{b:Nat}(h:H'[b]? =H[b]?):H'.own b=H.own b:=by unfold Hp.own;rw[h]
theorem we{H H':Hp}{b:Nat}(h:H'[b]? =H[b]?):H'.mp b=H.mp b:=by unfold Hp.mp;rw[h]
theorem Sj{H:Hp}{b c:Nat}{l:List Value}(h:b≠c):(H.wr b l).rd c=H.rd c:=vZ (wK H l h)
theorem c7{H:Hp}{b c:Nat}{l:List Value}(h:b≠c):(H.wr b l).own c=H.own c:=rE (wK H l h)
theorem Sk{H:Hp}{b c:Nat}{l:List Value}(h:b≠c):(H.wr b l).mp c=H.mp c:=we (wK H l h)
theorem QE{H:Hp}{b c:Nat}{es:List MapEntry}{k:Nat}(h:b≠c):(H.Ei b es k).rd c=H.rd c:=vZ (sX H es k h)
theorem Of{H:Hp}{b c:Nat}{es:List MapEntry}{k:Nat}(h:b≠c):(H.Ei b es k).own c=H.own c:=rE (sX H es k h)
theorem QF{H:Hp}{b c:Nat}{es:List MapEntry}{k:Nat}(h:b≠c):(H.Ei b es k).mp c=H.mp c:=we (sX H es k h)
theorem QG{H:Hp}{c:Nat}{T:TypeId}{l:List Value}(h:c<H.size):(H.new T l).rd c=H.rd c:=vZ (sY H T l h)
theorem cA{H:Hp}{c:Nat}{T:TypeId}{l:List Value}(h:c<H.size):(H.new T l).own c=H.own c:=rE (sY H T l h)
theorem QH{H:Hp}{c:Nat}{T:TypeId}{l:List Value}(h:c<H.size):(H.new T l).mp c=H.mp c:=we (sY H T l h)
theorem Og{H:Hp}{c:Nat}(h:c<H.size):H.iR.rd c=H.rd c:=vZ (pq H h)
theorem Mz{H:Hp}{c:Nat}(h:c<H.size):H.iR.own c=H.own c:=rE (pq H h)
theorem Oh{H:Hp}{c:Nat}(h:c<H.size):H.iR.mp c=H.mp c:=we (pq H h)
@[go_sem] theorem az(H:Hp)(T:TypeId)(l:List Value):(H.new T l).own H.size=some l:=by simp[Hp.own,Hp.new]
@[go_sem] theorem ZN(H:Hp)(T:TypeId)(l:List Value):(H.new T l).rd H.size=some l:=by simp[Hp.rd,Hp.new]
@[go_sem] theorem Pw(H:Hp):H.iR.mp H.size=some ([],0):=by simp[Hp.mp,Hp.iR]
theorem QI{H:Hp}{c:Nat}{T:TypeId}{l:List Value}(h:c=H.size):(H.new T l).rd c=some l:=by subst h;exact ZN H T l
theorem bz{H:Hp}{c:Nat}{T:TypeId}{l:List Value}(h:c=H.size):(H.new T l).own c=some l:=by subst h;exact az H T l
theorem Oi{H:Hp}{c:Nat}(h:c=H.size):H.iR.mp c=some ([],0):=by subst h;exact Pw H
theorem ai{H:Hp}{b:Nat}{l l':List Value}(h:H.own b=some l'):(H.wr b l).own b=some l:=by
 unfold Hp.own at h
 split at h
 ·rename_i c t fr hb
  split at h
  ·rename_i hf
   simp[Hp.own,Hp.wr,arb,hb,hf]
  ·cases h
 ·cases h
theorem Nd{H:Hp}{b:Nat}{l l':List Value}(h:H.CG b=some l')(hl:l.length=l'.length):(H.wr b l).CG b=some l:=by
 unfold Hp.CG at h
 split at h
 ·rename_i c t fr hb
  split at h
  ·rename_i hf
   injection h with h
   have hc:c.size=l.length:=by rw[hl,←h];simp
   simp[Hp.CG,Hp.wr,arb,hb,hf.1]
   omega
  ·cases h
 ·cases h
theorem Nf{H:Hp}{b:Nat}{l l':List Value}(h:Kb (H.own b) (H.CG b)=some l')(hl:l.length=l'.length):Kb ((H.wr b l).own b) ((H.wr b l).CG b)=some l:=by
 rcases HK h with h|h
 ·exact Pe (ai h)
 ·exact Pd (Nd h hl)
theorem sE{H:Hp}{b:Nat}{l l':List Value}(h:H.own b=some l'):(H.wr b l).rd b=some l:=ae (ai h)
theorem kR{H:Hp}{b:Nat}{es:List MapEntry}{k:Nat}{x:List MapEntry×Nat}(h:H.mp b=some x):(H.Ei b es k).mp b=some (es,k):=by
 have:=Px h
 simp[Hp.mp,Hp.Ei,this]
structure ag(S:Nat→Prop)(H H':Hp):Prop where
 size:H.size≤H'.size
 aM:∀b,b<H.size→¬S b→H'[b]? =H[b]?
theorem ag.refl(S:Nat→Prop)(H:Hp):ag S H H:=⟨aqm _,fun _ _ _=>rfl⟩
theorem ag.mono{S S':Nat→Prop}{H H':Hp}(h:ag S H H')(hs:∀b,b<H.size→S b→S' b):ag S' H H':=
 ⟨h.size,fun b hb hn=>h.aM b hb fun s=>hn (hs b hb s)⟩
theorem ag.trans{S:Nat→Prop}{A B C:Hp}(h:ag S A B)(k:ag S B C):ag S A C:=
 ⟨aqW h.size k.size,fun b hb hn=>(k.aM b (aqw hb h.size) hn).trans (h.aM b hb hn)⟩
theorem ag.pL{S S':Nat→Prop}{A B C:Hp}(h:ag S A B)(k:ag S' B C)(hs:∀b,b<A.size→S' b→S b):ag S A C:=
 ⟨aqW h.size k.size,fun b hb hn=>(k.aM b (aqw hb h.size) fun s=>hn (hs b hb s)).trans (h.aM b hb hn)⟩
theorem ag.wr{S:Nat→Prop}{A H:Hp}(h:ag S A H){b:Nat}(hb:b<A.size→S b)(l:List Value):ag S A (H.wr b l):=
 ⟨by rw[cG];exact h.size,fun c hc hn=>(wK H l fun e=>hn (by subst e;exact hb hc)).trans (h.aM c hc hn)⟩
theorem ag.Ei{S:Nat→Prop}{A H:Hp}(h:ag S A H){b:Nat}(hb:b<A.size→S b)(es:List MapEntry)(k:Nat):ag S A (H.Ei b es k):=
 ⟨by rw[My];exact h.size,fun c hc hn=>(sX H es k fun e=>hn (by subst e;exact hb hc)).trans (h.aM c hc hn)⟩
theorem ag.new{S:Nat→Prop}{A H:Hp}(h:ag S A H)(T:TypeId)(l:List Value):ag S A (H.new T l):=
 ⟨by rw[am];exact Nat.le_succ_of_le h.size,fun c hc hn=>(sY H T l (aqw hc h.size)).trans (h.aM c hc hn)⟩
theorem ag.iR{S:Nat→Prop}{A H:Hp}(h:ag S A H):ag S A H.iR:=
 ⟨by rw[iJ];exact Nat.le_succ_of_le h.size,fun c hc hn=>(pq H (aqw hc h.size)).trans (h.aM c hc hn)⟩
theorem ag.rd{S:Nat→Prop}{H H':Hp}(h:ag S H H'){b:Nat}{l:List Value}(hb:H.rd b=some l)(hn:¬S b):H'.rd b=some l:=
 (vZ (h.aM b (Pv hb) hn)).trans hb
theorem ag.own{S:Nat→Prop}{H H':Hp}(h:ag S H H'){b:Nat}{l:List Value}(hb:H.own b=some l)(hn:¬S b):H'.own b=some l:=
 (rE (h.aM b (aB hb) hn)).trans hb
theorem ag.mp{S:Nat→Prop}{H H':Hp}(h:ag S H H'){b:Nat}{x:List MapEntry×Nat}(hb:H.mp b=some x)(hn:¬S b):H'.mp b=some x:=
 (we (h.aM b (Px hb) hn)).trans hb
def ah(H H':Hp):Prop:=ag (fun _=>False) H H'
def bh(l:List Value)(off:Nat):List Value→List Value
 | []=>l
 |v::vs=>bh (l.set off v) (off+1) vs
@[go_sem] theorem ZO(l:List Value)(off:Nat):bh l off []=l:=(rfl)
@[go_sem] theorem pt(l:List Value)(off:Nat)(v:Value)(vs:List Value):bh l off (v::vs)=bh (l.set off v) (off+1) vs:=(rfl)
theorem kA(vs:List Value):∀ (l:List Value) (off:Nat),(bh l off vs).length=l.length:=by
 induction vs with
 |nil=>intro l off;rfl
 |cons v vs ih=>intro l off;rw[pt,ih];simp
theorem getElem?_splice(vs:List Value):∀ (l:List Value) (off j:Nat),off+vs.length≤l.length→
  (bh l off vs)[j]? =if off≤j∧j<off+vs.length then vs[j - off]? else l[j]? :=by
 induction vs with
 |nil=>intro l off j _;rw[if_neg (by simp only[arh];omega)];rfl
 |cons v vs ih=>
  intro l off j h
  simp only[aqx]at h
  rw[pt,ih _ _ _ (by simp;omega)]
  by_cases h1:off+1≤j∧j<off+1+vs.length
  ·rw[if_pos h1,if_pos ⟨by omega,by simp;omega⟩,show j - off=(j - (off+1))+1 by omega,aq6]
  ·rw[if_neg h1]
   by_cases h2:off=j
   ·subst h2
    rw[if_pos ⟨aqm _,by simp⟩,aqi (by omega)]
    simp
   ·rw[aqh h2,if_neg (fun hx=>h1 ⟨by omega,by simp at hx;omega⟩)]
def aH:Value→List Value
 | .agg cs=>cs.toList
 |v=>[v]
theorem eU(v:Value):v.cells.toList=aH v:=by cases v<;>rfl
@[go_sem] theorem ZP(l:List Value):aH (.agg l.toArray)=l:=(rfl)
@[go_sem] theorem WY(b:Bool):aH (.bool b)=[.bool b]:=(rfl)
@[go_sem] theorem ZQ(k:IntKind)(n:Int):aH (.int k n)=[.int k n]:=(rfl)
@[go_sem] theorem Uz(s:ByteArray):aH (.string s)=[.string s]:=(rfl)
@[go_sem] theorem TY(a:Option Addr):aH (.pointer a)=[.pointer a]:=(rfl)
@[go_sem] theorem Wb(a:Option Addr)(n c:Nat):aH (.slice a n c)=[.slice a n c]:=(rfl)
@[go_sem] theorem ZR(r:Option Nat):aH (.map r)=[.map r]:=(rfl)
@[go_sem] theorem Wc(t:TypeId)(v:Value):aH (.iface t v)=[.iface t v]:=(rfl)
@[go_sem] theorem RQ:aH .nilIface=[.nilIface]:=(rfl)
@[go_sem] theorem TZ:aH .nilFunc=[.nilFunc]:=(rfl)
@[go_sem] theorem WZ(f:Fn)(a b:Array Value):aH (.func f a b)=[.func f a b]:=(rfl)
@[go_sem] theorem aec(b:Bool):(Value.bool b).oneCell'=true:=(rfl)
@[go_sem] theorem af5(k:IntKind)(n:Int):(Value.int k n).oneCell'=true:=(rfl)
@[go_sem] theorem ZS(s:ByteArray):(Value.string s).oneCell'=true:=(rfl)
@[go_sem] theorem W1(a:Option Addr):(Value.pointer a).oneCell'=true:=(rfl)
@[go_sem] theorem aaT(a:Option Addr)(n c:Nat):(Value.slice a n c).oneCell'=true:=(rfl)
@[go_sem] theorem af6(r:Option Nat):(Value.map r).oneCell'=true:=(rfl)
@[go_sem] theorem aaU(t:TypeId)(v:Value):(Value.iface t v).oneCell'=true:=(rfl)
@[go_sem] theorem Wd:Value.nilIface.oneCell'=true:=(rfl)
@[go_sem] theorem W2:Value.nilFunc.oneCell'=true:=(rfl)
@[go_sem] theorem aed(f:Fn)(a b:Array Value):(Value.func f a b).oneCell'=true:=(rfl)
def sZ:List Value→Bool
 | []=>true
 |v::l=>v.oneCell' && sZ l
@[go_sem] theorem W3:sZ []=true:=(rfl)
@[go_sem] theorem We(v:Value)(l:List Value):sZ (v::l)=(v.oneCell' && sZ l):=(rfl)
def gJ(l:List Value):Prop:=∀v∈l,v.oneCell'=true
@[go_sem] theorem ZT:gJ []=True:=by simp[gJ]
@[go_sem] theorem W4(v:Value)(l:List Value):gJ (v::l)=(v.oneCell'=true∧gJ l):=by simp[gJ]
theorem Ru{l:List Value}(h:sZ l=true):gJ l:=by
 induction l with
 |nil=>intro v hv;cases hv
 |cons x l ih=>
  simp only[sZ,aq0]at h
  intro v hv
  rcases aqC.1 hv with rfl|hv
  ·exact h.1
  ·exact ih h.2 v hv
theorem nS{w:World}{a:Addr}{l:List Value}(hs:a.spot=none)(h:Hp.rd w.heap a.block=some l):w.cell? a=l[a.off]? :=by
 unfold Hp.rd at h
 unfold World.cell?
 split at h
 ·rename_i c t fr hb
  injection h with h
  rw[hb]
  simp[hs,←h]
 ·cases h
theorem GG{a:Addr}(hs:a.spot=none)(n:Nat):a.add n=⟨a.block,a.off+n,none⟩:=by
 unfold Addr.add
 split
 ·rename_i h;subst h;cases a;simp_all
 ·rfl
@[go_sem] theorem zc(b o n:Nat):(⟨b,o,none⟩:Addr).add n=⟨b,o+n,none⟩:=GG rfl n
theorem qj{P:Program}{w:World}{a:Addr}{l:List Value}{n:Nat}(hs:a.spot=none)(h:Hp.rd w.heap a.block=some l)(hn:a.off+n≤l.length):
  (loadCells a n).run P w= .ok ((l.drop a.off).take n).toArray w:=by
 have hl:((l.drop a.off).take n).length=n:=by simp;omega
 have h1:=run_loadCells_list (P:=P) w a ((l.drop a.off).take n) fun j v hj=>by
  rw[GG hs]
  refine(nS (a:=⟨a.block,a.off+j,none⟩) (l:=l) rfl h).trans ?_
  show l[a.off+j]? =some v
  have hjn:j<n:=by
   rcases arm j n with h'|h'
   ·exact h'
   ·rw[aqo (by omega)]at hj;cases hj
  rw[aqF hjn,aqJ]at hj
  exact hj
 rw[hl]at h1
 exact h1
theorem heap_setCell(w:World)(b o:Nat)(v:Value){l:List Value}(h:Hp.rd w.heap b=some l):(w.setCell ⟨b,o,none⟩ v).heap=Hp.wr w.heap b (l.set o v):=by
 unfold Hp.rd at h
 split at h
 ·rename_i c t fr hb
  injection h with h
  have aN:b<w.heap.size:=(aq5.1 hb).1
  simp only[World.setCell,Hp.wr]
  apply Array.ext_getElem?
  intro i
  rw[arb,arb]
  by_cases hi:b=i
  ·subst hi
   rw[if_pos rfl,if_pos rfl,hb]
   simp[←h]
   exact Array.ext' (by simp)
  ·rw[if_neg hi,if_neg hi]
 ·cases h
theorem yK{w:World}{b:Nat}{l:List Value}(h:Hp.own w.heap b=some l)(o:Nat):w.frozen? ⟨b,o,none⟩=false:=by
 unfold Hp.own at h
 unfold World.frozen?
 split at h
 ·rename_i c t fr hb
  split at h
  ·rename_i hf;rw[hb];simp[hf]
  ·cases h
 ·cases h
theorem Jf{w:World}{b:Nat}{l:List Value}(h:Kb (Hp.own w.heap b) (Hp.CG w.heap b)=some l){o:Nat}(ho:o<l.length):w.frozen? ⟨b,o,none⟩=false:=by
 rcases HK h with h|h
 ·exact yK h o
 ·unfold Hp.CG at h
  unfold World.frozen?
  split at h
  ·rename_i c t fr hb
   split at h
   ·rename_i hf
    injection h with h
    have hc:c.size=l.length:=by rw[←h];simp
    rw[hb]
    simp
    omega
   ·cases h
  ·cases h
@[go_sem] theorem To{H:Hp}{b:Nat}{l l':List Value}:(H.wr b l).wr b l'=H.wr b l':=by
 unfold Hp.wr
 apply Array.ext_getElem?
 intro i
 rw[arb,arb,arb]
 by_cases hi:b=i
 ·subst hi
  simp only[if_true]
  cases H[b]? with
  |none=>rfl
  |some x=>cases x<;>rfl
 ·simp[hi]
theorem is{P:Program}{b o:Nat}:∀ (vs:List Value) (i:Nat) (w:World) (l:List Value),Kb (Hp.own w.heap b) (Hp.CG w.heap b)=some l→o+i+vs.length≤l.length→gJ vs→
  ∃w',(storeCells ⟨b,o,none⟩ vs i).run P w= .ok () w'∧cu w w'∧(vs≠[]→w'.heap=Hp.wr w.heap b (bh l (o+i) vs))∧(vs=[]→w'.heap=w.heap):=by
 intro vs
 induction vs with
 |nil=>intro i w l _ _ _;exact⟨w,rfl,cu.refl w,fun h=>absurd rfl h,fun _=>rfl⟩
 |cons v vs ih=>
  intro i w l h hn h1
  have hv:v.oneCell'=true:=h1 v aq9
  simp only[aqx]at hn
  have hc:w.cell? ⟨b,o+i,none⟩=some l[o+i]:=by rw[nS (l:=l) rfl (JV h)];simp[show o+i<l.length by omega]
  have uO:(store ((⟨b,o,none⟩:Addr).add i) v).run P w= .ok () (w.setCell ⟨b,o+i,none⟩ v):=by
   rw[zc,run_store P w _ v .plain hv,hc]
   simp[Jf h (show o+i<l.length by omega)]
  have hh:=heap_setCell w b (o+i) v (JV h)
  have how:Kb (Hp.own (w.setCell ⟨b,o+i,none⟩ v).heap b) (Hp.CG (w.setCell ⟨b,o+i,none⟩ v).heap b)=some (l.set (o+i) v):=by rw[hh];exact Nf h (by simp)
  obtain⟨w',hr,hs,hk,hk0⟩:=ih (i+1) (w.setCell ⟨b,o+i,none⟩ v) (l.set (o+i) v) how (by simp;omega) (fun x hx=>h1 x (aq1 _ hx))
  refine⟨w',?_,⟨hs.os,hs.output⟩,fun _=>?_,fun h=>by cases h⟩
  ·simp only[storeCells,Sem.run_bind,uO,Result.andThen_ok]
   exact hr
  ·rw[pt]
   cases vs with
   |nil=>rw[hk0 rfl,hh];rfl
   |cons x xs=>rw[hk (by simp),hh,To];rfl
end Go.Vc
