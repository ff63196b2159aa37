/- Texts put behind each other. -/
import Derived.Test.YtjlnnljohemifaaGreatK98
import Derived.Test.YtjlnnljohemifaaGreatK2
import Derived.Laws.Cells
set_option maxRecDepth 100000
set_option maxHeartbeats 8000000
set_option linter.unusedVariables false
namespace Go.Vc
def aC{α:Type}(o:Option α)(F:α→Prop)(_t:Tag F:=⟨⟩):Prop:=match o with|some v=>F v|none=>False
@[go_sem] theorem nN{α:Type}(v:α)(F:α→Prop):aC (some v) F=F v:=(rfl)
@[go_sem] theorem X2{α:Type}(F:α→Prop):aC none F=False:=(rfl)
theorem aA{α:Type}{o:Option α}{F:α→Prop}(h:aC o F):∃v,o=some v∧F v:=by
 cases o with
 |none=>exact h.elim
 |some v=>exact⟨v,rfl,h⟩
def now{α:Type}(x:α)(F:α→Prop)(_t:Tag F:=⟨⟩):Prop:=F x
@[go_sem] theorem NU{α:Type}(x:α)(F:α→Prop):now x F=F x:=(rfl)
def am(b:Bool)(F:Bool→Prop)(_t:Tag F:=⟨⟩):Prop:=F b
@[go_sem] theorem ZG(F:Bool→Prop):am true F=F true:=(rfl)
@[go_sem] theorem X3(F:Bool→Prop):am false F=F false:=(rfl)
theorem am.intro{b:Bool}{F:Bool→Prop}(ht:b=true→F true)(hf:b=false→F false):am b F:=by
 cases b
 ·exact hf rfl
 ·exact ht rfl
theorem am.dec{p:Prop}[Decidable p]{F:Bool→Prop}(ht:p→F true)(hf:¬p→F false):am (decide p) F:=by
 by_cases h:p
 ·rw[aov h];exact ht h
 ·rw[aoI h];exact hf h
def Gr(b:Bool)(A B:Prop)(_ta:Tag A:=⟨⟩)(_tb:Tag B:=⟨⟩):Prop:=match b with|true=>A|false=>B
@[go_sem] theorem Ss(A B:Prop):Gr true A B=A:=(rfl)
@[go_sem] theorem ZH(A B:Prop):Gr false A B=B:=(rfl)
@[go_sem] theorem ahg:(true==true)=true:=(rfl)
@[go_sem] theorem ahh:(true==false)=false:=(rfl)
@[go_sem] theorem ahi:(false==true)=false:=(rfl)
@[go_sem] theorem ahj:(false==false)=true:=(rfl)
theorem am.cQ{b:Bool}{F:Bool→Prop}(hb:b=true)(h:F true):am b F:=by subst hb;exact h
theorem am.aX{b:Bool}{F:Bool→Prop}(hb:b=false)(h:F false):am b F:=by subst hb;exact h
def dD(c:Prop)(F:Prop)(_t:Tag F:=⟨⟩):Prop:=c∧F
@[go_sem] theorem ZI(F:Prop):dD True F=F:=by simp[dD]
theorem dD.mk{c F:Prop}(h:c)(f:F):dD c F:=⟨h,f⟩
@[go_sem] theorem aev{α:Sort _}(a:α)(F:Prop):dD (a=a) F=F:=by simp[dD]
def aw(p:Prop)(_t:Tag p:=⟨⟩):Prop:=p
theorem aw.out{p:Prop}(h:aw p):p:=h
def BM(v:Value)(F:Bool→Prop)(_t:Tag F:=⟨⟩):Prop:=match v with| .bool b=>am b F|_=>False
@[go_sem] theorem X4(b:Bool)(F:Bool→Prop):BM (.bool b) F=am b F:=(rfl)
def Hp.rd(H:Hp)(b:Nat):Option (List Value):=match H[b]? with|some (.cells c _ _)=>some c.toList|_=>none
def Hp.own(H:Hp)(b:Nat):Option (List Value):=match H[b]? with|some (.cells c _ fr)=>if fr=(0,0)then some c.toList else none|_=>none
def Hp.B4(H:Hp)(b:Nat):Option (List Value):=match H[b]? with|some (.cells c _ fr)=>if fr.2=fr.1+1∧c.size≤fr.1 then some c.toList else none|_=>none
def JT{α:Type}(x y:Option α):Option α:=match x with|some v=>some v|none=>y
@[go_sem] theorem SN{α:Type}(v:α)(y:Option α):JT (some v) y=some v:=(rfl)
@[go_sem] theorem SO{α:Type}(y:Option α):JT none y=y:=(rfl)
def Hp.wr(H:Hp)(b:Nat)(l:List Value):Hp:=H.modify b fun| .cells _ t fr=>.cells l.toArray t fr|o=>o
def Hp.mp(H:Hp)(b:Nat):Option (List MapEntry×Nat):=match H[b]? with|some (.map es k)=>some (es.toList,k)|_=>none
def Hp.Du(H:Hp)(b:Nat)(es:List MapEntry)(k:Nat):Hp:=H.setIfInBounds b (.map es.toArray k)
def Hp.new(H:Hp)(T:TypeId)(l:List Value):Hp:=H.push (.cells l.toArray T)
def Hp.NV(H:Hp)(T:TypeId)(l:List Value):Hp:=H.push (.cells l.toArray T (l.length,l.length+1))
def Hp.ij(H:Hp):Hp:=H.push (.map #[] 0)
theorem ae{H:Hp}{b:Nat}{l:List Value}(h:H.own b=some l):H.rd b=some l:=by
 unfold Hp.own at h
 unfold Hp.rd
 split at h
 ·rename_i c t fr hb
  split at h
  ·simpa using h
  ·cases h
 ·cases h
theorem aB{H:Hp}{b:Nat}{l:List Value}(h:H.own b=some l):b<H.size:=by
 rcases apz b H.size with h'|h'
 ·exact h'
 ·simp[Hp.own,apx h']at h
theorem O4{H:Hp}{b:Nat}{l:List Value}(h:H.rd b=some l):b<H.size:=by
 rcases apz b H.size with h'|h'
 ·exact h'
 ·simp[Hp.rd,apx h']at h
theorem O1{H:Hp}{b:Nat}{x:List MapEntry×Nat}(h:H.mp b=some x):b<H.size:=by
 rcases apz b H.size with h'|h'
 ·exact h'
 ·simp[Hp.mp,apx h']at h
theorem Qt{H:Hp}{b:Nat}{l:List Value}(h:H.B4 b=some l):H.rd b=some l:=by
 unfold Hp.B4 at h
 unfold Hp.rd
 split at h
 ·rename_i c t fr hb
  split at h
  ·simpa using h
  ·cases h
 ·cases h
theorem NW{H:Hp}{b:Nat}{l:List Value}(h:H.B4 b=some l):H.own b=none:=by
 unfold Hp.B4 at h
 unfold Hp.own
 split at h
 ·rename_i c t fr hb
  split at h
  ·rename_i hf
   refine if_neg fun e=>?_
   rw[e]at hf
   simp at hf
  ·cases h
 ·cases h
theorem Gs{H:Hp}{b:Nat}{l:List Value}(h:JT (H.own b) (H.B4 b)=some l):H.own b=some l∨H.B4 b=some l:=by
 cases ho:H.own b with
 |none=>rw[ho,SO]at h;exact .inr h
 |some x=>rw[ho,SN]at h;injection h with h;subst h;exact .inl rfl
theorem IW{H:Hp}{b:Nat}{l:List Value}(h:JT (H.own b) (H.B4 b)=some l):H.rd b=some l:=by
 rcases Gs h with h|h
 ·exact ae h
 ·exact Qt h
theorem NX{H:Hp}{b:Nat}{l:List Value}(h:H.B4 b=some l):JT (H.own b) (H.B4 b)=some l:=by rw[NW h,h];rfl
theorem NY{H:Hp}{b:Nat}{l:List Value}(h:H.own b=some l):JT (H.own b) (H.B4 b)=some l:=by rw[h];rfl
@[go_sem] theorem eo(H:Hp)(b:Nat)(l:List Value):(H.wr b l).size=H.size:=by simp[Hp.wr]
@[go_sem] theorem K5(H:Hp)(b:Nat)(es:List MapEntry)(k:Nat):(H.Du b es k).size=H.size:=by simp[Hp.Du]
@[go_sem] theorem ap(H:Hp)(T:TypeId)(l:List Value):(H.new T l).size=H.size+1:=by simp[Hp.new]
@[go_sem] theorem iB(H:Hp):H.ij.size=H.size+1:=by simp[Hp.ij]
@[go_sem] theorem Qu(H:Hp)(T:TypeId)(l:List Value):(H.NV T l).size=H.size+1:=by simp[Hp.NV]
theorem LX(H:Hp){c:Nat}(T:TypeId)(l:List Value)(h:c<H.size):(H.NV T l)[c]? =H[c]? :=by simp[Hp.NV,Array.getElem?_push,show c≠H.size by omega]
theorem vO(H:Hp){b c:Nat}(l:List Value)(h:b≠c):(H.wr b l)[c]? =H[c]? :=by simp[Hp.wr,apl,h]
theorem si(H:Hp){b c:Nat}(es:List MapEntry)(k:Nat)(h:b≠c):(H.Du b es k)[c]? =H[c]? :=by simp[Hp.Du,Array.getElem?_setIfInBounds_ne h]
theorem sj(H:Hp){c:Nat}(T:TypeId)(l:List Value)(h:c<H.size):(H.new T l)[c]? =H[c]? :=by simp[Hp.new,Array.getElem?_push,show c≠H.size by omega]
theorem oD(H:Hp){c:Nat}(h:c<H.size):H.ij[c]? =H[c]? :=by simp[Hp.ij,Array.getElem?_push,show c≠H.size by omega]
theorem vf{H H':Hp}{b:Nat}(h:H'[b]? =H[b]?):H'.rd b=H.rd b:=by unfold Hp.rd;rw[h]
theorem qG{H H':Hp}{b:Nat}(h:H'[b]? =H[b]?):H'.own b=H.own b:=by unfold Hp.own;rw[h]
theorem vg{H H':Hp}{b:Nat}(h:H'[b]? =H[b]?):H'.mp b=H.mp b:=by unfold Hp.mp;rw[h]
theorem Rh{H:Hp}{b c:Nat}{l:List Value}(h:b≠c):(H.wr b l).rd c=H.rd c:=vf (vO H l h)
theorem jZ{H:Hp}{b c:Nat}{l:List Value}(h:b≠c):(H.wr b l).own c=H.own c:=qG (vO H l h)
theorem Ri{H:Hp}{b c:Nat}{l:List Value}(h:b≠c):(H.wr b l).mp c=H.mp c:=vg (vO H l h)
theorem Pv{H:Hp}{b c:Nat}{es:List MapEntry}{k:Nat}(h:b≠c):(H.Du b es k).rd c=H.rd c:=vf (si H es k h)
theorem M1{H:Hp}{b c:Nat}{es:List MapEntry}{k:Nat}(h:b≠c):(H.Du b es k).own c=H.own c:=qG (si H es k h)
theorem Pw{H:Hp}{b c:Nat}{es:List MapEntry}{k:Nat}(h:b≠c):(H.Du b es k).mp c=H.mp c:=vg (si H es k h)
theorem Px{H:Hp}{c:Nat}{T:TypeId}{l:List Value}(h:c<H.size):(H.new T l).rd c=H.rd c:=vf (sj H T l h)
theorem cu{H:Hp}{c:Nat}{T:TypeId}{l:List Value}(h:c<H.size):(H.new T l).own c=H.own c:=qG (sj H T l h)
theorem Py{H:Hp}{c:Nat}{T:TypeId}{l:List Value}(h:c<H.size):(H.new T l).mp c=H.mp c:=vg (sj H T l h)
theorem M2{H:Hp}{c:Nat}(h:c<H.size):H.ij.rd c=H.rd c:=vf (oD H h)
theorem K6{H:Hp}{c:Nat}(h:c<H.size):H.ij.own c=H.own c:=qG (oD H h)
theorem M3{H:Hp}{c:Nat}(h:c<H.size):H.ij.mp c=H.mp c:=vg (oD H h)
@[go_sem] theorem az(H:Hp)(T:TypeId)(l:List Value):(H.new T l).own H.size=some l:=by simp[Hp.own,Hp.new]
@[go_sem] theorem X5(H:Hp)(T:TypeId)(l:List Value):(H.new T l).rd H.size=some l:=by simp[Hp.rd,Hp.new]
@[go_sem] theorem JO(H:Hp):H.ij.mp H.size=some ([],0):=by simp[Hp.mp,Hp.ij]
theorem Pz{H:Hp}{c:Nat}{T:TypeId}{l:List Value}(h:c=H.size):(H.new T l).rd c=some l:=by subst h;exact X5 H T l
theorem aT{H:Hp}{c:Nat}{T:TypeId}{l:List Value}(h:c=H.size):(H.new T l).own c=some l:=by subst h;exact az H T l
theorem M4{H:Hp}{c:Nat}(h:c=H.size):H.ij.mp c=some ([],0):=by subst h;exact JO H
theorem ai{H:Hp}{b:Nat}{l l':List Value}(h:H.own b=some l'):(H.wr b l).own b=some l:=by
 unfold Hp.own at h
 split at h
 ·rename_i c t fr hb
  split at h
  ·rename_i hf
   simp[Hp.own,Hp.wr,apl,hb,hf]
  ·cases h
 ·cases h
theorem LY{H:Hp}{b:Nat}{l l':List Value}(h:H.B4 b=some l')(hl:l.length=l'.length):(H.wr b l).B4 b=some l:=by
 unfold Hp.B4 at h
 split at h
 ·rename_i c t fr hb
  split at h
  ·rename_i hf
   injection h with h
   have hc:c.size=l.length:=by rw[hl,←h];simp
   simp[Hp.B4,Hp.wr,apl,hb,hf.1]
   omega
  ·cases h
 ·cases h
theorem LZ{H:Hp}{b:Nat}{l l':List Value}(h:JT (H.own b) (H.B4 b)=some l')(hl:l.length=l'.length):JT ((H.wr b l).own b) ((H.wr b l).B4 b)=some l:=by
 rcases Gs h with h|h
 ·exact NY (ai h)
 ·exact NX (LY h hl)
theorem rM{H:Hp}{b:Nat}{l l':List Value}(h:H.own b=some l'):(H.wr b l).rd b=some l:=ae (ai h)
theorem li{H:Hp}{b:Nat}{es:List MapEntry}{k:Nat}{x:List MapEntry×Nat}(h:H.mp b=some x):(H.Du b es k).mp b=some (es,k):=by
 have:=O1 h
 simp[Hp.mp,Hp.Du,this]
structure ag(S:Nat→Prop)(H H':Hp):Prop where
 size:H.size≤H'.size
 aM:∀b,b<H.size→¬S b→H'[b]? =H[b]?
theorem ag.refl(S:Nat→Prop)(H:Hp):ag S H H:=⟨aou _,fun _ _ _=>rfl⟩
theorem ag.mono{S S':Nat→Prop}{H H':Hp}(h:ag S H H')(hs:∀b,b<H.size→S b→S' b):ag S' H H':=
 ⟨h.size,fun b hb hn=>h.aM b hb fun s=>hn (hs b hb s)⟩
theorem ag.trans{S:Nat→Prop}{A B C:Hp}(h:ag S A B)(k:ag S B C):ag S A C:=
 ⟨apa h.size k.size,fun b hb hn=>(k.aM b (aoG hb h.size) hn).trans (h.aM b hb hn)⟩
theorem ag.nq{S S':Nat→Prop}{A B C:Hp}(h:ag S A B)(k:ag S' B C)(hs:∀b,b<A.size→S' b→S b):ag S A C:=
 ⟨apa h.size k.size,fun b hb hn=>(k.aM b (aoG hb h.size) fun s=>hn (hs b hb s)).trans (h.aM b hb hn)⟩
theorem ag.wr{S:Nat→Prop}{A H:Hp}(h:ag S A H){b:Nat}(hb:b<A.size→S b)(l:List Value):ag S A (H.wr b l):=
 ⟨by rw[eo];exact h.size,fun c hc hn=>(vO H l fun e=>hn (by subst e;exact hb hc)).trans (h.aM c hc hn)⟩
theorem ag.Du{S:Nat→Prop}{A H:Hp}(h:ag S A H){b:Nat}(hb:b<A.size→S b)(es:List MapEntry)(k:Nat):ag S A (H.Du b es k):=
 ⟨by rw[K5];exact h.size,fun c hc hn=>(si H es k fun e=>hn (by subst e;exact hb hc)).trans (h.aM c hc hn)⟩
theorem ag.new{S:Nat→Prop}{A H:Hp}(h:ag S A H)(T:TypeId)(l:List Value):ag S A (H.new T l):=
 ⟨by rw[ap];exact Nat.le_succ_of_le h.size,fun c hc hn=>(sj H T l (aoG hc h.size)).trans (h.aM c hc hn)⟩
theorem ag.ij{S:Nat→Prop}{A H:Hp}(h:ag S A H):ag S A H.ij:=
 ⟨by rw[iB];exact Nat.le_succ_of_le h.size,fun c hc hn=>(oD H (aoG hc h.size)).trans (h.aM c hc hn)⟩
theorem ag.rd{S:Nat→Prop}{H H':Hp}(h:ag S H H'){b:Nat}{l:List Value}(hb:H.rd b=some l)(hn:¬S b):H'.rd b=some l:=
 (vf (h.aM b (O4 hb) hn)).trans hb
theorem ag.own{S:Nat→Prop}{H H':Hp}(h:ag S H H'){b:Nat}{l:List Value}(hb:H.own b=some l)(hn:¬S b):H'.own b=some l:=
 (qG (h.aM b (aB hb) hn)).trans hb
theorem ag.mp{S:Nat→Prop}{H H':Hp}(h:ag S H H'){b:Nat}{x:List MapEntry×Nat}(hb:H.mp b=some x)(hn:¬S b):H'.mp b=some x:=
 (vg (h.aM b (O1 hb) hn)).trans hb
def ah(H H':Hp):Prop:=ag (fun _=>False) H H'
def bk(l:List Value)(off:Nat):List Value→List Value
 | []=>l
 |v::vs=>bk (l.set off v) (off+1) vs
@[go_sem] theorem X6(l:List Value)(off:Nat):bk l off []=l:=(rfl)
@[go_sem] theorem oE(l:List Value)(off:Nat)(v:Value)(vs:List Value):bk l off (v::vs)=bk (l.set off v) (off+1) vs:=(rfl)
theorem kq(vs:List Value):∀ (l:List Value) (off:Nat),(bk l off vs).length=l.length:=by
 induction vs with
 |nil=>intro l off;rfl
 |cons v vs ih=>intro l off;rw[oE,ih];simp
theorem getElem?_splice(vs:List Value):∀ (l:List Value) (off j:Nat),off+vs.length≤l.length→
  (bk l off vs)[j]? =if off≤j∧j<off+vs.length then vs[j - off]? else l[j]? :=by
 induction vs with
 |nil=>intro l off j _;rw[if_neg (by simp only[apk];omega)];rfl
 |cons v vs ih=>
  intro l off j h
  simp only[aoC]at h
  rw[oE,ih _ _ _ (by simp;omega)]
  by_cases h1:off+1≤j∧j<off+1+vs.length
  ·rw[if_pos h1,if_pos ⟨by omega,by simp;omega⟩,show j - off=(j - (off+1))+1 by omega,apf]
  ·rw[if_neg h1]
   by_cases h2:off=j
   ·subst h2
    rw[if_pos ⟨aou _,by simp⟩,aoo (by omega)]
    simp
   ·rw[aon h2,if_neg (fun hx=>h1 ⟨by omega,by simp at hx;omega⟩)]
def aI:Value→List Value
 | .agg cs=>cs.toList
 |v=>[v]
theorem eI(v:Value):v.cells.toList=aI v:=by cases v<;>rfl
@[go_sem] theorem X7(l:List Value):aI (.agg l.toArray)=l:=(rfl)
@[go_sem] theorem VN(b:Bool):aI (.bool b)=[.bool b]:=(rfl)
@[go_sem] theorem X8(k:IntKind)(n:Int):aI (.int k n)=[.int k n]:=(rfl)
@[go_sem] theorem Tx(s:ByteArray):aI (.string s)=[.string s]:=(rfl)
@[go_sem] theorem SP(a:Option Addr):aI (.pointer a)=[.pointer a]:=(rfl)
@[go_sem] theorem UM(a:Option Addr)(n c:Nat):aI (.slice a n c)=[.slice a n c]:=(rfl)
@[go_sem] theorem X9(r:Option Nat):aI (.map r)=[.map r]:=(rfl)
@[go_sem] theorem UN(t:TypeId)(v:Value):aI (.iface t v)=[.iface t v]:=(rfl)
@[go_sem] theorem QW:aI .nilIface=[.nilIface]:=(rfl)
@[go_sem] theorem SQ:aI .nilFunc=[.nilFunc]:=(rfl)
@[go_sem] theorem VO(f:Fn)(a b:Array Value):aI (.func f a b)=[.func f a b]:=(rfl)
@[go_sem] theorem aci(b:Bool):(Value.bool b).oneCell'=true:=(rfl)
@[go_sem] theorem aew(k:IntKind)(n:Int):(Value.int k n).oneCell'=true:=(rfl)
@[go_sem] theorem Ya(s:ByteArray):(Value.string s).oneCell'=true:=(rfl)
@[go_sem] theorem VP(a:Option Addr):(Value.pointer a).oneCell'=true:=(rfl)
@[go_sem] theorem ZJ(a:Option Addr)(n c:Nat):(Value.slice a n c).oneCell'=true:=(rfl)
@[go_sem] theorem aex(r:Option Nat):(Value.map r).oneCell'=true:=(rfl)
@[go_sem] theorem ZK(t:TypeId)(v:Value):(Value.iface t v).oneCell'=true:=(rfl)
@[go_sem] theorem UO:Value.nilIface.oneCell'=true:=(rfl)
@[go_sem] theorem VQ:Value.nilFunc.oneCell'=true:=(rfl)
@[go_sem] theorem acj(f:Fn)(a b:Array Value):(Value.func f a b).oneCell'=true:=(rfl)
def sk:List Value→Bool
 | []=>true
 |v::l=>v.oneCell' && sk l
@[go_sem] theorem VR:sk []=true:=(rfl)
@[go_sem] theorem UP(v:Value)(l:List Value):sk (v::l)=(v.oneCell' && sk l):=(rfl)
def gJ(l:List Value):Prop:=∀v∈l,v.oneCell'=true
@[go_sem] theorem Yb:gJ []=True:=by simp[gJ]
@[go_sem] theorem VS(v:Value)(l:List Value):gJ (v::l)=(v.oneCell'=true∧gJ l):=by simp[gJ]
theorem Qv{l:List Value}(h:sk l=true):gJ l:=by
 induction l with
 |nil=>intro v hv;cases hv
 |cons x l ih=>
  simp only[sk,ao6]at h
  intro v hv
  rcases aos.1 hv with rfl|hv
  ·exact h.1
  ·exact ih h.2 v hv
theorem ny{w:World}{a:Addr}{l:List Value}(hs:a.spot=none)(h:Hp.rd w.heap a.block=some l):w.cell? a=l[a.off]? :=by
 unfold Hp.rd at h
 unfold World.cell?
 split at h
 ·rename_i c t fr hb
  injection h with h
  rw[hb]
  simp[hs,←h]
 ·cases h
theorem Fs{a:Addr}(hs:a.spot=none)(n:Nat):a.add n=⟨a.block,a.off+n,none⟩:=by
 unfold Addr.add
 split
 ·rename_i h;subst h;cases a;simp_all
 ·rfl
@[go_sem] theorem zv(b o n:Nat):(⟨b,o,none⟩:Addr).add n=⟨b,o+n,none⟩:=Fs rfl n
theorem qH{P:Program}{w:World}{a:Addr}{l:List Value}{n:Nat}(hs:a.spot=none)(h:Hp.rd w.heap a.block=some l)(hn:a.off+n≤l.length):
  (loadCells a n).run P w= .ok ((l.drop a.off).take n).toArray w:=by
 have hl:((l.drop a.off).take n).length=n:=by simp;omega
 have h1:=run_loadCells_list (P:=P) w a ((l.drop a.off).take n) fun j v hj=>by
  rw[Fs hs]
  refine(ny (a:=⟨a.block,a.off+j,none⟩) (l:=l) rfl h).trans ?_
  show l[a.off+j]? =some v
  have ZB:j<n:=by
   rcases apz j n with h'|h'
   ·exact h'
   ·rw[aoy (by omega)]at hj;cases hj
  rw[aoN ZB,aoV]at hj
  exact hj
 rw[hl]at h1
 exact h1
theorem heap_setCell(w:World)(b o:Nat)(v:Value){l:List Value}(h:Hp.rd w.heap b=some l):(w.setCell ⟨b,o,none⟩ v).heap=Hp.wr w.heap b (l.set o v):=by
 unfold Hp.rd at h
 split at h
 ·rename_i c t fr hb
  injection h with h
  have aO:b<w.heap.size:=(apc.1 hb).1
  simp only[World.setCell,Hp.wr]
  apply Array.ext_getElem?
  intro i
  rw[apl,apl]
  by_cases hi:b=i
  ·subst hi
   rw[if_pos rfl,if_pos rfl,hb]
   simp[←h]
   exact Array.ext' (by simp)
  ·rw[if_neg hi,if_neg hi]
 ·cases h
theorem xZ{w:World}{b:Nat}{l:List Value}(h:Hp.own w.heap b=some l)(o:Nat):w.frozen? ⟨b,o,none⟩=false:=by
 unfold Hp.own at h
 unfold World.frozen?
 split at h
 ·rename_i c t fr hb
  split at h
  ·rename_i hf;rw[hb];simp[hf]
  ·cases h
 ·cases h
theorem Io{w:World}{b:Nat}{l:List Value}(h:JT (Hp.own w.heap b) (Hp.B4 w.heap b)=some l){o:Nat}(ho:o<l.length):w.frozen? ⟨b,o,none⟩=false:=by
 rcases Gs h with h|h
 ·exact xZ h o
 ·unfold Hp.B4 at h
  unfold World.frozen?
  split at h
  ·rename_i c t fr hb
   split at h
   ·rename_i hf
    injection h with h
    have hc:c.size=l.length:=by rw[←h];simp
    rw[hb]
    simp
    omega
   ·cases h
  ·cases h
@[go_sem] theorem RY{H:Hp}{b:Nat}{l l':List Value}:(H.wr b l).wr b l'=H.wr b l':=by
 unfold Hp.wr
 apply Array.ext_getElem?
 intro i
 rw[apl,apl,apl]
 by_cases hi:b=i
 ·subst hi
  simp only[if_true]
  cases H[b]? with
  |none=>rfl
  |some x=>cases x<;>rfl
 ·simp[hi]
theorem ir{P:Program}{b o:Nat}:∀ (vs:List Value) (i:Nat) (w:World) (l:List Value),JT (Hp.own w.heap b) (Hp.B4 w.heap b)=some l→o+i+vs.length≤l.length→gJ vs→
  ∃w',(storeCells ⟨b,o,none⟩ vs i).run P w= .ok () w'∧cf w w'∧(vs≠[]→w'.heap=Hp.wr w.heap b (bk l (o+i) vs))∧(vs=[]→w'.heap=w.heap):=by
 intro vs
 induction vs with
 |nil=>intro i w l _ _ _;exact⟨w,rfl,cf.refl w,fun h=>absurd rfl h,fun _=>rfl⟩
 |cons v vs ih=>
  intro i w l h hn h1
  have hv:v.oneCell'=true:=h1 v ao4
  simp only[aoC]at hn
  have hc:w.cell? ⟨b,o+i,none⟩=some l[o+i]:=by rw[ny (l:=l) rfl (IW h)];simp[show o+i<l.length by omega]
  have uD:(store ((⟨b,o,none⟩:Addr).add i) v).run P w= .ok () (w.setCell ⟨b,o+i,none⟩ v):=by
   rw[zv,run_store P w _ v .plain hv,hc]
   simp[Io h (show o+i<l.length by omega)]
  have hh:=heap_setCell w b (o+i) v (IW h)
  have Tv:JT (Hp.own (w.setCell ⟨b,o+i,none⟩ v).heap b) (Hp.B4 (w.setCell ⟨b,o+i,none⟩ v).heap b)=some (l.set (o+i) v):=by rw[hh];exact LZ h (by simp)
  obtain⟨w',hr,hs,hk,Zz⟩:=ih (i+1) (w.setCell ⟨b,o+i,none⟩ v) (l.set (o+i) v) Tv (by simp;omega) (fun x hx=>h1 x (aoP _ hx))
  refine⟨w',?_,⟨hs.os,hs.output⟩,fun _=>?_,fun h=>by cases h⟩
  ·simp only[storeCells,Sem.run_bind,uD,Result.andThen_ok]
   exact hr
  ·rw[oE]
   cases vs with
   |nil=>rw[Zz rfl,hh];rfl
   |cons x xs=>rw[hk (by simp),hh,RY];rfl
end Go.Vc
