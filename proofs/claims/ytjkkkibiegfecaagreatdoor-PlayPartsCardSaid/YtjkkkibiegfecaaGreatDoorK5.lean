/- Texts put behind each other. -/
import Derived.Test.YtjkkkibiegfecaaGreatDoorK98
import Derived.Test.YtjkkkibiegfecaaGreatDoorK4
import Derived.Laws.Cells
set_option maxRecDepth 100000
set_option maxHeartbeats 8000000
set_option linter.unusedVariables false
namespace Go.Vc
def aD{α:Type}(o:Option α)(F:α→Prop)(_t:Tag F:=⟨⟩):Prop:=match o with|some v=>F v|none=>False
@[go_sem] theorem yY{α:Type}(v:α)(F:α→Prop):aD (some v) F=F v:=(rfl)
@[go_sem] theorem YA{α:Type}(F:α→Prop):aD none F=False:=(rfl)
theorem aB{α:Type}{o:Option α}{F:α→Prop}(h:aD o F):∃v,o=some v∧F v:=by
 cases o with
 |none=>exact h.elim
 |some v=>exact⟨v,rfl,h⟩
def now{α:Type}(x:α)(F:α→Prop)(_t:Tag F:=⟨⟩):Prop:=F x
@[go_sem] theorem NS{α:Type}(x:α)(F:α→Prop):now x F=F x:=(rfl)
def ar(b:Bool)(F:Bool→Prop)(_t:Tag F:=⟨⟩):Prop:=F b
@[go_sem] theorem ZW(F:Bool→Prop):ar true F=F true:=(rfl)
@[go_sem] theorem YB(F:Bool→Prop):ar false F=F false:=(rfl)
theorem ar.intro{b:Bool}{F:Bool→Prop}(ht:b=true→F true)(hf:b=false→F false):ar b F:=by
 cases b
 ·exact hf rfl
 ·exact ht rfl
theorem ar.dec{p:Prop}[Decidable p]{F:Bool→Prop}(ht:p→F true)(hf:¬p→F false):ar (decide p) F:=by
 by_cases h:p
 ·rw[aov h];exact ht h
 ·rw[aow h];exact hf h
def FW(b:Bool)(A B:Prop)(_ta:Tag A:=⟨⟩)(_tb:Tag B:=⟨⟩):Prop:=match b with|true=>A|false=>B
@[go_sem] theorem Ts(A B:Prop):FW true A B=A:=(rfl)
@[go_sem] theorem ZX(A B:Prop):FW false A B=B:=(rfl)
@[go_sem] theorem ahk:(true==true)=true:=(rfl)
@[go_sem] theorem ahl:(true==false)=false:=(rfl)
@[go_sem] theorem ahm:(false==true)=false:=(rfl)
@[go_sem] theorem ahn:(false==false)=true:=(rfl)
theorem ar.dl{b:Bool}{F:Bool→Prop}(hb:b=true)(h:F true):ar b F:=by subst hb;exact h
theorem ar.be{b:Bool}{F:Bool→Prop}(hb:b=false)(h:F false):ar b F:=by subst hb;exact h
def eo(c:Prop)(F:Prop)(_t:Tag F:=⟨⟩):Prop:=c∧F
@[go_sem] theorem ZY(F:Prop):eo True F=F:=by simp[eo]
@[go_sem] theorem aeh{α:Sort _}(a:α)(F:Prop):eo (a=a) F=F:=by simp[eo]
def ap(p:Prop)(_t:Tag p:=⟨⟩):Prop:=p
theorem ap.out{p:Prop}(h:ap p):p:=h
def AK(v:Value)(F:Bool→Prop)(_t:Tag F:=⟨⟩):Prop:=match v with| .bool b=>ar b F|_=>False
@[go_sem] theorem YC(b:Bool)(F:Bool→Prop):AK (.bool b) F=ar b F:=(rfl)
def Hp.rd(H:Hp)(b:Nat):Option (List Value):=match H[b]? with|some (.cells c _ _)=>some c.toList|_=>none
def Hp.own(H:Hp)(b:Nat):Option (List Value):=match H[b]? with|some (.cells c _ fr)=>if fr=(0,0)then some c.toList else none|_=>none
def Hp.Az(H:Hp)(b:Nat):Option (List Value):=match H[b]? with|some (.cells c _ fr)=>if fr.2=fr.1+1∧c.size≤fr.1 then some c.toList else none|_=>none
def Ie{α:Type}(x y:Option α):Option α:=match x with|some v=>some v|none=>y
@[go_sem] theorem TV{α:Type}(v:α)(y:Option α):Ie (some v) y=some v:=(rfl)
@[go_sem] theorem TW{α:Type}(y:Option α):Ie none y=y:=(rfl)
def Hp.wr(H:Hp)(b:Nat)(l:List Value):Hp:=H.modify b fun| .cells _ t fr=>.cells l.toArray t fr|o=>o
def Hp.mp(H:Hp)(b:Nat):Option (List MapEntry×Nat):=match H[b]? with|some (.map es k)=>some (es.toList,k)|_=>none
def Hp.Eo(H:Hp)(b:Nat)(es:List MapEntry)(k:Nat):Hp:=H.setIfInBounds b (.map es.toArray k)
def Hp.new(H:Hp)(T:TypeId)(l:List Value):Hp:=H.push (.cells l.toArray T)
def Hp.NA(H:Hp)(T:TypeId)(l:List Value):Hp:=H.push (.cells l.toArray T (l.length,l.length+1))
def Hp.js(H:Hp):Hp:=H.push (.map #[] 0)
theorem ae{H:Hp}{b:Nat}{l:List Value}(h:H.own b=some l):H.rd b=some l:=by
 unfold Hp.own at h
 unfold Hp.rd
 grind
theorem aE{H:Hp}{b:Nat}{l:List Value}(h:H.own b=some l):b<H.size:=by
 rcases ao3 b H.size with h'|h'
 ·exact h'
 ·simp[Hp.own,apf h']at h
theorem PE{H:Hp}{b:Nat}{l:List Value}(h:H.rd b=some l):b<H.size:=by
 rcases ao3 b H.size with h'|h'
 ·exact h'
 ·simp[Hp.rd,apf h']at h
theorem Sh{H:Hp}{b:Nat}{x:List MapEntry×Nat}(h:H.mp b=some x):b<H.size:=by
 rcases ao3 b H.size with h'|h'
 ·exact h'
 ·simp[Hp.mp,apf h']at h
theorem RA{H:Hp}{b:Nat}{l:List Value}(h:H.Az b=some l):H.rd b=some l:=by
 unfold Hp.Az at h
 unfold Hp.rd
 grind
theorem Pm{H:Hp}{b:Nat}{l:List Value}(h:H.Az b=some l):H.own b=none:=by
 unfold Hp.Az at h
 unfold Hp.own
 split at h
 ·grind
 rfl
theorem HJ{H:Hp}{b:Nat}{l:List Value}(h:Ie (H.own b) (H.Az b)=some l):H.own b=some l∨H.Az b=some l:=by
 cases ho:H.own b with
 |none=>rw[ho,TW]at h;grind
 |some x=>rw[ho,TV]at h;grind
theorem JX{H:Hp}{b:Nat}{l:List Value}(h:Ie (H.own b) (H.Az b)=some l):H.rd b=some l:=by
 rcases HJ h with h|h
 ·exact ae h
 ·exact RA h
theorem Pn{H:Hp}{b:Nat}{l:List Value}(h:H.Az b=some l):Ie (H.own b) (H.Az b)=some l:=by rw[Pm h,h];rfl
theorem GK{H:Hp}{b:Nat}{l:List Value}(h:H.own b=some l):Ie (H.own b) (H.Az b)=some l:=by rw[h];rfl
@[go_sem] theorem eR(H:Hp)(b:Nat)(l:List Value):(H.wr b l).size=H.size:=by simp[Hp.wr]
@[go_sem] theorem Mq(H:Hp)(b:Nat)(es:List MapEntry)(k:Nat):(H.Eo b es k).size=H.size:=by simp[Hp.Eo]
@[go_sem] theorem ak(H:Hp)(T:TypeId)(l:List Value):(H.new T l).size=H.size+1:=by simp[Hp.new]
@[go_sem] theorem kS(H:Hp):H.js.size=H.size+1:=by simp[Hp.js]
@[go_sem] theorem Ql(H:Hp)(T:TypeId)(l:List Value):(H.NA T l).size=H.size+1:=by simp[Hp.NA]
theorem LL(H:Hp){c:Nat}(T:TypeId)(l:List Value)(h:c<H.size):(H.NA T l)[c]? =H[c]? :=by simp[Hp.NA,Array.getElem?_push,show c≠H.size by omega]
theorem nK(H:Hp){b c:Nat}(l:List Value)(h:b≠c):(H.wr b l)[c]? =H[c]? :=by simp[Hp.wr,ao4,h]
theorem tj(H:Hp){b c:Nat}(es:List MapEntry)(k:Nat)(h:b≠c):(H.Eo b es k)[c]? =H[c]? :=by simp[Hp.Eo,Array.getElem?_setIfInBounds_ne h]
theorem oD(H:Hp){c:Nat}(T:TypeId)(l:List Value)(h:c<H.size):(H.new T l)[c]? =H[c]? :=by simp[Hp.new,Array.getElem?_push,show c≠H.size by omega]
theorem pK(H:Hp){c:Nat}(h:c<H.size):H.js[c]? =H[c]? :=by simp[Hp.js,Array.getElem?_push,show c≠H.size by omega]
theorem wC{H H':Hp}{b:Nat}(h:H'[b]? =H[b]?):H'.rd b=H.rd b:=by unfold Hp.rd;rw[h]
theorem rP{H H':Hp}{b:Nat}(h:H'[b]? =H[b]?):H'.own b=H.own b:=by unfold Hp.own;rw[h]
theorem wD{H H':Hp}{b:Nat}(h:H'[b]? =H[b]?):H'.mp b=H.mp b:=by unfold Hp.mp;rw[h]
theorem Sm{H:Hp}{b c:Nat}{l:List Value}(h:b≠c):(H.wr b l).rd c=H.rd c:=wC (nK H l h)
theorem fH{H:Hp}{b c:Nat}{l:List Value}(h:b≠c):(H.wr b l).own c=H.own c:=rP (nK H l h)
theorem So{H:Hp}{b c:Nat}{l:List Value}(h:b≠c):(H.wr b l).mp c=H.mp c:=wD (nK H l h)
theorem QD{H:Hp}{b c:Nat}{es:List MapEntry}{k:Nat}(h:b≠c):(H.Eo b es k).rd c=H.rd c:=wC (tj H es k h)
theorem Oi{H:Hp}{b c:Nat}{es:List MapEntry}{k:Nat}(h:b≠c):(H.Eo b es k).own c=H.own c:=rP (tj H es k h)
theorem QE{H:Hp}{b c:Nat}{es:List MapEntry}{k:Nat}(h:b≠c):(H.Eo b es k).mp c=H.mp c:=wD (tj H es k h)
theorem QF{H:Hp}{c:Nat}{T:TypeId}{l:List Value}(h:c<H.size):(H.new T l).rd c=H.rd c:=wC (oD H T l h)
theorem bm{H:Hp}{c:Nat}{T:TypeId}{l:List Value}(h:c<H.size):(H.new T l).own c=H.own c:=rP (oD H T l h)
theorem QG{H:Hp}{c:Nat}{T:TypeId}{l:List Value}(h:c<H.size):(H.new T l).mp c=H.mp c:=wD (oD H T l h)
theorem Oj{H:Hp}{c:Nat}(h:c<H.size):H.js.rd c=H.rd c:=wC (pK H h)
theorem Mr{H:Hp}{c:Nat}(h:c<H.size):H.js.own c=H.own c:=rP (pK H h)
theorem Ok{H:Hp}{c:Nat}(h:c<H.size):H.js.mp c=H.mp c:=wD (pK H h)
@[go_sem] theorem aA(H:Hp)(T:TypeId)(l:List Value):(H.new T l).own H.size=some l:=by simp[Hp.own,Hp.new]
@[go_sem] theorem YD(H:Hp)(T:TypeId)(l:List Value):(H.new T l).rd H.size=some l:=by simp[Hp.rd,Hp.new]
@[go_sem] theorem PF(H:Hp):H.js.mp H.size=some ([],0):=by simp[Hp.mp,Hp.js]
theorem QH{H:Hp}{c:Nat}{T:TypeId}{l:List Value}(h:c=H.size):(H.new T l).rd c=some l:=by subst h;exact YD H T l
theorem aR{H:Hp}{c:Nat}{T:TypeId}{l:List Value}(h:c=H.size):(H.new T l).own c=some l:=by subst h;exact aA H T l
theorem Ol{H:Hp}{c:Nat}(h:c=H.size):H.js.mp c=some ([],0):=by subst h;exact PF H
theorem af{H:Hp}{b:Nat}{l l':List Value}(h:H.own b=some l'):(H.wr b l).own b=some l:=by
 unfold Hp.own at h
 split at h
 ·rename_i c t fr hb
  split at h
  ·rename_i hf
   simp[Hp.own,Hp.wr,ao4,hb,hf]
  grind
 grind
theorem Na{H:Hp}{b:Nat}{l l':List Value}(h:H.Az b=some l')(hl:l.length=l'.length):(H.wr b l).Az b=some l:=by
 unfold Hp.Az at h
 split at h
 ·rename_i c t fr hb
  split at h
  ·rename_i hf
   injection h with h
   have hc:c.size=l.length:=by rw[hl,←h];simp
   simp[Hp.Az,Hp.wr,ao4,hb,hf.1]
   omega
  grind
 grind
theorem Nb{H:Hp}{b:Nat}{l l':List Value}(h:Ie (H.own b) (H.Az b)=some l')(hl:l.length=l'.length):Ie ((H.wr b l).own b) ((H.wr b l).Az b)=some l:=by
 rcases HJ h with h|h
 ·exact GK (af h)
 ·exact Pn (Na h hl)
theorem sN{H:Hp}{b:Nat}{l l':List Value}(h:H.own b=some l'):(H.wr b l).rd b=some l:=ae (af h)
theorem pq{H:Hp}{b:Nat}{es:List MapEntry}{k:Nat}{x:List MapEntry×Nat}(h:H.mp b=some x):(H.Eo b es k).mp b=some (es,k):=by
 have:=Sh h
 simp[Hp.mp,Hp.Eo,this]
structure ah(S:Nat→Prop)(H H':Hp):Prop where
 size:H.size≤H'.size
 aO:∀b,b<H.size→¬S b→H'[b]? =H[b]?
theorem ah.refl(S:Nat→Prop)(H:Hp):ah S H H:=⟨aox _,fun _ _ _=>rfl⟩
theorem ah.mono{S S':Nat→Prop}{H H':Hp}(h:ah S H H')(hs:∀b,b<H.size→S b→S' b):ah S' H H':=
 ⟨h.size,fun b hb hn=>h.aO b hb (by grind)⟩
theorem ah.trans{S:Nat→Prop}{A B C:Hp}(h:ah S A B)(k:ah S B C):ah S A C:=
 ⟨aoK h.size k.size,fun b hb hn=>(k.aO b (aoz hb h.size) hn).trans (h.aO b hb hn)⟩
theorem ah.oz{S S':Nat→Prop}{A B C:Hp}(h:ah S A B)(k:ah S' B C)(hs:∀b,b<A.size→S' b→S b):ah S A C:=
 ⟨aoK h.size k.size,fun b hb hn=>(k.aO b (aoz hb h.size) (by grind)).trans (h.aO b hb hn)⟩
theorem ah.wr{S:Nat→Prop}{A H:Hp}(h:ah S A H){b:Nat}(hb:b<A.size→S b)(l:List Value):ah S A (H.wr b l):=
 ⟨by rw[eR];exact h.size,fun c hc hn=>(nK H l (by grind)).trans (h.aO c hc hn)⟩
theorem ah.Eo{S:Nat→Prop}{A H:Hp}(h:ah S A H){b:Nat}(hb:b<A.size→S b)(es:List MapEntry)(k:Nat):ah S A (H.Eo b es k):=
 ⟨by rw[Mq];exact h.size,fun c hc hn=>(tj H es k (by grind)).trans (h.aO c hc hn)⟩
theorem ah.new{S:Nat→Prop}{A H:Hp}(h:ah S A H)(T:TypeId)(l:List Value):ah S A (H.new T l):=
 ⟨by rw[ak];exact Nat.le_succ_of_le h.size,fun c hc hn=>(oD H T l (aoz hc h.size)).trans (h.aO c hc hn)⟩
theorem ah.js{S:Nat→Prop}{A H:Hp}(h:ah S A H):ah S A H.js:=
 ⟨by rw[kS];exact Nat.le_succ_of_le h.size,fun c hc hn=>(pK H (aoz hc h.size)).trans (h.aO c hc hn)⟩
theorem ah.rd{S:Nat→Prop}{H H':Hp}(h:ah S H H'){b:Nat}{l:List Value}(hb:H.rd b=some l)(hn:¬S b):H'.rd b=some l:=
 (wC (h.aO b (PE hb) hn)).trans hb
theorem ah.own{S:Nat→Prop}{H H':Hp}(h:ah S H H'){b:Nat}{l:List Value}(hb:H.own b=some l)(hn:¬S b):H'.own b=some l:=
 (rP (h.aO b (aE hb) hn)).trans hb
theorem ah.mp{S:Nat→Prop}{H H':Hp}(h:ah S H H'){b:Nat}{x:List MapEntry×Nat}(hb:H.mp b=some x)(hn:¬S b):H'.mp b=some x:=
 (wD (h.aO b (Sh hb) hn)).trans hb
def ai(H H':Hp):Prop:=ah (fun _=>False) H H'
def aX(l:List Value)(off:Nat):List Value→List Value
 | []=>l
 |v::vs=>aX (l.set off v) (off+1) vs
@[go_sem] theorem YE(l:List Value)(off:Nat):aX l off []=l:=(rfl)
@[go_sem] theorem pL(l:List Value)(off:Nat)(v:Value)(vs:List Value):aX l off (v::vs)=aX (l.set off v) (off+1) vs:=(rfl)
theorem gZ(vs:List Value):∀ (l:List Value) (off:Nat),(aX l off vs).length=l.length:=by
 induction vs with
 |nil=>intro l off;rfl
 |cons v vs ih=>intro l off;rw[pL,ih];simp
theorem getElem?_splice(vs:List Value):∀ (l:List Value) (off j:Nat),off+vs.length≤l.length→
  (aX l off vs)[j]? =if off≤j∧j<off+vs.length then vs[j - off]? else l[j]? :=by
 induction vs with
 |nil=>grind [aX]
 |cons v vs ih=>
  grind [pL]
def aI:Value→List Value
 | .agg cs=>cs.toList
 |v=>[v]
theorem eY(v:Value):v.cells.toList=aI v:=by cases v<;>rfl
@[go_sem] theorem YF(l:List Value):aI (.agg l.toArray)=l:=(rfl)
@[go_sem] theorem WH(b:Bool):aI (.bool b)=[.bool b]:=(rfl)
@[go_sem] theorem YG(k:IntKind)(n:Int):aI (.int k n)=[.int k n]:=(rfl)
@[go_sem] theorem Uv(s:ByteArray):aI (.string s)=[.string s]:=(rfl)
@[go_sem] theorem TY(a:Option Addr):aI (.pointer a)=[.pointer a]:=(rfl)
@[go_sem] theorem VL(a:Option Addr)(n c:Nat):aI (.slice a n c)=[.slice a n c]:=(rfl)
@[go_sem] theorem YH(r:Option Nat):aI (.map r)=[.map r]:=(rfl)
@[go_sem] theorem VM(t:TypeId)(v:Value):aI (.iface t v)=[.iface t v]:=(rfl)
@[go_sem] theorem RS:aI .nilIface=[.nilIface]:=(rfl)
@[go_sem] theorem TZ:aI .nilFunc=[.nilFunc]:=(rfl)
@[go_sem] theorem WI(f:Fn)(a b:Array Value):aI (.func f a b)=[.func f a b]:=(rfl)
@[go_sem] theorem acu(b:Bool):(Value.bool b).oneCell'=true:=(rfl)
@[go_sem] theorem aei(k:IntKind)(n:Int):(Value.int k n).oneCell'=true:=(rfl)
@[go_sem] theorem YI(s:ByteArray):(Value.string s).oneCell'=true:=(rfl)
@[go_sem] theorem WJ(a:Option Addr):(Value.pointer a).oneCell'=true:=(rfl)
@[go_sem] theorem ZZ(a:Option Addr)(n c:Nat):(Value.slice a n c).oneCell'=true:=(rfl)
@[go_sem] theorem aej(r:Option Nat):(Value.map r).oneCell'=true:=(rfl)
@[go_sem] theorem Z0(t:TypeId)(v:Value):(Value.iface t v).oneCell'=true:=(rfl)
@[go_sem] theorem VN:Value.nilIface.oneCell'=true:=(rfl)
@[go_sem] theorem WK:Value.nilFunc.oneCell'=true:=(rfl)
@[go_sem] theorem acv(f:Fn)(a b:Array Value):(Value.func f a b).oneCell'=true:=(rfl)
def tm:List Value→Bool
 | []=>true
 |v::l=>v.oneCell' && tm l
@[go_sem] theorem WL:tm []=true:=(rfl)
@[go_sem] theorem VO(v:Value)(l:List Value):tm (v::l)=(v.oneCell' && tm l):=(rfl)
def fK(l:List Value):Prop:=∀v∈l,v.oneCell'=true
@[go_sem] theorem YJ:fK []=True:=by simp[fK]
@[go_sem] theorem WM(v:Value)(l:List Value):fK (v::l)=(v.oneCell'=true∧fK l):=by simp[fK]
theorem RB{l:List Value}(h:tm l=true):fK l:=by
 induction l with
 |nil=>intro v hv;cases hv
 |cons x l ih=>
  simp only[tm,aoW]at h
  intro v hv
  rcases aoR.1 hv with rfl|hv
  ·exact h.1
  ·exact ih h.2 v hv
theorem oC{w:World}{a:Addr}{l:List Value}(hs:a.spot=none)(h:Hp.rd w.heap a.block=some l):w.cell? a=l[a.off]? :=by
 unfold Hp.rd at h
 unfold World.cell?
 grind
theorem GG{a:Addr}(hs:a.spot=none)(n:Nat):a.add n=⟨a.block,a.off+n,none⟩:=by
 unfold Addr.add
 split
 ·rename_i h;subst h;cases a;simp_all
 ·rfl
@[go_sem] theorem yT(b o n:Nat):(⟨b,o,none⟩:Addr).add n=⟨b,o+n,none⟩:=GG rfl n
theorem qw{P:Program}{w:World}{a:Addr}{l:List Value}{n:Nat}(hs:a.spot=none)(h:Hp.rd w.heap a.block=some l)(hn:a.off+n≤l.length):
  (loadCells a n).run P w= .ok ((l.drop a.off).take n).toArray w:=by
 have hl:((l.drop a.off).take n).length=n:=by simp;omega
 have h1:=run_loadCells_list (P:=P) w a ((l.drop a.off).take n) fun j v hj=>by
  rw[GG hs]
  refine(oC (a:=⟨a.block,a.off+j,none⟩) (l:=l) rfl h).trans ?_
  grind
 grind
theorem heap_setCell(w:World)(b o:Nat)(v:Value){l:List Value}(h:Hp.rd w.heap b=some l):(w.setCell ⟨b,o,none⟩ v).heap=Hp.wr w.heap b (l.set o v):=by
 unfold Hp.rd at h
 split at h
 ·rename_i c t fr hb
  injection h with h
  have bf:b<w.heap.size:=by grind
  simp only[World.setCell,Hp.wr]
  apply Array.ext_getElem?
  intro i
  rw[ao4,ao4]
  by_cases hi:b=i
  ·subst hi
   rw[if_pos rfl,if_pos rfl,hb]
   simp[←h]
   grind
  grind
 grind
theorem Jl{w:World}{b:Nat}{l:List Value}(h:Hp.own w.heap b=some l)(o:Nat):w.frozen? ⟨b,o,none⟩=false:=by
 unfold Hp.own at h
 unfold World.frozen?
 grind
theorem Jm{w:World}{b:Nat}{l:List Value}(h:Ie (Hp.own w.heap b) (Hp.Az w.heap b)=some l){o:Nat}(ho:o<l.length):w.frozen? ⟨b,o,none⟩=false:=by
 rcases HJ h with h|h
 ·exact Jl h o
 ·unfold Hp.Az at h
  unfold World.frozen?
  grind
@[go_sem] theorem MU{H:Hp}{b:Nat}{l l':List Value}:(H.wr b l).wr b l'=H.wr b l':=by
 unfold Hp.wr
 grind
theorem iB{P:Program}{b o:Nat}:∀ (vs:List Value) (i:Nat) (w:World) (l:List Value),Ie (Hp.own w.heap b) (Hp.Az w.heap b)=some l→o+i+vs.length≤l.length→fK vs→
  ∃w',(storeCells ⟨b,o,none⟩ vs i).run P w= .ok () w'∧cz w w'∧(vs≠[]→w'.heap=Hp.wr w.heap b (aX l (o+i) vs))∧(vs=[]→w'.heap=w.heap):=by
 intro vs
 induction vs with
 |nil=>intro i w l _ _ _;exact⟨w,rfl,cz.refl w,fun h=>absurd rfl h,fun _=>rfl⟩
 |cons v vs ih=>
  intro i w l h hn h1
  have hv:v.oneCell'=true:=h1 v aoQ
  simp only[aop]at hn
  have hc:w.cell? ⟨b,o+i,none⟩=some l[o+i]:=by rw[oC (l:=l) rfl (JX h)];simp[show o+i<l.length by omega]
  have yQ:(store ((⟨b,o,none⟩:Addr).add i) v).run P w= .ok () (w.setCell ⟨b,o+i,none⟩ v):=by
   rw[yT,run_store P w _ v .plain hv,hc]
   simp[Jm h (show o+i<l.length by omega)]
  have hh:=heap_setCell w b (o+i) v (JX h)
  have how:Ie (Hp.own (w.setCell ⟨b,o+i,none⟩ v).heap b) (Hp.Az (w.setCell ⟨b,o+i,none⟩ v).heap b)=some (l.set (o+i) v):=by rw[hh];exact Nb h (by simp)
  obtain⟨w',hr,hs,hk,hk0⟩:=ih (i+1) (w.setCell ⟨b,o+i,none⟩ v) (l.set (o+i) v) how (by grind) (fun x hx=>h1 x (by grind))
  refine⟨w',?_,⟨hs.os,hs.output⟩,fun _=>?_,fun h=>by cases h⟩
  ·simp only[storeCells,Sem.run_bind,yQ,Result.andThen_ok]
   exact hr
  ·rw[pL]
   cases vs with
   |nil=>rw[hk0 rfl,hh];rfl
   |cons x xs=>rw[hk (by simp),hh,MU];rfl
end Go.Vc
