/- Texts put behind each other. -/
import Derived.Test.YtjlnnljohemifaaGreatK98
import Derived.Test.YtjlnnljohemifaaGreatK2
import Derived.Laws.Cells
set_option linter.unusedVariables false
namespace Go.Vc
def aF{α:Type}(o:Option α)(F:α→Prop)(_t:Tag F:=⟨⟩):Prop:=match o with|some v=>F v|none=>False
@[go_sem] theorem qN{α:Type}(v:α)(F:α→Prop):aF (some v) F=F v:=(rfl)
@[go_sem] theorem Yb{α:Type}(F:α→Prop):aF none F=False:=(rfl)
theorem aC{α:Type}{o:Option α}{F:α→Prop}(h:aF o F):∃v,o=some v∧F v:=by
 cases o with
 |none=>exact h.elim
 |some v=>exact⟨v,rfl,h⟩
def now{α:Type}(x:α)(F:α→Prop)(_t:Tag F:=⟨⟩):Prop:=F x
@[go_sem] theorem ON{α:Type}(x:α)(F:α→Prop):now x F=F x:=(rfl)
def am(b:Bool)(F:Bool→Prop)(_t:Tag F:=⟨⟩):Prop:=F b
@[go_sem] theorem ZF(F:Bool→Prop):am true F=F true:=(rfl)
@[go_sem] theorem Yc(F:Bool→Prop):am false F=F false:=(rfl)
theorem am.intro{b:Bool}{F:Bool→Prop}(ht:b=true→F true)(hf:b=false→F false):am b F:=by
 cases b
 ·exact hf rfl
 ·exact ht rfl
theorem am.dec{p:Prop}[Decidable p]{F:Bool→Prop}(ht:p→F true)(hf:¬p→F false):am (decide p) F:=by
 by_cases h:p
 ·rw[anQ h];exact ht h
 ·rw[anU h];exact hf h
def HQ(b:Bool)(A B:Prop)(_ta:Tag A:=⟨⟩)(_tb:Tag B:=⟨⟩):Prop:=match b with|true=>A|false=>B
@[go_sem] theorem Tp(A B:Prop):HQ true A B=A:=(rfl)
@[go_sem] theorem ZG(A B:Prop):HQ false A B=B:=(rfl)
@[go_sem] theorem agT:(true==true)=true:=(rfl)
@[go_sem] theorem agU:(true==false)=false:=(rfl)
@[go_sem] theorem agV:(false==true)=false:=(rfl)
@[go_sem] theorem agW:(false==false)=true:=(rfl)
theorem am.cF{b:Bool}{F:Bool→Prop}(hb:b=true)(h:F true):am b F:=by subst hb;exact h
theorem am.aW{b:Bool}{F:Bool→Prop}(hb:b=false)(h:F false):am b F:=by subst hb;exact h
def eB(c:Prop)(F:Prop)(_t:Tag F:=⟨⟩):Prop:=c∧F
@[go_sem] theorem ZH(F:Prop):eB True F=F:=by simp[eB]
@[go_sem] theorem aef{α:Sort _}(a:α)(F:Prop):eB (a=a) F=F:=by simp[eB]
def ay(p:Prop)(_t:Tag p:=⟨⟩):Prop:=p
theorem ay.out{p:Prop}(h:ay p):p:=h
def Dg(v:Value)(F:Bool→Prop)(_t:Tag F:=⟨⟩):Prop:=match v with| .bool b=>am b F|_=>False
@[go_sem] theorem Yd(b:Bool)(F:Bool→Prop):Dg (.bool b) F=am b F:=(rfl)
def Hp.rd(H:Hp)(b:Nat):Option (List Value):=match H[b]? with|some (.cells c _ _)=>some c.toList|_=>none
def Hp.own(H:Hp)(b:Nat):Option (List Value):=match H[b]? with|some (.cells c _ fr)=>if fr=(0,0)then some c.toList else none|_=>none
def Hp.Du(H:Hp)(b:Nat):Option (List Value):=match H[b]? with|some (.cells c _ fr)=>if fr.2=fr.1+1∧c.size≤fr.1 then some c.toList else none|_=>none
def KZ{α:Type}(x y:Option α):Option α:=match x with|some v=>some v|none=>y
@[go_sem] theorem TF{α:Type}(v:α)(y:Option α):KZ (some v) y=some v:=(rfl)
@[go_sem] theorem TG{α:Type}(y:Option α):KZ none y=y:=(rfl)
def Hp.wr(H:Hp)(b:Nat)(l:List Value):Hp:=H.modify b fun| .cells _ t fr=>.cells l.toArray t fr|o=>o
def Hp.mp(H:Hp)(b:Nat):Option (List MapEntry×Nat):=match H[b]? with|some (.map es k)=>some (es.toList,k)|_=>none
def Hp.EW(H:Hp)(b:Nat)(es:List MapEntry)(k:Nat):Hp:=H.setIfInBounds b (.map es.toArray k)
def Hp.new(H:Hp)(T:TypeId)(l:List Value):Hp:=H.push (.cells l.toArray T)
def Hp.OO(H:Hp)(T:TypeId)(l:List Value):Hp:=H.push (.cells l.toArray T (l.length,l.length+1))
def Hp.fX(H:Hp):Hp:=H.push (.map #[] 0)
theorem ae{H:Hp}{b:Nat}{l:List Value}(h:H.own b=some l):H.rd b=some l:=by
 unfold Hp.own at h
 unfold Hp.rd
 split at h
 ·rename_i c t fr hb
  split at h
  ·simpa using h
  ·cases h
 ·cases h
theorem aG{H:Hp}{b:Nat}{l:List Value}(h:H.own b=some l):b<H.size:=by
 rcases aoN b H.size with h'|h'
 ·exact h'
 ·simp[Hp.own,aoS h']at h
theorem PP{H:Hp}{b:Nat}{l:List Value}(h:H.rd b=some l):b<H.size:=by
 rcases aoN b H.size with h'|h'
 ·exact h'
 ·simp[Hp.rd,aoS h']at h
theorem PM{H:Hp}{b:Nat}{x:List MapEntry×Nat}(h:H.mp b=some x):b<H.size:=by
 rcases aoN b H.size with h'|h'
 ·exact h'
 ·simp[Hp.mp,aoS h']at h
theorem Q6{H:Hp}{b:Nat}{l:List Value}(h:H.Du b=some l):H.rd b=some l:=by
 unfold Hp.Du at h
 unfold Hp.rd
 split at h
 ·rename_i c t fr hb
  split at h
  ·simpa using h
  ·cases h
 ·cases h
theorem OP{H:Hp}{b:Nat}{l:List Value}(h:H.Du b=some l):H.own b=none:=by
 unfold Hp.Du at h
 unfold Hp.own
 split at h
 ·rename_i c t fr hb
  split at h
  ·rename_i hf
   refine if_neg fun e=>?_
   rw[e]at hf
   simp at hf
  ·cases h
 ·cases h
theorem HR{H:Hp}{b:Nat}{l:List Value}(h:KZ (H.own b) (H.Du b)=some l):H.own b=some l∨H.Du b=some l:=by
 cases ho:H.own b with
 |none=>rw[ho,TG]at h;exact .inr h
 |some x=>rw[ho,TF]at h;injection h with h;subst h;exact .inl rfl
theorem J0{H:Hp}{b:Nat}{l:List Value}(h:KZ (H.own b) (H.Du b)=some l):H.rd b=some l:=by
 rcases HR h with h|h
 ·exact ae h
 ·exact Q6 h
theorem OQ{H:Hp}{b:Nat}{l:List Value}(h:H.Du b=some l):KZ (H.own b) (H.Du b)=some l:=by rw[OP h,h];rfl
theorem OR{H:Hp}{b:Nat}{l:List Value}(h:H.own b=some l):KZ (H.own b) (H.Du b)=some l:=by rw[h];rfl
@[go_sem] theorem gh(H:Hp)(b:Nat)(l:List Value):(H.wr b l).size=H.size:=by simp[Hp.wr]
@[go_sem] theorem LU(H:Hp)(b:Nat)(es:List MapEntry)(k:Nat):(H.EW b es k).size=H.size:=by simp[Hp.EW]
@[go_sem] theorem ar(H:Hp)(T:TypeId)(l:List Value):(H.new T l).size=H.size+1:=by simp[Hp.new]
@[go_sem] theorem kE(H:Hp):H.fX.size=H.size+1:=by simp[Hp.fX]
@[go_sem] theorem Q7(H:Hp)(T:TypeId)(l:List Value):(H.OO T l).size=H.size+1:=by simp[Hp.OO]
theorem MN(H:Hp){c:Nat}(T:TypeId)(l:List Value)(h:c<H.size):(H.OO T l)[c]? =H[c]? :=by simp[Hp.OO,Array.getElem?_push,show c≠H.size by omega]
theorem yu(H:Hp){b c:Nat}(l:List Value)(h:b≠c):(H.wr b l)[c]? =H[c]? :=by simp[Hp.wr,aoG,h]
theorem uT(H:Hp){b c:Nat}(es:List MapEntry)(k:Nat)(h:b≠c):(H.EW b es k)[c]? =H[c]? :=by simp[Hp.EW,Array.getElem?_setIfInBounds_ne h]
theorem uU(H:Hp){c:Nat}(T:TypeId)(l:List Value)(h:c<H.size):(H.new T l)[c]? =H[c]? :=by simp[Hp.new,Array.getElem?_push,show c≠H.size by omega]
theorem rL(H:Hp){c:Nat}(h:c<H.size):H.fX[c]? =H[c]? :=by simp[Hp.fX,Array.getElem?_push,show c≠H.size by omega]
theorem xV{H H':Hp}{b:Nat}(h:H'[b]? =H[b]?):H'.rd b=H.rd b:=by unfold Hp.rd;rw[h]
theorem tN{H H':Hp}{b:Nat}(h:H'[b]? =H[b]?):H'.own b=H.own b:=by unfold Hp.own;rw[h]
theorem xW{H H':Hp}{b:Nat}(h:H'[b]? =H[b]?):H'.mp b=H.mp b:=by unfold Hp.mp;rw[h]
theorem Sd{H:Hp}{b c:Nat}{l:List Value}(h:b≠c):(H.wr b l).rd c=H.rd c:=xV (yu H l h)
theorem DZ{H:Hp}{b c:Nat}{l:List Value}(h:b≠c):(H.wr b l).own c=H.own c:=tN (yu H l h)
theorem Se{H:Hp}{b c:Nat}{l:List Value}(h:b≠c):(H.wr b l).mp c=H.mp c:=xW (yu H l h)
theorem Qe{H:Hp}{b c:Nat}{es:List MapEntry}{k:Nat}(h:b≠c):(H.EW b es k).rd c=H.rd c:=xV (uT H es k h)
theorem NJ{H:Hp}{b c:Nat}{es:List MapEntry}{k:Nat}(h:b≠c):(H.EW b es k).own c=H.own c:=tN (uT H es k h)
theorem Qf{H:Hp}{b c:Nat}{es:List MapEntry}{k:Nat}(h:b≠c):(H.EW b es k).mp c=H.mp c:=xW (uT H es k h)
theorem Qg{H:Hp}{c:Nat}{T:TypeId}{l:List Value}(h:c<H.size):(H.new T l).rd c=H.rd c:=xV (uU H T l h)
theorem cz{H:Hp}{c:Nat}{T:TypeId}{l:List Value}(h:c<H.size):(H.new T l).own c=H.own c:=tN (uU H T l h)
theorem Qh{H:Hp}{c:Nat}{T:TypeId}{l:List Value}(h:c<H.size):(H.new T l).mp c=H.mp c:=xW (uU H T l h)
theorem NK{H:Hp}{c:Nat}(h:c<H.size):H.fX.rd c=H.rd c:=xV (rL H h)
theorem LV{H:Hp}{c:Nat}(h:c<H.size):H.fX.own c=H.own c:=tN (rL H h)
theorem NL{H:Hp}{c:Nat}(h:c<H.size):H.fX.mp c=H.mp c:=xW (rL H h)
@[go_sem] theorem aE(H:Hp)(T:TypeId)(l:List Value):(H.new T l).own H.size=some l:=by simp[Hp.own,Hp.new]
@[go_sem] theorem Ye(H:Hp)(T:TypeId)(l:List Value):(H.new T l).rd H.size=some l:=by simp[Hp.rd,Hp.new]
@[go_sem] theorem KR(H:Hp):H.fX.mp H.size=some ([],0):=by simp[Hp.mp,Hp.fX]
theorem Qi{H:Hp}{c:Nat}{T:TypeId}{l:List Value}(h:c=H.size):(H.new T l).rd c=some l:=by subst h;exact Ye H T l
theorem bD{H:Hp}{c:Nat}{T:TypeId}{l:List Value}(h:c=H.size):(H.new T l).own c=some l:=by subst h;exact aE H T l
theorem NM{H:Hp}{c:Nat}(h:c=H.size):H.fX.mp c=some ([],0):=by subst h;exact KR H
theorem aj{H:Hp}{b:Nat}{l l':List Value}(h:H.own b=some l'):(H.wr b l).own b=some l:=by
 unfold Hp.own at h
 split at h
 ·rename_i c t fr hb
  split at h
  ·rename_i hf
   simp[Hp.own,Hp.wr,aoG,hb,hf]
  ·cases h
 ·cases h
theorem MO{H:Hp}{b:Nat}{l l':List Value}(h:H.Du b=some l')(hl:l.length=l'.length):(H.wr b l).Du b=some l:=by
 unfold Hp.Du at h
 split at h
 ·rename_i c t fr hb
  split at h
  ·rename_i hf
   injection h with h
   have hc:c.size=l.length:=by rw[hl,←h];simp
   simp[Hp.Du,Hp.wr,aoG,hb,hf.1]
   omega
  ·cases h
 ·cases h
theorem MP{H:Hp}{b:Nat}{l l':List Value}(h:KZ (H.own b) (H.Du b)=some l')(hl:l.length=l'.length):KZ ((H.wr b l).own b) ((H.wr b l).Du b)=some l:=by
 rcases HR h with h|h
 ·exact OR (aj h)
 ·exact OQ (MO h hl)
theorem uE{H:Hp}{b:Nat}{l l':List Value}(h:H.own b=some l'):(H.wr b l).rd b=some l:=ae (aj h)
theorem nV{H:Hp}{b:Nat}{es:List MapEntry}{k:Nat}{x:List MapEntry×Nat}(h:H.mp b=some x):(H.EW b es k).mp b=some (es,k):=by
 have:=PM h
 simp[Hp.mp,Hp.EW,this]
structure ah(S:Nat→Prop)(H H':Hp):Prop where
 size:H.size≤H'.size
 aP:∀b,b<H.size→¬S b→H'[b]? =H[b]?
theorem ah.refl(S:Nat→Prop)(H:Hp):ah S H H:=⟨anO _,fun _ _ _=>rfl⟩
theorem ah.mono{S S':Nat→Prop}{H H':Hp}(h:ah S H H')(hs:∀b,b<H.size→S b→S' b):ah S' H H':=
 ⟨h.size,fun b hb hn=>h.aP b hb fun s=>hn (hs b hb s)⟩
theorem ah.trans{S:Nat→Prop}{A B C:Hp}(h:ah S A B)(k:ah S B C):ah S A C:=
 ⟨aok h.size k.size,fun b hb hn=>(k.aP b (an3 hb h.size) hn).trans (h.aP b hb hn)⟩
theorem ah.uF{S S':Nat→Prop}{A B C:Hp}(h:ah S A B)(k:ah S' B C)(hs:∀b,b<A.size→S' b→S b):ah S A C:=
 ⟨aok h.size k.size,fun b hb hn=>(k.aP b (an3 hb h.size) fun s=>hn (hs b hb s)).trans (h.aP b hb hn)⟩
theorem ah.wr{S:Nat→Prop}{A H:Hp}(h:ah S A H){b:Nat}(hb:b<A.size→S b)(l:List Value):ah S A (H.wr b l):=
 ⟨by rw[gh];exact h.size,fun c hc hn=>(yu H l fun e=>hn (by subst e;exact hb hc)).trans (h.aP c hc hn)⟩
theorem ah.EW{S:Nat→Prop}{A H:Hp}(h:ah S A H){b:Nat}(hb:b<A.size→S b)(es:List MapEntry)(k:Nat):ah S A (H.EW b es k):=
 ⟨by rw[LU];exact h.size,fun c hc hn=>(uT H es k fun e=>hn (by subst e;exact hb hc)).trans (h.aP c hc hn)⟩
theorem ah.new{S:Nat→Prop}{A H:Hp}(h:ah S A H)(T:TypeId)(l:List Value):ah S A (H.new T l):=
 ⟨by rw[ar];exact Nat.le_succ_of_le h.size,fun c hc hn=>(uU H T l (an3 hc h.size)).trans (h.aP c hc hn)⟩
theorem ah.fX{S:Nat→Prop}{A H:Hp}(h:ah S A H):ah S A H.fX:=
 ⟨by rw[kE];exact Nat.le_succ_of_le h.size,fun c hc hn=>(rL H (an3 hc h.size)).trans (h.aP c hc hn)⟩
theorem ah.rd{S:Nat→Prop}{H H':Hp}(h:ah S H H'){b:Nat}{l:List Value}(hb:H.rd b=some l)(hn:¬S b):H'.rd b=some l:=
 (xV (h.aP b (PP hb) hn)).trans hb
theorem ah.own{S:Nat→Prop}{H H':Hp}(h:ah S H H'){b:Nat}{l:List Value}(hb:H.own b=some l)(hn:¬S b):H'.own b=some l:=
 (tN (h.aP b (aG hb) hn)).trans hb
theorem ah.mp{S:Nat→Prop}{H H':Hp}(h:ah S H H'){b:Nat}{x:List MapEntry×Nat}(hb:H.mp b=some x)(hn:¬S b):H'.mp b=some x:=
 (xW (h.aP b (PM hb) hn)).trans hb
def aq(H H':Hp):Prop:=ah (fun _=>False) H H'
def bk(l:List Value)(off:Nat):List Value→List Value
 | []=>l
 |v::vs=>bk (l.set off v) (off+1) vs
@[go_sem] theorem Yf(l:List Value)(off:Nat):bk l off []=l:=(rfl)
@[go_sem] theorem rM(l:List Value)(off:Nat)(v:Value)(vs:List Value):bk l off (v::vs)=bk (l.set off v) (off+1) vs:=(rfl)
theorem nl(vs:List Value):∀ (l:List Value) (off:Nat),(bk l off vs).length=l.length:=by
 induction vs with
 |nil=>intro l off;rfl
 |cons v vs ih=>intro l off;rw[rM,ih];simp
theorem getElem?_splice(vs:List Value):∀ (l:List Value) (off j:Nat),off+vs.length≤l.length→
  (bk l off vs)[j]? =if off≤j∧j<off+vs.length then vs[j - off]? else l[j]? :=by
 induction vs with
 |nil=>intro l off j _;rw[if_neg (by simp only[aoF];omega)];rfl
 |cons v vs ih=>
  intro l off j h
  simp only[anY]at h
  rw[rM,ih _ _ _ (by simp;omega)]
  by_cases h1:off+1≤j∧j<off+1+vs.length
  ·rw[if_pos h1,if_pos ⟨by omega,by simp;omega⟩,show j - off=(j - (off+1))+1 by omega,aox]
  ·rw[if_neg h1]
   by_cases h2:off=j
   ·subst h2
    rw[if_pos ⟨anO _,by simp⟩,anI (by omega)]
    simp
   ·rw[anH h2,if_neg (fun hx=>h1 ⟨by omega,by simp at hx;omega⟩)]
def aM:Value→List Value
 | .agg cs=>cs.toList
 |v=>[v]
theorem eX(v:Value):v.cells.toList=aM v:=by cases v<;>rfl
@[go_sem] theorem Yg(l:List Value):aM (.agg l.toArray)=l:=(rfl)
@[go_sem] theorem Wp(b:Bool):aM (.bool b)=[.bool b]:=(rfl)
@[go_sem] theorem Yh(k:IntKind)(n:Int):aM (.int k n)=[.int k n]:=(rfl)
@[go_sem] theorem Ui(s:ByteArray):aM (.string s)=[.string s]:=(rfl)
@[go_sem] theorem TH(a:Option Addr):aM (.pointer a)=[.pointer a]:=(rfl)
@[go_sem] theorem Vv(a:Option Addr)(n c:Nat):aM (.slice a n c)=[.slice a n c]:=(rfl)
@[go_sem] theorem Yi(r:Option Nat):aM (.map r)=[.map r]:=(rfl)
@[go_sem] theorem Vw(t:TypeId)(v:Value):aM (.iface t v)=[.iface t v]:=(rfl)
@[go_sem] theorem RN:aM .nilIface=[.nilIface]:=(rfl)
@[go_sem] theorem TI:aM .nilFunc=[.nilFunc]:=(rfl)
@[go_sem] theorem Wq(f:Fn)(a b:Array Value):aM (.func f a b)=[.func f a b]:=(rfl)
@[go_sem] theorem ab5(b:Bool):(Value.bool b).oneCell'=true:=(rfl)
@[go_sem] theorem aeg(k:IntKind)(n:Int):(Value.int k n).oneCell'=true:=(rfl)
@[go_sem] theorem Yj(s:ByteArray):(Value.string s).oneCell'=true:=(rfl)
@[go_sem] theorem Wr(a:Option Addr):(Value.pointer a).oneCell'=true:=(rfl)
@[go_sem] theorem ZI(a:Option Addr)(n c:Nat):(Value.slice a n c).oneCell'=true:=(rfl)
@[go_sem] theorem aeh(r:Option Nat):(Value.map r).oneCell'=true:=(rfl)
@[go_sem] theorem ZJ(t:TypeId)(v:Value):(Value.iface t v).oneCell'=true:=(rfl)
@[go_sem] theorem Vx:Value.nilIface.oneCell'=true:=(rfl)
@[go_sem] theorem Ws:Value.nilFunc.oneCell'=true:=(rfl)
@[go_sem] theorem ab6(f:Fn)(a b:Array Value):(Value.func f a b).oneCell'=true:=(rfl)
def uV:List Value→Bool
 | []=>true
 |v::l=>v.oneCell' && uV l
@[go_sem] theorem Wt:uV []=true:=(rfl)
@[go_sem] theorem Vy(v:Value)(l:List Value):uV (v::l)=(v.oneCell' && uV l):=(rfl)
def gU(l:List Value):Prop:=∀v∈l,v.oneCell'=true
@[go_sem] theorem Yk:gU []=True:=by simp[gU]
@[go_sem] theorem Wu(v:Value)(l:List Value):gU (v::l)=(v.oneCell'=true∧gU l):=by simp[gU]
theorem Q8{l:List Value}(h:uV l=true):gU l:=by
 induction l with
 |nil=>intro v hv;cases hv
 |cons x l ih=>
  simp only[uV,aoz]at h
  intro v hv
  rcases anN.1 hv with rfl|hv
  ·exact h.1
  ·exact ih h.2 v hv
theorem qv{w:World}{a:Addr}{l:List Value}(hs:a.spot=none)(h:Hp.rd w.heap a.block=some l):w.cell? a=l[a.off]? :=by
 unfold Hp.rd at h
 unfold World.cell?
 split at h
 ·rename_i c t fr hb
  injection h with h
  rw[hb]
  simp[hs,←h]
 ·cases h
theorem GN{a:Addr}(hs:a.spot=none)(n:Nat):a.add n=⟨a.block,a.off+n,none⟩:=by
 unfold Addr.add
 split
 ·rename_i h;subst h;cases a;simp_all
 ·rfl
@[go_sem] theorem Bf(b o n:Nat):(⟨b,o,none⟩:Addr).add n=⟨b,o+n,none⟩:=GN rfl n
theorem tO{P:Program}{w:World}{a:Addr}{l:List Value}{n:Nat}(hs:a.spot=none)(h:Hp.rd w.heap a.block=some l)(hn:a.off+n≤l.length):
  (loadCells a n).run P w= .ok ((l.drop a.off).take n).toArray w:=by
 have hl:((l.drop a.off).take n).length=n:=by simp;omega
 have h1:=run_loadCells_list (P:=P) w a ((l.drop a.off).take n) fun j v hj=>by
  rw[GN hs]
  refine(qv (a:=⟨a.block,a.off+j,none⟩) (l:=l) rfl h).trans ?_
  show l[a.off+j]? =some v
  have hjn:j<n:=by
   rcases aoN j n with h'|h'
   ·exact h'
   ·rw[anP (by omega)]at hj;cases hj
  rw[an9 hjn,aoc]at hj
  exact hj
 rw[hl]at h1
 exact h1
theorem heap_setCell(w:World)(b o:Nat)(v:Value){l:List Value}(h:Hp.rd w.heap b=some l):(w.setCell ⟨b,o,none⟩ v).heap=Hp.wr w.heap b (l.set o v):=by
 unfold Hp.rd at h
 split at h
 ·rename_i c t fr hb
  injection h with h
  have aR:b<w.heap.size:=(aoB.1 hb).1
  simp only[World.setCell,Hp.wr]
  apply Array.ext_getElem?
  intro i
  rw[aoG,aoG]
  by_cases hi:b=i
  ·subst hi
   rw[if_pos rfl,if_pos rfl,hb]
   simp[←h]
   exact Array.ext' (by simp)
  ·rw[if_neg hi,if_neg hi]
 ·cases h
theorem zR{w:World}{b:Nat}{l:List Value}(h:Hp.own w.heap b=some l)(o:Nat):w.frozen? ⟨b,o,none⟩=false:=by
 unfold Hp.own at h
 unfold World.frozen?
 split at h
 ·rename_i c t fr hb
  split at h
  ·rename_i hf;rw[hb];simp[hf]
  ·cases h
 ·cases h
theorem Jx{w:World}{b:Nat}{l:List Value}(h:KZ (Hp.own w.heap b) (Hp.Du w.heap b)=some l){o:Nat}(ho:o<l.length):w.frozen? ⟨b,o,none⟩=false:=by
 rcases HR h with h|h
 ·exact zR h o
 ·unfold Hp.Du at h
  unfold World.frozen?
  split at h
  ·rename_i c t fr hb
   split at h
   ·rename_i hf
    injection h with h
    have hc:c.size=l.length:=by rw[←h];simp
    rw[hb]
    simp
    omega
   ·cases h
  ·cases h
@[go_sem] theorem PE{H:Hp}{b:Nat}{l l':List Value}:(H.wr b l).wr b l'=H.wr b l':=by
 unfold Hp.wr
 apply Array.ext_getElem?
 intro i
 rw[aoG,aoG,aoG]
 by_cases hi:b=i
 ·subst hi
  simp only[if_true]
  cases H[b]? with
  |none=>rfl
  |some x=>cases x<;>rfl
 ·simp[hi]
theorem ke{P:Program}{b o:Nat}:∀ (vs:List Value) (i:Nat) (w:World) (l:List Value),KZ (Hp.own w.heap b) (Hp.Du w.heap b)=some l→o+i+vs.length≤l.length→gU vs→
  ∃w',(storeCells ⟨b,o,none⟩ vs i).run P w= .ok () w'∧bZ w w'∧(vs≠[]→w'.heap=Hp.wr w.heap b (bk l (o+i) vs))∧(vs=[]→w'.heap=w.heap):=by
 intro vs
 induction vs with
 |nil=>intro i w l _ _ _;exact⟨w,rfl,bZ.refl w,fun h=>absurd rfl h,fun _=>rfl⟩
 |cons v vs ih=>
  intro i w l h hn h1
  have hv:v.oneCell'=true:=h1 v aoA
  simp only[anY]at hn
  have hc:w.cell? ⟨b,o+i,none⟩=some l[o+i]:=by rw[qv (l:=l) rfl (J0 h)];simp[show o+i<l.length by omega]
  have vu:(store ((⟨b,o,none⟩:Addr).add i) v).run P w= .ok () (w.setCell ⟨b,o+i,none⟩ v):=by
   rw[Bf,run_store P w _ v .plain hv,hc]
   simp[Jx h (show o+i<l.length by omega)]
  have hh:=heap_setCell w b (o+i) v (J0 h)
  have how:KZ (Hp.own (w.setCell ⟨b,o+i,none⟩ v).heap b) (Hp.Du (w.setCell ⟨b,o+i,none⟩ v).heap b)=some (l.set (o+i) v):=by rw[hh];exact MP h (by simp)
  obtain⟨w',hr,hs,hk,hk0⟩:=ih (i+1) (w.setCell ⟨b,o+i,none⟩ v) (l.set (o+i) v) how (by simp;omega) (fun x hx=>h1 x (aom _ hx))
  refine⟨w',?_,⟨hs.os,hs.output⟩,fun _=>?_,fun h=>by cases h⟩
  ·simp only[storeCells,Sem.run_bind,vu,Result.andThen_ok]
   exact hr
  ·rw[rM]
   cases vs with
   |nil=>rw[hk0 rfl,hh];rfl
   |cons x xs=>rw[hk (by simp),hh,PE];rfl
end Go.Vc
