/-
  Texts put behind each other by a program: Hp.
-/
import Derived.Test.YtjlnnljohemifaaGreatK2
import Derived.Laws.Cells
set_option linter.unusedVariables false
namespace Go.Vc
def aE{α:Type}(o:Option α)(F:α→Prop)(_t:Tag F:=⟨⟩):Prop:=match o with|some v=>F v|none=>False
@[go_sem] theorem qC{α:Type}(v:α)(F:α→Prop):aE (some v) F=F v:=(rfl)
@[go_sem] theorem W9{α:Type}(F:α→Prop):aE none F=False:=(rfl)
theorem aC{α:Type}{o:Option α}{F:α→Prop}(h:aE o F):∃v,o=some v∧F v:=by
 cases o with
 |none=>exact h.elim
 |some v=>exact⟨v,rfl,h⟩
def now{α:Type}(x:α)(F:α→Prop)(_t:Tag F:=⟨⟩):Prop:=F x
@[go_sem] theorem NL{α:Type}(x:α)(F:α→Prop):now x F=F x:=(rfl)
def am(b:Bool)(F:Bool→Prop)(_t:Tag F:=⟨⟩):Prop:=F b
@[go_sem] theorem YE(F:Bool→Prop):am true F=F true:=(rfl)
@[go_sem] theorem Xa(F:Bool→Prop):am false F=F false:=(rfl)
theorem am.intro{b:Bool}{F:Bool→Prop}(ht:b=true→F true)(hf:b=false→F false):am b F:=by
 cases b
 ·exact hf rfl
 ·exact ht rfl
theorem am.dec{p:Prop}[Decidable p]{F:Bool→Prop}(ht:p→F true)(hf:¬p→F false):am (decide p) F:=by
 by_cases h:p
 ·rw[decide_eq_true h];exact ht h
 ·rw[decide_eq_false h];exact hf h
def G7(b:Bool)(A B:Prop)(_ta:Tag A:=⟨⟩)(_tb:Tag B:=⟨⟩):Prop:=match b with|true=>A|false=>B
@[go_sem] theorem Su(A B:Prop):G7 true A B=A:=(rfl)
@[go_sem] theorem YF(A B:Prop):G7 false A B=B:=(rfl)
@[go_sem] theorem afB:(true==true)=true:=(rfl)
@[go_sem] theorem afC:(true==false)=false:=(rfl)
@[go_sem] theorem afD:(false==true)=false:=(rfl)
@[go_sem] theorem afE:(false==false)=true:=(rfl)
theorem am.cj{b:Bool}{F:Bool→Prop}(hb:b=true)(h:F true):am b F:=by subst hb;exact h
theorem am.aW{b:Bool}{F:Bool→Prop}(hb:b=false)(h:F false):am b F:=by subst hb;exact h
def eC(c:Prop)(F:Prop)(_t:Tag F:=⟨⟩):Prop:=c∧F
@[go_sem] theorem YG(F:Prop):eC True F=F:=by simp[eC]
@[go_sem] theorem ac1{α:Sort _}(a:α)(F:Prop):eC (a=a) F=F:=by simp[eC]
def ax(p:Prop)(_t:Tag p:=⟨⟩):Prop:=p
theorem ax.out{p:Prop}(h:ax p):p:=h
def CW(v:Value)(F:Bool→Prop)(_t:Tag F:=⟨⟩):Prop:=match v with| .bool b=>am b F|_=>False
@[go_sem] theorem Xb(b:Bool)(F:Bool→Prop):CW (.bool b) F=am b F:=(rfl)
def Hp.rd(H:Hp)(b:Nat):Option (List Value):=match H[b]? with|some (.cells c _ _)=>some c.toList|_=>none
def Hp.own(H:Hp)(b:Nat):Option (List Value):=match H[b]? with|some (.cells c _ fr)=>if fr=(0,0)then some c.toList else none|_=>none
def Hp.C8(H:Hp)(b:Nat):Option (List Value):=match H[b]? with|some (.cells c _ fr)=>if fr.2=fr.1+1∧c.size≤fr.1 then some c.toList else none|_=>none
def Kg{α:Type}(x y:Option α):Option α:=match x with|some v=>some v|none=>y
@[go_sem] theorem SJ{α:Type}(v:α)(y:Option α):Kg (some v) y=some v:=(rfl)
@[go_sem] theorem SK{α:Type}(y:Option α):Kg none y=y:=(rfl)
def Hp.wr(H:Hp)(b:Nat)(l:List Value):Hp:=H.modify b fun| .cells _ t fr=>.cells l.toArray t fr|o=>o
def Hp.mp(H:Hp)(b:Nat):Option (List MapEntry×Nat):=match H[b]? with|some (.map es k)=>some (es.toList,k)|_=>none
def Hp.Ey(H:Hp)(b:Nat)(es:List MapEntry)(k:Nat):Hp:=H.setIfInBounds b (.map es.toArray k)
def Hp.new(H:Hp)(T:TypeId)(l:List Value):Hp:=H.push (.cells l.toArray T)
def Hp.NM(H:Hp)(T:TypeId)(l:List Value):Hp:=H.push (.cells l.toArray T (l.length,l.length+1))
def Hp.fX(H:Hp):Hp:=H.push (.map #[] 0)
theorem ae{H:Hp}{b:Nat}{l:List Value}(h:H.own b=some l):H.rd b=some l:=by
 unfold Hp.own at h
 unfold Hp.rd
 split at h
 ·rename_i c t fr hb
  split at h
  ·simpa using h
  ·cases h
 ·cases h
theorem aO{H:Hp}{b:Nat}{l:List Value}(h:H.own b=some l):b<H.size:=by
 rcases Nat.lt_or_ge b H.size with h'|h'
 ·exact h'
 ·simp[Hp.own,Array.getElem?_eq_none h']at h
theorem OV{H:Hp}{b:Nat}{l:List Value}(h:H.rd b=some l):b<H.size:=by
 rcases Nat.lt_or_ge b H.size with h'|h'
 ·exact h'
 ·simp[Hp.rd,Array.getElem?_eq_none h']at h
theorem OS{H:Hp}{b:Nat}{x:List MapEntry×Nat}(h:H.mp b=some x):b<H.size:=by
 rcases Nat.lt_or_ge b H.size with h'|h'
 ·exact h'
 ·simp[Hp.mp,Array.getElem?_eq_none h']at h
theorem Qi{H:Hp}{b:Nat}{l:List Value}(h:H.C8 b=some l):H.rd b=some l:=by
 unfold Hp.C8 at h
 unfold Hp.rd
 split at h
 ·rename_i c t fr hb
  split at h
  ·simpa using h
  ·cases h
 ·cases h
theorem NN{H:Hp}{b:Nat}{l:List Value}(h:H.C8 b=some l):H.own b=none:=by
 unfold Hp.C8 at h
 unfold Hp.own
 split at h
 ·rename_i c t fr hb
  split at h
  ·rename_i hf
   refine if_neg fun e=>?_
   rw[e]at hf
   simp at hf
  ·cases h
 ·cases h
theorem G8{H:Hp}{b:Nat}{l:List Value}(h:Kg (H.own b) (H.C8 b)=some l):H.own b=some l∨H.C8 b=some l:=by
 cases ho:H.own b with
 |none=>rw[ho,SK]at h;exact .inr h
 |some x=>rw[ho,SJ]at h;injection h with h;subst h;exact .inl rfl
theorem Jm{H:Hp}{b:Nat}{l:List Value}(h:Kg (H.own b) (H.C8 b)=some l):H.rd b=some l:=by
 rcases G8 h with h|h
 ·exact ae h
 ·exact Qi h
theorem NO{H:Hp}{b:Nat}{l:List Value}(h:H.C8 b=some l):Kg (H.own b) (H.C8 b)=some l:=by rw[NN h,h];rfl
theorem NP{H:Hp}{b:Nat}{l:List Value}(h:H.own b=some l):Kg (H.own b) (H.C8 b)=some l:=by rw[h];rfl
@[go_sem] theorem gh(H:Hp)(b:Nat)(l:List Value):(H.wr b l).size=H.size:=by simp[Hp.wr]
@[go_sem] theorem Ld(H:Hp)(b:Nat)(es:List MapEntry)(k:Nat):(H.Ey b es k).size=H.size:=by simp[Hp.Ey]
@[go_sem] theorem au(H:Hp)(T:TypeId)(l:List Value):(H.new T l).size=H.size+1:=by simp[Hp.new]
@[go_sem] theorem kq(H:Hp):H.fX.size=H.size+1:=by simp[Hp.fX]
@[go_sem] theorem Qj(H:Hp)(T:TypeId)(l:List Value):(H.NM T l).size=H.size+1:=by simp[Hp.NM]
theorem LZ(H:Hp){c:Nat}(T:TypeId)(l:List Value)(h:c<H.size):(H.NM T l)[c]? =H[c]? :=by simp[Hp.NM,Array.getElem?_push,show c≠H.size by omega]
theorem xX(H:Hp){b c:Nat}(l:List Value)(h:b≠c):(H.wr b l)[c]? =H[c]? :=by simp[Hp.wr,Array.getElem?_modify,h]
theorem uD(H:Hp){b c:Nat}(es:List MapEntry)(k:Nat)(h:b≠c):(H.Ey b es k)[c]? =H[c]? :=by simp[Hp.Ey,Array.getElem?_setIfInBounds_ne h]
theorem uE(H:Hp){c:Nat}(T:TypeId)(l:List Value)(h:c<H.size):(H.new T l)[c]? =H[c]? :=by simp[Hp.new,Array.getElem?_push,show c≠H.size by omega]
theorem q9(H:Hp){c:Nat}(h:c<H.size):H.fX[c]? =H[c]? :=by simp[Hp.fX,Array.getElem?_push,show c≠H.size by omega]
theorem xE{H H':Hp}{b:Nat}(h:H'[b]? =H[b]?):H'.rd b=H.rd b:=by unfold Hp.rd;rw[h]
theorem tz{H H':Hp}{b:Nat}(h:H'[b]? =H[b]?):H'.own b=H.own b:=by unfold Hp.own;rw[h]
theorem xF{H H':Hp}{b:Nat}(h:H'[b]? =H[b]?):H'.mp b=H.mp b:=by unfold Hp.mp;rw[h]
theorem Rj{H:Hp}{b c:Nat}{l:List Value}(h:b≠c):(H.wr b l).rd c=H.rd c:=xE (xX H l h)
theorem DD{H:Hp}{b c:Nat}{l:List Value}(h:b≠c):(H.wr b l).own c=H.own c:=tz (xX H l h)
theorem Rk{H:Hp}{b c:Nat}{l:List Value}(h:b≠c):(H.wr b l).mp c=H.mp c:=xF (xX H l h)
theorem Pe{H:Hp}{b c:Nat}{es:List MapEntry}{k:Nat}(h:b≠c):(H.Ey b es k).rd c=H.rd c:=xE (uD H es k h)
theorem MY{H:Hp}{b c:Nat}{es:List MapEntry}{k:Nat}(h:b≠c):(H.Ey b es k).own c=H.own c:=tz (uD H es k h)
theorem Pf{H:Hp}{b c:Nat}{es:List MapEntry}{k:Nat}(h:b≠c):(H.Ey b es k).mp c=H.mp c:=xF (uD H es k h)
theorem Pg{H:Hp}{c:Nat}{T:TypeId}{l:List Value}(h:c<H.size):(H.new T l).rd c=H.rd c:=xE (uE H T l h)
theorem cz{H:Hp}{c:Nat}{T:TypeId}{l:List Value}(h:c<H.size):(H.new T l).own c=H.own c:=tz (uE H T l h)
theorem Ph{H:Hp}{c:Nat}{T:TypeId}{l:List Value}(h:c<H.size):(H.new T l).mp c=H.mp c:=xF (uE H T l h)
theorem MZ{H:Hp}{c:Nat}(h:c<H.size):H.fX.rd c=H.rd c:=xE (q9 H h)
theorem Le{H:Hp}{c:Nat}(h:c<H.size):H.fX.own c=H.own c:=tz (q9 H h)
theorem M0{H:Hp}{c:Nat}(h:c<H.size):H.fX.mp c=H.mp c:=xF (q9 H h)
@[go_sem] theorem aG(H:Hp)(T:TypeId)(l:List Value):(H.new T l).own H.size=some l:=by simp[Hp.own,Hp.new]
@[go_sem] theorem Xc(H:Hp)(T:TypeId)(l:List Value):(H.new T l).rd H.size=some l:=by simp[Hp.rd,Hp.new]
@[go_sem] theorem Ka(H:Hp):H.fX.mp H.size=some ([],0):=by simp[Hp.mp,Hp.fX]
theorem Pj{H:Hp}{c:Nat}{T:TypeId}{l:List Value}(h:c=H.size):(H.new T l).rd c=some l:=by subst h;exact Xc H T l
theorem bC{H:Hp}{c:Nat}{T:TypeId}{l:List Value}(h:c=H.size):(H.new T l).own c=some l:=by subst h;exact aG H T l
theorem M1{H:Hp}{c:Nat}(h:c=H.size):H.fX.mp c=some ([],0):=by subst h;exact Ka H
theorem aj{H:Hp}{b:Nat}{l l':List Value}(h:H.own b=some l'):(H.wr b l).own b=some l:=by
 unfold Hp.own at h
 split at h
 ·rename_i c t fr hb
  split at h
  ·rename_i hf
   simp[Hp.own,Hp.wr,Array.getElem?_modify,hb,hf]
  ·cases h
 ·cases h
theorem L0{H:Hp}{b:Nat}{l l':List Value}(h:H.C8 b=some l')(hl:l.length=l'.length):(H.wr b l).C8 b=some l:=by
 unfold Hp.C8 at h
 split at h
 ·rename_i c t fr hb
  split at h
  ·rename_i hf
   injection h with h
   have hc:c.size=l.length:=by rw[hl,←h];simp
   simp[Hp.C8,Hp.wr,Array.getElem?_modify,hb,hf.1]
   omega
  ·cases h
 ·cases h
theorem L8{H:Hp}{b:Nat}{l l':List Value}(h:Kg (H.own b) (H.C8 b)=some l')(hl:l.length=l'.length):Kg ((H.wr b l).own b) ((H.wr b l).C8 b)=some l:=by
 rcases G8 h with h|h
 ·exact NP (aj h)
 ·exact NO (L0 h hl)
theorem ui{H:Hp}{b:Nat}{l l':List Value}(h:H.own b=some l'):(H.wr b l).rd b=some l:=ae (aj h)
theorem nR{H:Hp}{b:Nat}{es:List MapEntry}{k:Nat}{x:List MapEntry×Nat}(h:H.mp b=some x):(H.Ey b es k).mp b=some (es,k):=by
 have:=OS h
 simp[Hp.mp,Hp.Ey,this]
structure ai(S:Nat→Prop)(H H':Hp):Prop where
 size:H.size≤H'.size
 aN:∀b,b<H.size→¬S b→H'[b]? =H[b]?
theorem ai.refl(S:Nat→Prop)(H:Hp):ai S H H:=⟨Nat.le_refl _,fun _ _ _=>rfl⟩
theorem ai.mono{S S':Nat→Prop}{H H':Hp}(h:ai S H H')(hs:∀b,b<H.size→S b→S' b):ai S' H H':=
 ⟨h.size,fun b hb hn=>h.aN b hb fun s=>hn (hs b hb s)⟩
theorem ai.trans{S:Nat→Prop}{A B C:Hp}(h:ai S A B)(k:ai S B C):ai S A C:=
 ⟨Nat.le_trans h.size k.size,fun b hb hn=>(k.aN b (Nat.lt_of_lt_of_le hb h.size) hn).trans (h.aN b hb hn)⟩
theorem ai.uj{S S':Nat→Prop}{A B C:Hp}(h:ai S A B)(k:ai S' B C)(hs:∀b,b<A.size→S' b→S b):ai S A C:=
 ⟨Nat.le_trans h.size k.size,fun b hb hn=>(k.aN b (Nat.lt_of_lt_of_le hb h.size) fun s=>hn (hs b hb s)).trans (h.aN b hb hn)⟩
theorem ai.wr{S:Nat→Prop}{A H:Hp}(h:ai S A H){b:Nat}(hb:b<A.size→S b)(l:List Value):ai S A (H.wr b l):=
 ⟨by rw[gh];exact h.size,fun c hc hn=>(xX H l fun e=>hn (by subst e;exact hb hc)).trans (h.aN c hc hn)⟩
theorem ai.Ey{S:Nat→Prop}{A H:Hp}(h:ai S A H){b:Nat}(hb:b<A.size→S b)(es:List MapEntry)(k:Nat):ai S A (H.Ey b es k):=
 ⟨by rw[Ld];exact h.size,fun c hc hn=>(uD H es k fun e=>hn (by subst e;exact hb hc)).trans (h.aN c hc hn)⟩
theorem ai.new{S:Nat→Prop}{A H:Hp}(h:ai S A H)(T:TypeId)(l:List Value):ai S A (H.new T l):=
 ⟨by rw[au];exact Nat.le_succ_of_le h.size,fun c hc hn=>(uE H T l (Nat.lt_of_lt_of_le hc h.size)).trans (h.aN c hc hn)⟩
theorem ai.fX{S:Nat→Prop}{A H:Hp}(h:ai S A H):ai S A H.fX:=
 ⟨by rw[kq];exact Nat.le_succ_of_le h.size,fun c hc hn=>(q9 H (Nat.lt_of_lt_of_le hc h.size)).trans (h.aN c hc hn)⟩
theorem ai.rd{S:Nat→Prop}{H H':Hp}(h:ai S H H'){b:Nat}{l:List Value}(hb:H.rd b=some l)(hn:¬S b):H'.rd b=some l:=
 (xE (h.aN b (OV hb) hn)).trans hb
theorem ai.own{S:Nat→Prop}{H H':Hp}(h:ai S H H'){b:Nat}{l:List Value}(hb:H.own b=some l)(hn:¬S b):H'.own b=some l:=
 (tz (h.aN b (aO hb) hn)).trans hb
theorem ai.mp{S:Nat→Prop}{H H':Hp}(h:ai S H H'){b:Nat}{x:List MapEntry×Nat}(hb:H.mp b=some x)(hn:¬S b):H'.mp b=some x:=
 (xF (h.aN b (OS hb) hn)).trans hb
def ay(H H':Hp):Prop:=ai (fun _=>False) H H'
def bq(l:List Value)(off:Nat):List Value→List Value
 | []=>l
 |v::vs=>bq (l.set off v) (off+1) vs
@[go_sem] theorem Xd(l:List Value)(off:Nat):bq l off []=l:=(rfl)
@[go_sem] theorem re(l:List Value)(off:Nat)(v:Value)(vs:List Value):bq l off (v::vs)=bq (l.set off v) (off+1) vs:=(rfl)
theorem ng(vs:List Value):∀ (l:List Value) (off:Nat),(bq l off vs).length=l.length:=by
 induction vs with
 |nil=>intro l off;rfl
 |cons v vs ih=>intro l off;rw[re,ih];simp
theorem getElem?_splice(vs:List Value):∀ (l:List Value) (off j:Nat),off+vs.length≤l.length→
  (bq l off vs)[j]? =if off≤j∧j<off+vs.length then vs[j - off]? else l[j]? :=by
 induction vs with
 |nil=>intro l off j _;rw[if_neg (by simp only[List.length_nil];omega)];rfl
 |cons v vs ih=>
  intro l off j h
  simp only[List.length_cons]at h
  rw[re,ih _ _ _ (by simp;omega)]
  by_cases h1:off+1≤j∧j<off+1+vs.length
  ·rw[if_pos h1,if_pos ⟨by omega,by simp;omega⟩,show j - off=(j - (off+1))+1 by omega,List.getElem?_cons_succ]
  ·rw[if_neg h1]
   by_cases h2:off=j
   ·subst h2
    rw[if_pos ⟨Nat.le_refl _,by simp⟩,List.getElem?_set_self (by omega)]
    simp
   ·rw[List.getElem?_set_ne h2,if_neg (fun hx=>h1 ⟨by omega,by simp at hx;omega⟩)]
def aJ:Value→List Value
 | .agg cs=>cs.toList
 |v=>[v]
theorem eW(v:Value):v.cells.toList=aJ v:=by cases v<;>rfl
@[go_sem] theorem Xe(l:List Value):aJ (.agg l.toArray)=l:=(rfl)
@[go_sem] theorem Vj(b:Bool):aJ (.bool b)=[.bool b]:=(rfl)
@[go_sem] theorem Xf(k:IntKind)(n:Int):aJ (.int k n)=[.int k n]:=(rfl)
@[go_sem] theorem Tn(s:ByteArray):aJ (.string s)=[.string s]:=(rfl)
@[go_sem] theorem SL(a:Option Addr):aJ (.pointer a)=[.pointer a]:=(rfl)
@[go_sem] theorem Uo(a:Option Addr)(n c:Nat):aJ (.slice a n c)=[.slice a n c]:=(rfl)
@[go_sem] theorem Xg(r:Option Nat):aJ (.map r)=[.map r]:=(rfl)
@[go_sem] theorem Up(t:TypeId)(v:Value):aJ (.iface t v)=[.iface t v]:=(rfl)
@[go_sem] theorem QT:aJ .nilIface=[.nilIface]:=(rfl)
@[go_sem] theorem SM:aJ .nilFunc=[.nilFunc]:=(rfl)
@[go_sem] theorem Vk(f:Fn)(a b:Array Value):aJ (.func f a b)=[.func f a b]:=(rfl)
@[go_sem] theorem aaS(b:Bool):(Value.bool b).oneCell'=true:=(rfl)
@[go_sem] theorem ac2(k:IntKind)(n:Int):(Value.int k n).oneCell'=true:=(rfl)
@[go_sem] theorem Xh(s:ByteArray):(Value.string s).oneCell'=true:=(rfl)
@[go_sem] theorem Vl(a:Option Addr):(Value.pointer a).oneCell'=true:=(rfl)
@[go_sem] theorem YH(a:Option Addr)(n c:Nat):(Value.slice a n c).oneCell'=true:=(rfl)
@[go_sem] theorem ac3(r:Option Nat):(Value.map r).oneCell'=true:=(rfl)
@[go_sem] theorem YI(t:TypeId)(v:Value):(Value.iface t v).oneCell'=true:=(rfl)
@[go_sem] theorem Uq:Value.nilIface.oneCell'=true:=(rfl)
@[go_sem] theorem Vm:Value.nilFunc.oneCell'=true:=(rfl)
@[go_sem] theorem aaT(f:Fn)(a b:Array Value):(Value.func f a b).oneCell'=true:=(rfl)
def uF:List Value→Bool
 | []=>true
 |v::l=>v.oneCell' && uF l
@[go_sem] theorem Vn:uF []=true:=(rfl)
@[go_sem] theorem Ur(v:Value)(l:List Value):uF (v::l)=(v.oneCell' && uF l):=(rfl)
def jX(l:List Value):Prop:=∀v∈l,v.oneCell'=true
@[go_sem] theorem Xi:jX []=True:=by simp[jX]
@[go_sem] theorem Vo(v:Value)(l:List Value):jX (v::l)=(v.oneCell'=true∧jX l):=by simp[jX]
theorem Qk{l:List Value}(h:uF l=true):jX l:=by
 induction l with
 |nil=>intro v hv;cases hv
 |cons x l ih=>
  simp only[uF,Bool.and_eq_true]at h
  intro v hv
  rcases List.mem_cons.1 hv with rfl|hv
  ·exact h.1
  ·exact ih h.2 v hv
theorem qf{w:World}{a:Addr}{l:List Value}(hs:a.spot=none)(h:Hp.rd w.heap a.block=some l):w.cell? a=l[a.off]? :=by
 unfold Hp.rd at h
 unfold World.cell?
 split at h
 ·rename_i c t fr hb
  injection h with h
  rw[hb]
  simp[hs,←h]
 ·cases h
theorem Ge{a:Addr}(hs:a.spot=none)(n:Nat):a.add n=⟨a.block,a.off+n,none⟩:=by
 unfold Addr.add
 split
 ·rename_i h;subst h;cases a;simp_all
 ·rfl
@[go_sem] theorem AQ(b o n:Nat):(⟨b,o,none⟩:Addr).add n=⟨b,o+n,none⟩:=Ge rfl n
theorem tA{P:Program}{w:World}{a:Addr}{l:List Value}{n:Nat}(hs:a.spot=none)(h:Hp.rd w.heap a.block=some l)(hn:a.off+n≤l.length):
  (loadCells a n).run P w= .ok ((l.drop a.off).take n).toArray w:=by
 have hl:((l.drop a.off).take n).length=n:=by simp;omega
 have h1:=run_loadCells_list (P:=P) w a ((l.drop a.off).take n) fun j v hj=>by
  rw[Ge hs]
  refine(qf (a:=⟨a.block,a.off+j,none⟩) (l:=l) rfl h).trans ?_
  show l[a.off+j]? =some v
  have hjn:j<n:=by
   rcases Nat.lt_or_ge j n with h'|h'
   ·exact h'
   ·rw[List.getElem?_eq_none (by omega)]at hj;cases hj
  rw[List.getElem?_take_of_lt hjn,List.getElem?_drop]at hj
  exact hj
 rw[hl]at h1
 exact h1
theorem heap_setCell(w:World)(b o:Nat)(v:Value){l:List Value}(h:Hp.rd w.heap b=some l):(w.setCell ⟨b,o,none⟩ v).heap=Hp.wr w.heap b (l.set o v):=by
 unfold Hp.rd at h
 split at h
 ·rename_i c t fr hb
  injection h with h
  have aR:b<w.heap.size:=(Array.getElem?_eq_some_iff.1 hb).1
  simp only[World.setCell,Hp.wr]
  apply Array.ext_getElem?
  intro i
  rw[Array.getElem?_modify,Array.getElem?_modify]
  by_cases hi:b=i
  ·subst hi
   rw[if_pos rfl,if_pos rfl,hb]
   simp[←h]
   exact Array.ext' (by simp)
  ·rw[if_neg hi,if_neg hi]
 ·cases h
theorem zw{w:World}{b:Nat}{l:List Value}(h:Hp.own w.heap b=some l)(o:Nat):w.frozen? ⟨b,o,none⟩=false:=by
 unfold Hp.own at h
 unfold World.frozen?
 split at h
 ·rename_i c t fr hb
  split at h
  ·rename_i hf;rw[hb];simp[hf]
  ·cases h
 ·cases h
theorem IP{w:World}{b:Nat}{l:List Value}(h:Kg (Hp.own w.heap b) (Hp.C8 w.heap b)=some l){o:Nat}(ho:o<l.length):w.frozen? ⟨b,o,none⟩=false:=by
 rcases G8 h with h|h
 ·exact zw h o
 ·unfold Hp.C8 at h
  unfold World.frozen?
  split at h
  ·rename_i c t fr hb
   split at h
   ·rename_i hf
    injection h with h
    have hc:c.size=l.length:=by rw[←h];simp
    rw[hb]
    simp
    omega
   ·cases h
  ·cases h
@[go_sem] theorem OK{H:Hp}{b:Nat}{l l':List Value}:(H.wr b l).wr b l'=H.wr b l':=by
 unfold Hp.wr
 apply Array.ext_getElem?
 intro i
 rw[Array.getElem?_modify,Array.getElem?_modify,Array.getElem?_modify]
 by_cases hi:b=i
 ·subst hi
  simp only[if_true]
  cases H[b]? with
  |none=>rfl
  |some x=>cases x<;>rfl
 ·simp[hi]
theorem jZ{P:Program}{b o:Nat}:∀ (vs:List Value) (i:Nat) (w:World) (l:List Value),Kg (Hp.own w.heap b) (Hp.C8 w.heap b)=some l→o+i+vs.length≤l.length→jX vs→
  ∃w',(storeCells ⟨b,o,none⟩ vs i).run P w= .ok () w'∧bZ w w'∧(vs≠[]→w'.heap=Hp.wr w.heap b (bq l (o+i) vs))∧(vs=[]→w'.heap=w.heap):=by
 intro vs
 induction vs with
 |nil=>intro i w l _ _ _;exact⟨w,rfl,bZ.refl w,fun h=>absurd rfl h,fun _=>rfl⟩
 |cons v vs ih=>
  intro i w l h hn h1
  have hv:v.oneCell'=true:=h1 v List.mem_cons_self
  simp only[List.length_cons]at hn
  have hc:w.cell? ⟨b,o+i,none⟩=some l[o+i]:=by rw[qf (l:=l) rfl (Jm h)];simp[show o+i<l.length by omega]
  have w8:(store ((⟨b,o,none⟩:Addr).add i) v).run P w= .ok () (w.setCell ⟨b,o+i,none⟩ v):=by
   rw[AQ,run_store P w _ v .plain hv,hc]
   simp[IP h (show o+i<l.length by omega)]
  have hh:=heap_setCell w b (o+i) v (Jm h)
  have how:Kg (Hp.own (w.setCell ⟨b,o+i,none⟩ v).heap b) (Hp.C8 (w.setCell ⟨b,o+i,none⟩ v).heap b)=some (l.set (o+i) v):=by rw[hh];exact L8 h (by simp)
  obtain⟨w',hr,hs,hk,hk0⟩:=ih (i+1) (w.setCell ⟨b,o+i,none⟩ v) (l.set (o+i) v) how (by simp;omega) (fun x hx=>h1 x (List.mem_cons_of_mem _ hx))
  refine⟨w',?_,⟨hs.os,hs.output⟩,fun _=>?_,fun h=>by cases h⟩
  ·simp only[storeCells,Sem.run_bind,w8,Result.andThen_ok]
   exact hr
  ·rw[re]
   cases vs with
   |nil=>rw[hk0 rfl,hh];rfl
   |cons x xs=>rw[hk (by simp),hh,OK];rfl
end Go.Vc
