/- Texts put behind each other. -/
import Derived.Test.YtjlnnljohemifaaGreatK98
import Derived.Test.YtjlnnljohemifaaGreatK2
import Derived.Laws.Cells
set_option linter.unusedVariables false
namespace Go.Vc
def aE{α:Type}(o:Option α)(F:α→Prop)(_t:Tag F:=⟨⟩):Prop:=match o with|some v=>F v|none=>False
@[go_sem] theorem qO{α:Type}(v:α)(F:α→Prop):aE (some v) F=F v:=(rfl)
@[go_sem] theorem XA{α:Type}(F:α→Prop):aE none F=False:=(rfl)
theorem aD{α:Type}{o:Option α}{F:α→Prop}(h:aE o F):∃v,o=some v∧F v:=by
 cases o with
 |none=>exact h.elim
 |some v=>exact⟨v,rfl,h⟩
def now{α:Type}(x:α)(F:α→Prop)(_t:Tag F:=⟨⟩):Prop:=F x
@[go_sem] theorem N0{α:Type}(x:α)(F:α→Prop):now x F=F x:=(rfl)
def ak(b:Bool)(F:Bool→Prop)(_t:Tag F:=⟨⟩):Prop:=F b
@[go_sem] theorem Y3(F:Bool→Prop):ak true F=F true:=(rfl)
@[go_sem] theorem XB(F:Bool→Prop):ak false F=F false:=(rfl)
theorem ak.intro{b:Bool}{F:Bool→Prop}(ht:b=true→F true)(hf:b=false→F false):ak b F:=by
 cases b
 ·exact hf rfl
 ·exact ht rfl
theorem ak.dec{p:Prop}[Decidable p]{F:Bool→Prop}(ht:p→F true)(hf:¬p→F false):ak (decide p) F:=by
 by_cases h:p
 ·rw[amj h];exact ht h
 ·rw[amm h];exact hf h
def Hv(b:Bool)(A B:Prop)(_ta:Tag A:=⟨⟩)(_tb:Tag B:=⟨⟩):Prop:=match b with|true=>A|false=>B
@[go_sem] theorem SO(A B:Prop):Hv true A B=A:=(rfl)
@[go_sem] theorem Y4(A B:Prop):Hv false A B=B:=(rfl)
@[go_sem] theorem af5:(true==true)=true:=(rfl)
@[go_sem] theorem af6:(true==false)=false:=(rfl)
@[go_sem] theorem af7:(false==true)=false:=(rfl)
@[go_sem] theorem af8:(false==false)=true:=(rfl)
theorem ak.cE{b:Bool}{F:Bool→Prop}(hb:b=true)(h:F true):ak b F:=by subst hb;exact h
theorem ak.aX{b:Bool}{F:Bool→Prop}(hb:b=false)(h:F false):ak b F:=by subst hb;exact h
def eB(c:Prop)(F:Prop)(_t:Tag F:=⟨⟩):Prop:=c∧F
@[go_sem] theorem Y5(F:Prop):eB True F=F:=by simp[eB]
@[go_sem] theorem adz{α:Sort _}(a:α)(F:Prop):eB (a=a) F=F:=by simp[eB]
def ay(p:Prop)(_t:Tag p:=⟨⟩):Prop:=p
theorem ay.out{p:Prop}(h:ay p):p:=h
def C3(v:Value)(F:Bool→Prop)(_t:Tag F:=⟨⟩):Prop:=match v with| .bool b=>ak b F|_=>False
@[go_sem] theorem XC(b:Bool)(F:Bool→Prop):C3 (.bool b) F=ak b F:=(rfl)
def Hp.rd(H:Hp)(b:Nat):Option (List Value):=match H[b]? with|some (.cells c _ _)=>some c.toList|_=>none
def Hp.own(H:Hp)(b:Nat):Option (List Value):=match H[b]? with|some (.cells c _ fr)=>if fr=(0,0)then some c.toList else none|_=>none
def Hp.Dg(H:Hp)(b:Nat):Option (List Value):=match H[b]? with|some (.cells c _ fr)=>if fr.2=fr.1+1∧c.size≤fr.1 then some c.toList else none|_=>none
def KA{α:Type}(x y:Option α):Option α:=match x with|some v=>some v|none=>y
@[go_sem] theorem Tb{α:Type}(v:α)(y:Option α):KA (some v) y=some v:=(rfl)
@[go_sem] theorem Tc{α:Type}(y:Option α):KA none y=y:=(rfl)
def Hp.wr(H:Hp)(b:Nat)(l:List Value):Hp:=H.modify b fun| .cells _ t fr=>.cells l.toArray t fr|o=>o
def Hp.mp(H:Hp)(b:Nat):Option (List MapEntry×Nat):=match H[b]? with|some (.map es k)=>some (es.toList,k)|_=>none
def Hp.EH(H:Hp)(b:Nat)(es:List MapEntry)(k:Nat):Hp:=H.setIfInBounds b (.map es.toArray k)
def Hp.new(H:Hp)(T:TypeId)(l:List Value):Hp:=H.push (.cells l.toArray T)
def Hp.N9(H:Hp)(T:TypeId)(l:List Value):Hp:=H.push (.cells l.toArray T (l.length,l.length+1))
def Hp.fY(H:Hp):Hp:=H.push (.map #[] 0)
theorem ae{H:Hp}{b:Nat}{l:List Value}(h:H.own b=some l):H.rd b=some l:=by
 unfold Hp.own at h
 unfold Hp.rd
 split at h
 ·rename_i c t fr hb
  split at h
  ·simpa using h
  ·cases h
 ·cases h
theorem aO{H:Hp}{b:Nat}{l:List Value}(h:H.own b=some l):b<H.size:=by
 rcases anh b H.size with h'|h'
 ·exact h'
 ·simp[Hp.own,anf h']at h
theorem Pa{H:Hp}{b:Nat}{l:List Value}(h:H.rd b=some l):b<H.size:=by
 rcases anh b H.size with h'|h'
 ·exact h'
 ·simp[Hp.rd,anf h']at h
theorem O7{H:Hp}{b:Nat}{x:List MapEntry×Nat}(h:H.mp b=some x):b<H.size:=by
 rcases anh b H.size with h'|h'
 ·exact h'
 ·simp[Hp.mp,anf h']at h
theorem QD{H:Hp}{b:Nat}{l:List Value}(h:H.Dg b=some l):H.rd b=some l:=by
 unfold Hp.Dg at h
 unfold Hp.rd
 split at h
 ·rename_i c t fr hb
  split at h
  ·simpa using h
  ·cases h
 ·cases h
theorem Oa{H:Hp}{b:Nat}{l:List Value}(h:H.Dg b=some l):H.own b=none:=by
 unfold Hp.Dg at h
 unfold Hp.own
 split at h
 ·rename_i c t fr hb
  split at h
  ·rename_i hf
   refine if_neg fun e=>?_
   rw[e]at hf
   simp at hf
  ·cases h
 ·cases h
theorem Hw{H:Hp}{b:Nat}{l:List Value}(h:KA (H.own b) (H.Dg b)=some l):H.own b=some l∨H.Dg b=some l:=by
 cases ho:H.own b with
 |none=>rw[ho,Tc]at h;exact .inr h
 |some x=>rw[ho,Tb]at h;injection h with h;subst h;exact .inl rfl
theorem JH{H:Hp}{b:Nat}{l:List Value}(h:KA (H.own b) (H.Dg b)=some l):H.rd b=some l:=by
 rcases Hw h with h|h
 ·exact ae h
 ·exact QD h
theorem Ob{H:Hp}{b:Nat}{l:List Value}(h:H.Dg b=some l):KA (H.own b) (H.Dg b)=some l:=by rw[Oa h,h];rfl
theorem Oc{H:Hp}{b:Nat}{l:List Value}(h:H.own b=some l):KA (H.own b) (H.Dg b)=some l:=by rw[h];rfl
@[go_sem] theorem gm(H:Hp)(b:Nat)(l:List Value):(H.wr b l).size=H.size:=by simp[Hp.wr]
@[go_sem] theorem Lu(H:Hp)(b:Nat)(es:List MapEntry)(k:Nat):(H.EH b es k).size=H.size:=by simp[Hp.EH]
@[go_sem] theorem au(H:Hp)(T:TypeId)(l:List Value):(H.new T l).size=H.size+1:=by simp[Hp.new]
@[go_sem] theorem kC(H:Hp):H.fY.size=H.size+1:=by simp[Hp.fY]
@[go_sem] theorem QE(H:Hp)(T:TypeId)(l:List Value):(H.N9 T l).size=H.size+1:=by simp[Hp.N9]
theorem Mk(H:Hp){c:Nat}(T:TypeId)(l:List Value)(h:c<H.size):(H.N9 T l)[c]? =H[c]? :=by simp[Hp.N9,Array.getElem?_push,show c≠H.size by omega]
theorem yb(H:Hp){b c:Nat}(l:List Value)(h:b≠c):(H.wr b l)[c]? =H[c]? :=by simp[Hp.wr,am5,h]
theorem uK(H:Hp){b c:Nat}(es:List MapEntry)(k:Nat)(h:b≠c):(H.EH b es k)[c]? =H[c]? :=by simp[Hp.EH,Array.getElem?_setIfInBounds_ne h]
theorem uL(H:Hp){c:Nat}(T:TypeId)(l:List Value)(h:c<H.size):(H.new T l)[c]? =H[c]? :=by simp[Hp.new,Array.getElem?_push,show c≠H.size by omega]
theorem rG(H:Hp){c:Nat}(h:c<H.size):H.fY[c]? =H[c]? :=by simp[Hp.fY,Array.getElem?_push,show c≠H.size by omega]
theorem xK{H H':Hp}{b:Nat}(h:H'[b]? =H[b]?):H'.rd b=H.rd b:=by unfold Hp.rd;rw[h]
theorem tH{H H':Hp}{b:Nat}(h:H'[b]? =H[b]?):H'.own b=H.own b:=by unfold Hp.own;rw[h]
theorem xL{H H':Hp}{b:Nat}(h:H'[b]? =H[b]?):H'.mp b=H.mp b:=by unfold Hp.mp;rw[h]
theorem RF{H:Hp}{b c:Nat}{l:List Value}(h:b≠c):(H.wr b l).rd c=H.rd c:=xK (yb H l h)
theorem DM{H:Hp}{b c:Nat}{l:List Value}(h:b≠c):(H.wr b l).own c=H.own c:=tH (yb H l h)
theorem RG{H:Hp}{b c:Nat}{l:List Value}(h:b≠c):(H.wr b l).mp c=H.mp c:=xL (yb H l h)
theorem Px{H:Hp}{b c:Nat}{es:List MapEntry}{k:Nat}(h:b≠c):(H.EH b es k).rd c=H.rd c:=xK (uK H es k h)
theorem Nc{H:Hp}{b c:Nat}{es:List MapEntry}{k:Nat}(h:b≠c):(H.EH b es k).own c=H.own c:=tH (uK H es k h)
theorem Py{H:Hp}{b c:Nat}{es:List MapEntry}{k:Nat}(h:b≠c):(H.EH b es k).mp c=H.mp c:=xL (uK H es k h)
theorem Pz{H:Hp}{c:Nat}{T:TypeId}{l:List Value}(h:c<H.size):(H.new T l).rd c=H.rd c:=xK (uL H T l h)
theorem cw{H:Hp}{c:Nat}{T:TypeId}{l:List Value}(h:c<H.size):(H.new T l).own c=H.own c:=tH (uL H T l h)
theorem PA{H:Hp}{c:Nat}{T:TypeId}{l:List Value}(h:c<H.size):(H.new T l).mp c=H.mp c:=xL (uL H T l h)
theorem Nd{H:Hp}{c:Nat}(h:c<H.size):H.fY.rd c=H.rd c:=xK (rG H h)
theorem Lv{H:Hp}{c:Nat}(h:c<H.size):H.fY.own c=H.own c:=tH (rG H h)
theorem Nf{H:Hp}{c:Nat}(h:c<H.size):H.fY.mp c=H.mp c:=xL (rG H h)
@[go_sem] theorem aG(H:Hp)(T:TypeId)(l:List Value):(H.new T l).own H.size=some l:=by simp[Hp.own,Hp.new]
@[go_sem] theorem XD(H:Hp)(T:TypeId)(l:List Value):(H.new T l).rd H.size=some l:=by simp[Hp.rd,Hp.new]
@[go_sem] theorem Ku(H:Hp):H.fY.mp H.size=some ([],0):=by simp[Hp.mp,Hp.fY]
theorem PC{H:Hp}{c:Nat}{T:TypeId}{l:List Value}(h:c=H.size):(H.new T l).rd c=some l:=by subst h;exact XD H T l
theorem bD{H:Hp}{c:Nat}{T:TypeId}{l:List Value}(h:c=H.size):(H.new T l).own c=some l:=by subst h;exact aG H T l
theorem Ng{H:Hp}{c:Nat}(h:c=H.size):H.fY.mp c=some ([],0):=by subst h;exact Ku H
theorem aj{H:Hp}{b:Nat}{l l':List Value}(h:H.own b=some l'):(H.wr b l).own b=some l:=by
 unfold Hp.own at h
 split at h
 ·rename_i c t fr hb
  split at h
  ·rename_i hf
   simp[Hp.own,Hp.wr,am5,hb,hf]
  ·cases h
 ·cases h
theorem Ml{H:Hp}{b:Nat}{l l':List Value}(h:H.Dg b=some l')(hl:l.length=l'.length):(H.wr b l).Dg b=some l:=by
 unfold Hp.Dg at h
 split at h
 ·rename_i c t fr hb
  split at h
  ·rename_i hf
   injection h with h
   have hc:c.size=l.length:=by rw[hl,←h];simp
   simp[Hp.Dg,Hp.wr,am5,hb,hf.1]
   omega
  ·cases h
 ·cases h
theorem Mm{H:Hp}{b:Nat}{l l':List Value}(h:KA (H.own b) (H.Dg b)=some l')(hl:l.length=l'.length):KA ((H.wr b l).own b) ((H.wr b l).Dg b)=some l:=by
 rcases Hw h with h|h
 ·exact Oc (aj h)
 ·exact Ob (Ml h hl)
theorem us{H:Hp}{b:Nat}{l l':List Value}(h:H.own b=some l'):(H.wr b l).rd b=some l:=ae (aj h)
theorem nZ{H:Hp}{b:Nat}{es:List MapEntry}{k:Nat}{x:List MapEntry×Nat}(h:H.mp b=some x):(H.EH b es k).mp b=some (es,k):=by
 have:=O7 h
 simp[Hp.mp,Hp.EH,this]
structure ai(S:Nat→Prop)(H H':Hp):Prop where
 size:H.size≤H'.size
 aN:∀b,b<H.size→¬S b→H'[b]? =H[b]?
theorem ai.refl(S:Nat→Prop)(H:Hp):ai S H H:=⟨ami _,fun _ _ _=>rfl⟩
theorem ai.mono{S S':Nat→Prop}{H H':Hp}(h:ai S H H')(hs:∀b,b<H.size→S b→S' b):ai S' H H':=
 ⟨h.size,fun b hb hn=>h.aN b hb fun s=>hn (hs b hb s)⟩
theorem ai.trans{S:Nat→Prop}{A B C:Hp}(h:ai S A B)(k:ai S B C):ai S A C:=
 ⟨amM h.size k.size,fun b hb hn=>(k.aN b (amv hb h.size) hn).trans (h.aN b hb hn)⟩
theorem ai.ut{S S':Nat→Prop}{A B C:Hp}(h:ai S A B)(k:ai S' B C)(hs:∀b,b<A.size→S' b→S b):ai S A C:=
 ⟨amM h.size k.size,fun b hb hn=>(k.aN b (amv hb h.size) fun s=>hn (hs b hb s)).trans (h.aN b hb hn)⟩
theorem ai.wr{S:Nat→Prop}{A H:Hp}(h:ai S A H){b:Nat}(hb:b<A.size→S b)(l:List Value):ai S A (H.wr b l):=
 ⟨by rw[gm];exact h.size,fun c hc hn=>(yb H l fun e=>hn (by subst e;exact hb hc)).trans (h.aN c hc hn)⟩
theorem ai.EH{S:Nat→Prop}{A H:Hp}(h:ai S A H){b:Nat}(hb:b<A.size→S b)(es:List MapEntry)(k:Nat):ai S A (H.EH b es k):=
 ⟨by rw[Lu];exact h.size,fun c hc hn=>(uK H es k fun e=>hn (by subst e;exact hb hc)).trans (h.aN c hc hn)⟩
theorem ai.new{S:Nat→Prop}{A H:Hp}(h:ai S A H)(T:TypeId)(l:List Value):ai S A (H.new T l):=
 ⟨by rw[au];exact Nat.le_succ_of_le h.size,fun c hc hn=>(uL H T l (amv hc h.size)).trans (h.aN c hc hn)⟩
theorem ai.fY{S:Nat→Prop}{A H:Hp}(h:ai S A H):ai S A H.fY:=
 ⟨by rw[kC];exact Nat.le_succ_of_le h.size,fun c hc hn=>(rG H (amv hc h.size)).trans (h.aN c hc hn)⟩
theorem ai.rd{S:Nat→Prop}{H H':Hp}(h:ai S H H'){b:Nat}{l:List Value}(hb:H.rd b=some l)(hn:¬S b):H'.rd b=some l:=
 (xK (h.aN b (Pa hb) hn)).trans hb
theorem ai.own{S:Nat→Prop}{H H':Hp}(h:ai S H H'){b:Nat}{l:List Value}(hb:H.own b=some l)(hn:¬S b):H'.own b=some l:=
 (tH (h.aN b (aO hb) hn)).trans hb
theorem ai.mp{S:Nat→Prop}{H H':Hp}(h:ai S H H'){b:Nat}{x:List MapEntry×Nat}(hb:H.mp b=some x)(hn:¬S b):H'.mp b=some x:=
 (xL (h.aN b (O7 hb) hn)).trans hb
def ax(H H':Hp):Prop:=ai (fun _=>False) H H'
def bq(l:List Value)(off:Nat):List Value→List Value
 | []=>l
 |v::vs=>bq (l.set off v) (off+1) vs
@[go_sem] theorem XE(l:List Value)(off:Nat):bq l off []=l:=(rfl)
@[go_sem] theorem rH(l:List Value)(off:Nat)(v:Value)(vs:List Value):bq l off (v::vs)=bq (l.set off v) (off+1) vs:=(rfl)
theorem nq(vs:List Value):∀ (l:List Value) (off:Nat),(bq l off vs).length=l.length:=by
 induction vs with
 |nil=>intro l off;rfl
 |cons v vs ih=>intro l off;rw[rH,ih];simp
theorem getElem?_splice(vs:List Value):∀ (l:List Value) (off j:Nat),off+vs.length≤l.length→
  (bq l off vs)[j]? =if off≤j∧j<off+vs.length then vs[j - off]? else l[j]? :=by
 induction vs with
 |nil=>intro l off j _;rw[if_neg (by simp only[anj];omega)];rfl
 |cons v vs ih=>
  intro l off j h
  simp only[ams]at h
  rw[rH,ih _ _ _ (by simp;omega)]
  by_cases h1:off+1≤j∧j<off+1+vs.length
  ·rw[if_pos h1,if_pos ⟨by omega,by simp;omega⟩,show j - off=(j - (off+1))+1 by omega,amY]
  ·rw[if_neg h1]
   by_cases h2:off=j
   ·subst h2
    rw[if_pos ⟨ami _,by simp⟩,amd (by omega)]
    simp
   ·rw[amc h2,if_neg (fun hx=>h1 ⟨by omega,by simp at hx;omega⟩)]
def aJ:Value→List Value
 | .agg cs=>cs.toList
 |v=>[v]
theorem eW(v:Value):v.cells.toList=aJ v:=by cases v<;>rfl
@[go_sem] theorem XF(l:List Value):aJ (.agg l.toArray)=l:=(rfl)
@[go_sem] theorem VH(b:Bool):aJ (.bool b)=[.bool b]:=(rfl)
@[go_sem] theorem XG(k:IntKind)(n:Int):aJ (.int k n)=[.int k n]:=(rfl)
@[go_sem] theorem TI(s:ByteArray):aJ (.string s)=[.string s]:=(rfl)
@[go_sem] theorem Td(a:Option Addr):aJ (.pointer a)=[.pointer a]:=(rfl)
@[go_sem] theorem UJ(a:Option Addr)(n c:Nat):aJ (.slice a n c)=[.slice a n c]:=(rfl)
@[go_sem] theorem XH(r:Option Nat):aJ (.map r)=[.map r]:=(rfl)
@[go_sem] theorem UK(t:TypeId)(v:Value):aJ (.iface t v)=[.iface t v]:=(rfl)
@[go_sem] theorem Rf:aJ .nilIface=[.nilIface]:=(rfl)
@[go_sem] theorem Te:aJ .nilFunc=[.nilFunc]:=(rfl)
@[go_sem] theorem VI(f:Fn)(a b:Array Value):aJ (.func f a b)=[.func f a b]:=(rfl)
@[go_sem] theorem abp(b:Bool):(Value.bool b).oneCell'=true:=(rfl)
@[go_sem] theorem adA(k:IntKind)(n:Int):(Value.int k n).oneCell'=true:=(rfl)
@[go_sem] theorem XI(s:ByteArray):(Value.string s).oneCell'=true:=(rfl)
@[go_sem] theorem VJ(a:Option Addr):(Value.pointer a).oneCell'=true:=(rfl)
@[go_sem] theorem Y6(a:Option Addr)(n c:Nat):(Value.slice a n c).oneCell'=true:=(rfl)
@[go_sem] theorem adB(r:Option Nat):(Value.map r).oneCell'=true:=(rfl)
@[go_sem] theorem Y7(t:TypeId)(v:Value):(Value.iface t v).oneCell'=true:=(rfl)
@[go_sem] theorem UL:Value.nilIface.oneCell'=true:=(rfl)
@[go_sem] theorem VK:Value.nilFunc.oneCell'=true:=(rfl)
@[go_sem] theorem abq(f:Fn)(a b:Array Value):(Value.func f a b).oneCell'=true:=(rfl)
def uM:List Value→Bool
 | []=>true
 |v::l=>v.oneCell' && uM l
@[go_sem] theorem VL:uM []=true:=(rfl)
@[go_sem] theorem UM(v:Value)(l:List Value):uM (v::l)=(v.oneCell' && uM l):=(rfl)
def j5(l:List Value):Prop:=∀v∈l,v.oneCell'=true
@[go_sem] theorem XJ:j5 []=True:=by simp[j5]
@[go_sem] theorem VM(v:Value)(l:List Value):j5 (v::l)=(v.oneCell'=true∧j5 l):=by simp[j5]
theorem QF{l:List Value}(h:uM l=true):j5 l:=by
 induction l with
 |nil=>intro v hv;cases hv
 |cons x l ih=>
  simp only[uM,amX]at h
  intro v hv
  rcases amf.1 hv with rfl|hv
  ·exact h.1
  ·exact ih h.2 v hv
theorem qw{w:World}{a:Addr}{l:List Value}(hs:a.spot=none)(h:Hp.rd w.heap a.block=some l):w.cell? a=l[a.off]? :=by
 unfold Hp.rd at h
 unfold World.cell?
 split at h
 ·rename_i c t fr hb
  injection h with h
  rw[hb]
  simp[hs,←h]
 ·cases h
theorem Gz{a:Addr}(hs:a.spot=none)(n:Nat):a.add n=⟨a.block,a.off+n,none⟩:=by
 unfold Addr.add
 split
 ·rename_i h;subst h;cases a;simp_all
 ·rfl
@[go_sem] theorem AY(b o n:Nat):(⟨b,o,none⟩:Addr).add n=⟨b,o+n,none⟩:=Gz rfl n
theorem tI{P:Program}{w:World}{a:Addr}{l:List Value}{n:Nat}(hs:a.spot=none)(h:Hp.rd w.heap a.block=some l)(hn:a.off+n≤l.length):
  (loadCells a n).run P w= .ok ((l.drop a.off).take n).toArray w:=by
 have hl:((l.drop a.off).take n).length=n:=by simp;omega
 have h1:=run_loadCells_list (P:=P) w a ((l.drop a.off).take n) fun j v hj=>by
  rw[Gz hs]
  refine(qw (a:=⟨a.block,a.off+j,none⟩) (l:=l) rfl h).trans ?_
  show l[a.off+j]? =some v
  have hjn:j<n:=by
   rcases anh j n with h'|h'
   ·exact h'
   ·rw[amk (by omega)]at hj;cases hj
  rw[amA hjn,amF]at hj
  exact hj
 rw[hl]at h1
 exact h1
theorem heap_setCell(w:World)(b o:Nat)(v:Value){l:List Value}(h:Hp.rd w.heap b=some l):(w.setCell ⟨b,o,none⟩ v).heap=Hp.wr w.heap b (l.set o v):=by
 unfold Hp.rd at h
 split at h
 ·rename_i c t fr hb
  injection h with h
  have aR:b<w.heap.size:=(am0.1 hb).1
  simp only[World.setCell,Hp.wr]
  apply Array.ext_getElem?
  intro i
  rw[am5,am5]
  by_cases hi:b=i
  ·subst hi
   rw[if_pos rfl,if_pos rfl,hb]
   simp[←h]
   exact Array.ext' (by simp)
  ·rw[if_neg hi,if_neg hi]
 ·cases h
theorem zE{w:World}{b:Nat}{l:List Value}(h:Hp.own w.heap b=some l)(o:Nat):w.frozen? ⟨b,o,none⟩=false:=by
 unfold Hp.own at h
 unfold World.frozen?
 split at h
 ·rename_i c t fr hb
  split at h
  ·rename_i hf;rw[hb];simp[hf]
  ·cases h
 ·cases h
theorem Je{w:World}{b:Nat}{l:List Value}(h:KA (Hp.own w.heap b) (Hp.Dg w.heap b)=some l){o:Nat}(ho:o<l.length):w.frozen? ⟨b,o,none⟩=false:=by
 rcases Hw h with h|h
 ·exact zE h o
 ·unfold Hp.Dg at h
  unfold World.frozen?
  split at h
  ·rename_i c t fr hb
   split at h
   ·rename_i hf
    injection h with h
    have hc:c.size=l.length:=by rw[←h];simp
    rw[hb]
    simp
    omega
   ·cases h
  ·cases h
@[go_sem] theorem OZ{H:Hp}{b:Nat}{l l':List Value}:(H.wr b l).wr b l'=H.wr b l':=by
 unfold Hp.wr
 apply Array.ext_getElem?
 intro i
 rw[am5,am5,am5]
 by_cases hi:b=i
 ·subst hi
  simp only[if_true]
  cases H[b]? with
  |none=>rfl
  |some x=>cases x<;>rfl
 ·simp[hi]
theorem j9{P:Program}{b o:Nat}:∀ (vs:List Value) (i:Nat) (w:World) (l:List Value),KA (Hp.own w.heap b) (Hp.Dg w.heap b)=some l→o+i+vs.length≤l.length→j5 vs→
  ∃w',(storeCells ⟨b,o,none⟩ vs i).run P w= .ok () w'∧bZ w w'∧(vs≠[]→w'.heap=Hp.wr w.heap b (bq l (o+i) vs))∧(vs=[]→w'.heap=w.heap):=by
 intro vs
 induction vs with
 |nil=>intro i w l _ _ _;exact⟨w,rfl,bZ.refl w,fun h=>absurd rfl h,fun _=>rfl⟩
 |cons v vs ih=>
  intro i w l h hn h1
  have hv:v.oneCell'=true:=h1 v amZ
  simp only[ams]at hn
  have hc:w.cell? ⟨b,o+i,none⟩=some l[o+i]:=by rw[qw (l:=l) rfl (JH h)];simp[show o+i<l.length by omega]
  have uB:(store ((⟨b,o,none⟩:Addr).add i) v).run P w= .ok () (w.setCell ⟨b,o+i,none⟩ v):=by
   rw[AY,run_store P w _ v .plain hv,hc]
   simp[Je h (show o+i<l.length by omega)]
  have hh:=heap_setCell w b (o+i) v (JH h)
  have how:KA (Hp.own (w.setCell ⟨b,o+i,none⟩ v).heap b) (Hp.Dg (w.setCell ⟨b,o+i,none⟩ v).heap b)=some (l.set (o+i) v):=by rw[hh];exact Mm h (by simp)
  obtain⟨w',hr,hs,hk,Y2⟩:=ih (i+1) (w.setCell ⟨b,o+i,none⟩ v) (l.set (o+i) v) how (by simp;omega) (fun x hx=>h1 x (amK _ hx))
  refine⟨w',?_,⟨hs.os,hs.output⟩,fun _=>?_,fun h=>by cases h⟩
  ·simp only[storeCells,Sem.run_bind,uB,Result.andThen_ok]
   exact hr
  ·rw[rH]
   cases vs with
   |nil=>rw[Y2 rfl,hh];rfl
   |cons x xs=>rw[hk (by simp),hh,OZ];rfl
end Go.Vc
