/- Texts put behind each other. -/
import Derived.Test.YtjlnnljohemifaaGreatK98
import Derived.Test.YtjlnnljohemifaaGreatK2
import Derived.Laws.Cells
set_option maxRecDepth 100000
set_option maxHeartbeats 8000000
set_option linter.unusedVariables false
namespace Go.Vc
def aA{α:Type}(o:Option α)(F:α→Prop)(_t:Tag F:=⟨⟩):Prop:=match o with|some v=>F v|none=>False
@[go_sem] theorem mE{α:Type}(v:α)(F:α→Prop):aA (some v) F=F v:=(rfl)
@[go_sem] theorem WS{α:Type}(F:α→Prop):aA none F=False:=(rfl)
theorem ay{α:Type}{o:Option α}{F:α→Prop}(h:aA o F):∃v,o=some v∧F v:=by
 cases o with
 |none=>exact h.elim
 |some v=>exact⟨v,rfl,h⟩
def now{α:Type}(x:α)(F:α→Prop)(_t:Tag F:=⟨⟩):Prop:=F x
@[go_sem] theorem MC{α:Type}(x:α)(F:α→Prop):now x F=F x:=(rfl)
def ak(b:Bool)(F:Bool→Prop)(_t:Tag F:=⟨⟩):Prop:=F b
@[go_sem] theorem Yv(F:Bool→Prop):ak true F=F true:=(rfl)
@[go_sem] theorem WT(F:Bool→Prop):ak false F=F false:=(rfl)
theorem ak.intro{b:Bool}{F:Bool→Prop}(ht:b=true→F true)(hf:b=false→F false):ak b F:=by
 cases b
 ·exact hf rfl
 ·exact ht rfl
theorem ak.dec{p:Prop}[Decidable p]{F:Bool→Prop}(ht:p→F true)(hf:¬p→F false):ak (decide p) F:=by
 by_cases h:p
 ·rw[anp h];exact ht h
 ·rw[anD h];exact hf h
def E8(b:Bool)(A B:Prop)(_ta:Tag A:=⟨⟩)(_tb:Tag B:=⟨⟩):Prop:=match b with|true=>A|false=>B
@[go_sem] theorem Q7(A B:Prop):E8 true A B=A:=(rfl)
@[go_sem] theorem Yw(A B:Prop):E8 false A B=B:=(rfl)
@[go_sem] theorem agd:(true==true)=true:=(rfl)
@[go_sem] theorem age:(true==false)=false:=(rfl)
@[go_sem] theorem agf:(false==true)=false:=(rfl)
@[go_sem] theorem agh:(false==false)=true:=(rfl)
theorem ak.cK{b:Bool}{F:Bool→Prop}(hb:b=true)(h:F true):ak b F:=by subst hb;exact h
theorem ak.aU{b:Bool}{F:Bool→Prop}(hb:b=false)(h:F false):ak b F:=by subst hb;exact h
def dt(c:Prop)(F:Prop)(_t:Tag F:=⟨⟩):Prop:=c∧F
@[go_sem] theorem Yx(F:Prop):dt True F=F:=by simp[dt]
theorem dt.mk{c F:Prop}(h:c)(f:F):dt c F:=⟨h,f⟩
@[go_sem] theorem adq{α:Sort _}(a:α)(F:Prop):dt (a=a) F=F:=by simp[dt]
def ar(p:Prop)(_t:Tag p:=⟨⟩):Prop:=p
theorem ar.out{p:Prop}(h:ar p):p:=h
def Ao(v:Value)(F:Bool→Prop)(_t:Tag F:=⟨⟩):Prop:=match v with| .bool b=>ak b F|_=>False
@[go_sem] theorem WU(b:Bool)(F:Bool→Prop):Ao (.bool b) F=ak b F:=(rfl)
def Hp.rd(H:Hp)(b:Nat):Option (List Value):=match H[b]? with|some (.cells c _ _)=>some c.toList|_=>none
def Hp.own(H:Hp)(b:Nat):Option (List Value):=match H[b]? with|some (.cells c _ fr)=>if fr=(0,0)then some c.toList else none|_=>none
def Hp.AH(H:Hp)(b:Nat):Option (List Value):=match H[b]? with|some (.cells c _ fr)=>if fr.2=fr.1+1∧c.size≤fr.1 then some c.toList else none|_=>none
def ID{α:Type}(x y:Option α):Option α:=match x with|some v=>some v|none=>y
@[go_sem] theorem Rt{α:Type}(v:α)(y:Option α):ID (some v) y=some v:=(rfl)
@[go_sem] theorem Ru{α:Type}(y:Option α):ID none y=y:=(rfl)
def Hp.wr(H:Hp)(b:Nat)(l:List Value):Hp:=H.modify b fun| .cells _ t fr=>.cells l.toArray t fr|o=>o
def Hp.mp(H:Hp)(b:Nat):Option (List MapEntry×Nat):=match H[b]? with|some (.map es k)=>some (es.toList,k)|_=>none
def Hp.Ch(H:Hp)(b:Nat)(es:List MapEntry)(k:Nat):Hp:=H.setIfInBounds b (.map es.toArray k)
def Hp.new(H:Hp)(T:TypeId)(l:List Value):Hp:=H.push (.cells l.toArray T)
def Hp.MD(H:Hp)(T:TypeId)(l:List Value):Hp:=H.push (.cells l.toArray T (l.length,l.length+1))
def Hp.gS(H:Hp):Hp:=H.push (.map #[] 0)
theorem ae{H:Hp}{b:Nat}{l:List Value}(h:H.own b=some l):H.rd b=some l:=by
 unfold Hp.own at h
 unfold Hp.rd
 split at h
 ·rename_i c t fr hb
  split at h
  ·simpa using h
  ·cases h
 ·cases h
theorem az{H:Hp}{b:Nat}{l:List Value}(h:H.own b=some l):b<H.size:=by
 rcases aow b H.size with h'|h'
 ·exact h'
 ·simp[Hp.own,aou h']at h
theorem ND{H:Hp}{b:Nat}{l:List Value}(h:H.rd b=some l):b<H.size:=by
 rcases aow b H.size with h'|h'
 ·exact h'
 ·simp[Hp.rd,aou h']at h
theorem NA{H:Hp}{b:Nat}{x:List MapEntry×Nat}(h:H.mp b=some x):b<H.size:=by
 rcases aow b H.size with h'|h'
 ·exact h'
 ·simp[Hp.mp,aou h']at h
theorem O4{H:Hp}{b:Nat}{l:List Value}(h:H.AH b=some l):H.rd b=some l:=by
 unfold Hp.AH at h
 unfold Hp.rd
 split at h
 ·rename_i c t fr hb
  split at h
  ·simpa using h
  ·cases h
 ·cases h
theorem ME{H:Hp}{b:Nat}{l:List Value}(h:H.AH b=some l):H.own b=none:=by
 unfold Hp.AH at h
 unfold Hp.own
 split at h
 ·rename_i c t fr hb
  split at h
  ·rename_i hf
   refine if_neg fun e=>?_
   rw[e]at hf
   simp at hf
  ·cases h
 ·cases h
theorem E9{H:Hp}{b:Nat}{l:List Value}(h:ID (H.own b) (H.AH b)=some l):H.own b=some l∨H.AH b=some l:=by
 cases ho:H.own b with
 |none=>rw[ho,Ru]at h;exact .inr h
 |some x=>rw[ho,Rt]at h;injection h with h;subst h;exact .inl rfl
theorem Hu{H:Hp}{b:Nat}{l:List Value}(h:ID (H.own b) (H.AH b)=some l):H.rd b=some l:=by
 rcases E9 h with h|h
 ·exact ae h
 ·exact O4 h
theorem MF{H:Hp}{b:Nat}{l:List Value}(h:H.AH b=some l):ID (H.own b) (H.AH b)=some l:=by rw[ME h,h];rfl
theorem MG{H:Hp}{b:Nat}{l:List Value}(h:H.own b=some l):ID (H.own b) (H.AH b)=some l:=by rw[h];rfl
@[go_sem] theorem dT(H:Hp)(b:Nat)(l:List Value):(H.wr b l).size=H.size:=by simp[Hp.wr]
@[go_sem] theorem JG(H:Hp)(b:Nat)(es:List MapEntry)(k:Nat):(H.Ch b es k).size=H.size:=by simp[Hp.Ch]
@[go_sem] theorem am(H:Hp)(T:TypeId)(l:List Value):(H.new T l).size=H.size+1:=by simp[Hp.new]
@[go_sem] theorem hZ(H:Hp):H.gS.size=H.size+1:=by simp[Hp.gS]
@[go_sem] theorem O5(H:Hp)(T:TypeId)(l:List Value):(H.MD T l).size=H.size+1:=by simp[Hp.MD]
theorem Ky(H:Hp){c:Nat}(T:TypeId)(l:List Value)(h:c<H.size):(H.MD T l)[c]? =H[c]? :=by simp[Hp.MD,Array.getElem?_push,show c≠H.size by omega]
theorem uv(H:Hp){b c:Nat}(l:List Value)(h:b≠c):(H.wr b l)[c]? =H[c]? :=by simp[Hp.wr,aoj,h]
theorem qz(H:Hp){b c:Nat}(es:List MapEntry)(k:Nat)(h:b≠c):(H.Ch b es k)[c]? =H[c]? :=by simp[Hp.Ch,Array.getElem?_setIfInBounds_ne h]
theorem qA(H:Hp){c:Nat}(T:TypeId)(l:List Value)(h:c<H.size):(H.new T l)[c]? =H[c]? :=by simp[Hp.new,Array.getElem?_push,show c≠H.size by omega]
theorem mY(H:Hp){c:Nat}(h:c<H.size):H.gS[c]? =H[c]? :=by simp[Hp.gS,Array.getElem?_push,show c≠H.size by omega]
theorem tM{H H':Hp}{b:Nat}(h:H'[b]? =H[b]?):H'.rd b=H.rd b:=by unfold Hp.rd;rw[h]
theorem oX{H H':Hp}{b:Nat}(h:H'[b]? =H[b]?):H'.own b=H.own b:=by unfold Hp.own;rw[h]
theorem tN{H H':Hp}{b:Nat}(h:H'[b]? =H[b]?):H'.mp b=H.mp b:=by unfold Hp.mp;rw[h]
theorem PW{H:Hp}{b c:Nat}{l:List Value}(h:b≠c):(H.wr b l).rd c=H.rd c:=tM (uv H l h)
theorem jB{H:Hp}{b c:Nat}{l:List Value}(h:b≠c):(H.wr b l).own c=H.own c:=oX (uv H l h)
theorem PX{H:Hp}{b c:Nat}{l:List Value}(h:b≠c):(H.wr b l).mp c=H.mp c:=tN (uv H l h)
theorem Oa{H:Hp}{b c:Nat}{es:List MapEntry}{k:Nat}(h:b≠c):(H.Ch b es k).rd c=H.rd c:=tM (qz H es k h)
theorem Lz{H:Hp}{b c:Nat}{es:List MapEntry}{k:Nat}(h:b≠c):(H.Ch b es k).own c=H.own c:=oX (qz H es k h)
theorem Ob{H:Hp}{b c:Nat}{es:List MapEntry}{k:Nat}(h:b≠c):(H.Ch b es k).mp c=H.mp c:=tN (qz H es k h)
theorem Oc{H:Hp}{c:Nat}{T:TypeId}{l:List Value}(h:c<H.size):(H.new T l).rd c=H.rd c:=tM (qA H T l h)
theorem ce{H:Hp}{c:Nat}{T:TypeId}{l:List Value}(h:c<H.size):(H.new T l).own c=H.own c:=oX (qA H T l h)
theorem Od{H:Hp}{c:Nat}{T:TypeId}{l:List Value}(h:c<H.size):(H.new T l).mp c=H.mp c:=tN (qA H T l h)
theorem LA{H:Hp}{c:Nat}(h:c<H.size):H.gS.rd c=H.rd c:=tM (mY H h)
theorem JH{H:Hp}{c:Nat}(h:c<H.size):H.gS.own c=H.own c:=oX (mY H h)
theorem LC{H:Hp}{c:Nat}(h:c<H.size):H.gS.mp c=H.mp c:=tN (mY H h)
@[go_sem] theorem ax(H:Hp)(T:TypeId)(l:List Value):(H.new T l).own H.size=some l:=by simp[Hp.own,Hp.new]
@[go_sem] theorem WV(H:Hp)(T:TypeId)(l:List Value):(H.new T l).rd H.size=some l:=by simp[Hp.rd,Hp.new]
@[go_sem] theorem Iy(H:Hp):H.gS.mp H.size=some ([],0):=by simp[Hp.mp,Hp.gS]
theorem Oe{H:Hp}{c:Nat}{T:TypeId}{l:List Value}(h:c=H.size):(H.new T l).rd c=some l:=by subst h;exact WV H T l
theorem aQ{H:Hp}{c:Nat}{T:TypeId}{l:List Value}(h:c=H.size):(H.new T l).own c=some l:=by subst h;exact ax H T l
theorem LD{H:Hp}{c:Nat}(h:c=H.size):H.gS.mp c=some ([],0):=by subst h;exact Iy H
theorem ai{H:Hp}{b:Nat}{l l':List Value}(h:H.own b=some l'):(H.wr b l).own b=some l:=by
 unfold Hp.own at h
 split at h
 ·rename_i c t fr hb
  split at h
  ·rename_i hf
   simp[Hp.own,Hp.wr,aoj,hb,hf]
  ·cases h
 ·cases h
theorem Kz{H:Hp}{b:Nat}{l l':List Value}(h:H.AH b=some l')(hl:l.length=l'.length):(H.wr b l).AH b=some l:=by
 unfold Hp.AH at h
 split at h
 ·rename_i c t fr hb
  split at h
  ·rename_i hf
   injection h with h
   have hc:c.size=l.length:=by rw[hl,←h];simp
   simp[Hp.AH,Hp.wr,aoj,hb,hf.1]
   omega
  ·cases h
 ·cases h
theorem KA{H:Hp}{b:Nat}{l l':List Value}(h:ID (H.own b) (H.AH b)=some l')(hl:l.length=l'.length):ID ((H.wr b l).own b) ((H.wr b l).AH b)=some l:=by
 rcases E9 h with h|h
 ·exact MG (ai h)
 ·exact MF (Kz h hl)
theorem pW{H:Hp}{b:Nat}{l l':List Value}(h:H.own b=some l'):(H.wr b l).rd b=some l:=ae (ai h)
theorem kB{H:Hp}{b:Nat}{es:List MapEntry}{k:Nat}{x:List MapEntry×Nat}(h:H.mp b=some x):(H.Ch b es k).mp b=some (es,k):=by
 have:=NA h
 simp[Hp.mp,Hp.Ch,this]
structure ag(S:Nat→Prop)(H H':Hp):Prop where
 size:H.size≤H'.size
 aI:∀b,b<H.size→¬S b→H'[b]? =H[b]?
theorem ag.refl(S:Nat→Prop)(H:Hp):ag S H H:=⟨ano _,fun _ _ _=>rfl⟩
theorem ag.mono{S S':Nat→Prop}{H H':Hp}(h:ag S H H')(hs:∀b,b<H.size→S b→S' b):ag S' H H':=
 ⟨h.size,fun b hb hn=>h.aI b hb fun s=>hn (hs b hb s)⟩
theorem ag.trans{S:Nat→Prop}{A B C:Hp}(h:ag S A B)(k:ag S B C):ag S A C:=
 ⟨an8 h.size k.size,fun b hb hn=>(k.aI b (anB hb h.size) hn).trans (h.aI b hb hn)⟩
theorem ag.me{S S':Nat→Prop}{A B C:Hp}(h:ag S A B)(k:ag S' B C)(hs:∀b,b<A.size→S' b→S b):ag S A C:=
 ⟨an8 h.size k.size,fun b hb hn=>(k.aI b (anB hb h.size) fun s=>hn (hs b hb s)).trans (h.aI b hb hn)⟩
theorem ag.wr{S:Nat→Prop}{A H:Hp}(h:ag S A H){b:Nat}(hb:b<A.size→S b)(l:List Value):ag S A (H.wr b l):=
 ⟨by rw[dT];exact h.size,fun c hc hn=>(uv H l fun e=>hn (by subst e;exact hb hc)).trans (h.aI c hc hn)⟩
theorem ag.Ch{S:Nat→Prop}{A H:Hp}(h:ag S A H){b:Nat}(hb:b<A.size→S b)(es:List MapEntry)(k:Nat):ag S A (H.Ch b es k):=
 ⟨by rw[JG];exact h.size,fun c hc hn=>(qz H es k fun e=>hn (by subst e;exact hb hc)).trans (h.aI c hc hn)⟩
theorem ag.new{S:Nat→Prop}{A H:Hp}(h:ag S A H)(T:TypeId)(l:List Value):ag S A (H.new T l):=
 ⟨by rw[am];exact Nat.le_succ_of_le h.size,fun c hc hn=>(qA H T l (anB hc h.size)).trans (h.aI c hc hn)⟩
theorem ag.gS{S:Nat→Prop}{A H:Hp}(h:ag S A H):ag S A H.gS:=
 ⟨by rw[hZ];exact Nat.le_succ_of_le h.size,fun c hc hn=>(mY H (anB hc h.size)).trans (h.aI c hc hn)⟩
theorem ag.rd{S:Nat→Prop}{H H':Hp}(h:ag S H H'){b:Nat}{l:List Value}(hb:H.rd b=some l)(hn:¬S b):H'.rd b=some l:=
 (tM (h.aI b (ND hb) hn)).trans hb
theorem ag.own{S:Nat→Prop}{H H':Hp}(h:ag S H H'){b:Nat}{l:List Value}(hb:H.own b=some l)(hn:¬S b):H'.own b=some l:=
 (oX (h.aI b (az hb) hn)).trans hb
theorem ag.mp{S:Nat→Prop}{H H':Hp}(h:ag S H H'){b:Nat}{x:List MapEntry×Nat}(hb:H.mp b=some x)(hn:¬S b):H'.mp b=some x:=
 (tN (h.aI b (NA hb) hn)).trans hb
def ah(H H':Hp):Prop:=ag (fun _=>False) H H'
def bf(l:List Value)(off:Nat):List Value→List Value
 | []=>l
 |v::vs=>bf (l.set off v) (off+1) vs
@[go_sem] theorem WW(l:List Value)(off:Nat):bf l off []=l:=(rfl)
@[go_sem] theorem mZ(l:List Value)(off:Nat)(v:Value)(vs:List Value):bf l off (v::vs)=bf (l.set off v) (off+1) vs:=(rfl)
theorem jL(vs:List Value):∀ (l:List Value) (off:Nat),(bf l off vs).length=l.length:=by
 induction vs with
 |nil=>intro l off;rfl
 |cons v vs ih=>intro l off;rw[mZ,ih];simp
theorem getElem?_splice(vs:List Value):∀ (l:List Value) (off j:Nat),off+vs.length≤l.length→
  (bf l off vs)[j]? =if off≤j∧j<off+vs.length then vs[j - off]? else l[j]? :=by
 induction vs with
 |nil=>intro l off j _;rw[if_neg (by simp only[aoi];omega)];rfl
 |cons v vs ih=>
  intro l off j h
  simp only[anw]at h
  rw[mZ,ih _ _ _ (by simp;omega)]
  by_cases h1:off+1≤j∧j<off+1+vs.length
  ·rw[if_pos h1,if_pos ⟨by omega,by simp;omega⟩,show j - off=(j - (off+1))+1 by omega,aod]
  ·rw[if_neg h1]
   by_cases h2:off=j
   ·subst h2
    rw[if_pos ⟨ano _,by simp⟩,ani (by omega)]
    simp
   ·rw[anh h2,if_neg (fun hx=>h1 ⟨by omega,by simp at hx;omega⟩)]
def aF:Value→List Value
 | .agg cs=>cs.toList
 |v=>[v]
theorem eo(v:Value):v.cells.toList=aF v:=by cases v<;>rfl
@[go_sem] theorem WX(l:List Value):aF (.agg l.toArray)=l:=(rfl)
@[go_sem] theorem UA(b:Bool):aF (.bool b)=[.bool b]:=(rfl)
@[go_sem] theorem WY(k:IntKind)(n:Int):aF (.int k n)=[.int k n]:=(rfl)
@[go_sem] theorem Sb(s:ByteArray):aF (.string s)=[.string s]:=(rfl)
@[go_sem] theorem Rv(a:Option Addr):aF (.pointer a)=[.pointer a]:=(rfl)
@[go_sem] theorem TA(a:Option Addr)(n c:Nat):aF (.slice a n c)=[.slice a n c]:=(rfl)
@[go_sem] theorem WZ(r:Option Nat):aF (.map r)=[.map r]:=(rfl)
@[go_sem] theorem TB(t:TypeId)(v:Value):aF (.iface t v)=[.iface t v]:=(rfl)
@[go_sem] theorem PC:aF .nilIface=[.nilIface]:=(rfl)
@[go_sem] theorem Rx:aF .nilFunc=[.nilFunc]:=(rfl)
@[go_sem] theorem UB(f:Fn)(a b:Array Value):aF (.func f a b)=[.func f a b]:=(rfl)
@[go_sem] theorem aa9(b:Bool):(Value.bool b).oneCell'=true:=(rfl)
@[go_sem] theorem adr(k:IntKind)(n:Int):(Value.int k n).oneCell'=true:=(rfl)
@[go_sem] theorem W1(s:ByteArray):(Value.string s).oneCell'=true:=(rfl)
@[go_sem] theorem UC(a:Option Addr):(Value.pointer a).oneCell'=true:=(rfl)
@[go_sem] theorem Yy(a:Option Addr)(n c:Nat):(Value.slice a n c).oneCell'=true:=(rfl)
@[go_sem] theorem ads(r:Option Nat):(Value.map r).oneCell'=true:=(rfl)
@[go_sem] theorem Yz(t:TypeId)(v:Value):(Value.iface t v).oneCell'=true:=(rfl)
@[go_sem] theorem TC:Value.nilIface.oneCell'=true:=(rfl)
@[go_sem] theorem UD:Value.nilFunc.oneCell'=true:=(rfl)
@[go_sem] theorem aba(f:Fn)(a b:Array Value):(Value.func f a b).oneCell'=true:=(rfl)
def qB:List Value→Bool
 | []=>true
 |v::l=>v.oneCell' && qB l
@[go_sem] theorem UE:qB []=true:=(rfl)
@[go_sem] theorem TD(v:Value)(l:List Value):qB (v::l)=(v.oneCell' && qB l):=(rfl)
def gv(l:List Value):Prop:=∀v∈l,v.oneCell'=true
@[go_sem] theorem W2:gv []=True:=by simp[gv]
@[go_sem] theorem UF(v:Value)(l:List Value):gv (v::l)=(v.oneCell'=true∧gv l):=by simp[gv]
theorem O6{l:List Value}(h:qB l=true):gv l:=by
 induction l with
 |nil=>intro v hv;cases hv
 |cons x l ih=>
  simp only[qB,an4]at h
  intro v hv
  rcases anm.1 hv with rfl|hv
  ·exact h.1
  ·exact ih h.2 v hv
theorem mi{w:World}{a:Addr}{l:List Value}(hs:a.spot=none)(h:Hp.rd w.heap a.block=some l):w.cell? a=l[a.off]? :=by
 unfold Hp.rd at h
 unfold World.cell?
 split at h
 ·rename_i c t fr hb
  injection h with h
  rw[hb]
  simp[hs,←h]
 ·cases h
theorem D6{a:Addr}(hs:a.spot=none)(n:Nat):a.add n=⟨a.block,a.off+n,none⟩:=by
 unfold Addr.add
 split
 ·rename_i h;subst h;cases a;simp_all
 ·rfl
@[go_sem] theorem xS(b o n:Nat):(⟨b,o,none⟩:Addr).add n=⟨b,o+n,none⟩:=D6 rfl n
theorem oY{P:Program}{w:World}{a:Addr}{l:List Value}{n:Nat}(hs:a.spot=none)(h:Hp.rd w.heap a.block=some l)(hn:a.off+n≤l.length):
  (loadCells a n).run P w= .ok ((l.drop a.off).take n).toArray w:=by
 have hl:((l.drop a.off).take n).length=n:=by simp;omega
 have h1:=run_loadCells_list (P:=P) w a ((l.drop a.off).take n) fun j v hj=>by
  rw[D6 hs]
  refine(mi (a:=⟨a.block,a.off+j,none⟩) (l:=l) rfl h).trans ?_
  show l[a.off+j]? =some v
  have Yq:j<n:=by
   rcases aow j n with h'|h'
   ·exact h'
   ·rw[ans (by omega)]at hj;cases hj
  rw[anI Yq,anQ]at hj
  exact hj
 rw[hl]at h1
 exact h1
theorem heap_setCell(w:World)(b o:Nat)(v:Value){l:List Value}(h:Hp.rd w.heap b=some l):(w.setCell ⟨b,o,none⟩ v).heap=Hp.wr w.heap b (l.set o v):=by
 unfold Hp.rd at h
 split at h
 ·rename_i c t fr hb
  injection h with h
  have aK:b<w.heap.size:=(aoa.1 hb).1
  simp only[World.setCell,Hp.wr]
  apply Array.ext_getElem?
  intro i
  rw[aoj,aoj]
  by_cases hi:b=i
  ·subst hi
   rw[if_pos rfl,if_pos rfl,hb]
   simp[←h]
   exact Array.ext' (by simp)
  ·rw[if_neg hi,if_neg hi]
 ·cases h
theorem wz{w:World}{b:Nat}{l:List Value}(h:Hp.own w.heap b=some l)(o:Nat):w.frozen? ⟨b,o,none⟩=false:=by
 unfold Hp.own at h
 unfold World.frozen?
 split at h
 ·rename_i c t fr hb
  split at h
  ·rename_i hf;rw[hb];simp[hf]
  ·cases h
 ·cases h
theorem GQ{w:World}{b:Nat}{l:List Value}(h:ID (Hp.own w.heap b) (Hp.AH w.heap b)=some l){o:Nat}(ho:o<l.length):w.frozen? ⟨b,o,none⟩=false:=by
 rcases E9 h with h|h
 ·exact wz h o
 ·unfold Hp.AH at h
  unfold World.frozen?
  split at h
  ·rename_i c t fr hb
   split at h
   ·rename_i hf
    injection h with h
    have hc:c.size=l.length:=by rw[←h];simp
    rw[hb]
    simp
    omega
   ·cases h
  ·cases h
@[go_sem] theorem QI{H:Hp}{b:Nat}{l l':List Value}:(H.wr b l).wr b l'=H.wr b l':=by
 unfold Hp.wr
 apply Array.ext_getElem?
 intro i
 rw[aoj,aoj,aoj]
 by_cases hi:b=i
 ·subst hi
  simp only[if_true]
  cases H[b]? with
  |none=>rfl
  |some x=>cases x<;>rfl
 ·simp[hi]
theorem gW{P:Program}{b o:Nat}:∀ (vs:List Value) (i:Nat) (w:World) (l:List Value),ID (Hp.own w.heap b) (Hp.AH w.heap b)=some l→o+i+vs.length≤l.length→gv vs→
  ∃w',(storeCells ⟨b,o,none⟩ vs i).run P w= .ok () w'∧bX w w'∧(vs≠[]→w'.heap=Hp.wr w.heap b (bf l (o+i) vs))∧(vs=[]→w'.heap=w.heap):=by
 intro vs
 induction vs with
 |nil=>intro i w l _ _ _;exact⟨w,rfl,bX.refl w,fun h=>absurd rfl h,fun _=>rfl⟩
 |cons v vs ih=>
  intro i w l h hn h1
  have hv:v.oneCell'=true:=h1 v anZ
  simp only[anw]at hn
  have hc:w.cell? ⟨b,o+i,none⟩=some l[o+i]:=by rw[mi (l:=l) rfl (Hu h)];simp[show o+i<l.length by omega]
  have sY:(store ((⟨b,o,none⟩:Addr).add i) v).run P w= .ok () (w.setCell ⟨b,o+i,none⟩ v):=by
   rw[xS,run_store P w _ v .plain hv,hc]
   simp[GQ h (show o+i<l.length by omega)]
  have hh:=heap_setCell w b (o+i) v (Hu h)
  have R7:ID (Hp.own (w.setCell ⟨b,o+i,none⟩ v).heap b) (Hp.AH (w.setCell ⟨b,o+i,none⟩ v).heap b)=some (l.set (o+i) v):=by rw[hh];exact KA h (by simp)
  obtain⟨w',hr,hs,hk,Yo⟩:=ih (i+1) (w.setCell ⟨b,o+i,none⟩ v) (l.set (o+i) v) R7 (by simp;omega) (fun x hx=>h1 x (anK _ hx))
  refine⟨w',?_,⟨hs.os,hs.output⟩,fun _=>?_,fun h=>by cases h⟩
  ·simp only[storeCells,Sem.run_bind,sY,Result.andThen_ok]
   exact hr
  ·rw[mZ]
   cases vs with
   |nil=>rw[Yo rfl,hh];rfl
   |cons x xs=>rw[hk (by simp),hh,QI];rfl
end Go.Vc
