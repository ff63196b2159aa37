/- Texts put behind each other. -/
import Derived.Test.YtjlnnljohemifaaGreatK98
import Derived.Test.YtjlnnljohemifaaGreatK5
import Derived.Laws.Cells
set_option maxRecDepth 100000
set_option maxHeartbeats 8000000
set_option linter.unusedVariables false
namespace Go.Vc
def aC{α:Type}(o:Option α)(F:α→Prop)(_t:Tag F:=⟨⟩):Prop:=match o with|some v=>F v|none=>False
@[go_sem] theorem mT{α:Type}(v:α)(F:α→Prop):aC (some v) F=F v:=(rfl)
@[go_sem] theorem XM{α:Type}(F:α→Prop):aC none F=False:=(rfl)
theorem az{α:Type}{o:Option α}{F:α→Prop}(h:aC o F):∃v,o=some v∧F v:=by
 cases o with
 |none=>exact h.elim
 |some v=>exact⟨v,rfl,h⟩
def now{α:Type}(x:α)(F:α→Prop)(_t:Tag F:=⟨⟩):Prop:=F x
@[go_sem] theorem ME{α:Type}(x:α)(F:α→Prop):now x F=F x:=(rfl)
def am(b:Bool)(F:Bool→Prop)(_t:Tag F:=⟨⟩):Prop:=F b
@[go_sem] theorem Ze(F:Bool→Prop):am true F=F true:=(rfl)
@[go_sem] theorem XN(F:Bool→Prop):am false F=F false:=(rfl)
theorem am.intro{b:Bool}{F:Bool→Prop}(ht:b=true→F true)(hf:b=false→F false):am b F:=by
 cases b
 ·exact hf rfl
 ·exact ht rfl
theorem am.dec{p:Prop}[Decidable p]{F:Bool→Prop}(ht:p→F true)(hf:¬p→F false):am (decide p) F:=by
 by_cases h:p
 ·rw[anI h];exact ht h
 ·rw[anV h];exact hf h
def E9(b:Bool)(A B:Prop)(_ta:Tag A:=⟨⟩)(_tb:Tag B:=⟨⟩):Prop:=match b with|true=>A|false=>B
@[go_sem] theorem Sj(A B:Prop):E9 true A B=A:=(rfl)
@[go_sem] theorem Zf(A B:Prop):E9 false A B=B:=(rfl)
@[go_sem] theorem agV:(true==true)=true:=(rfl)
@[go_sem] theorem agW:(true==false)=false:=(rfl)
@[go_sem] theorem agX:(false==true)=false:=(rfl)
@[go_sem] theorem agY:(false==false)=true:=(rfl)
theorem am.cF{b:Bool}{F:Bool→Prop}(hb:b=true)(h:F true):am b F:=by subst hb;exact h
theorem am.aW{b:Bool}{F:Bool→Prop}(hb:b=false)(h:F false):am b F:=by subst hb;exact h
def dm(c:Prop)(F:Prop)(_t:Tag F:=⟨⟩):Prop:=c∧F
@[go_sem] theorem Zg(F:Prop):dm True F=F:=by simp[dm]
theorem dm.mk{c F:Prop}(h:c)(f:F):dm c F:=⟨h,f⟩
@[go_sem] theorem ad5{α:Sort _}(a:α)(F:Prop):dm (a=a) F=F:=by simp[dm]
def aw(p:Prop)(_t:Tag p:=⟨⟩):Prop:=p
theorem aw.out{p:Prop}(h:aw p):p:=h
def zP(v:Value)(F:Bool→Prop)(_t:Tag F:=⟨⟩):Prop:=match v with| .bool b=>am b F|_=>False
@[go_sem] theorem XO(b:Bool)(F:Bool→Prop):zP (.bool b) F=am b F:=(rfl)
def Hp.rd(H:Hp)(b:Nat):Option (List Value):=match H[b]? with|some (.cells c _ _)=>some c.toList|_=>none
def Hp.own(H:Hp)(b:Nat):Option (List Value):=match H[b]? with|some (.cells c _ fr)=>if fr=(0,0)then some c.toList else none|_=>none
def Hp.BD(H:Hp)(b:Nat):Option (List Value):=match H[b]? with|some (.cells c _ fr)=>if fr.2=fr.1+1∧c.size≤fr.1 then some c.toList else none|_=>none
def I0{α:Type}(x y:Option α):Option α:=match x with|some v=>some v|none=>y
@[go_sem] theorem SG{α:Type}(v:α)(y:Option α):I0 (some v) y=some v:=(rfl)
@[go_sem] theorem SH{α:Type}(y:Option α):I0 none y=y:=(rfl)
def Hp.wr(H:Hp)(b:Nat)(l:List Value):Hp:=H.modify b fun| .cells _ t fr=>.cells l.toArray t fr|o=>o
def Hp.mp(H:Hp)(b:Nat):Option (List MapEntry×Nat):=match H[b]? with|some (.map es k)=>some (es.toList,k)|_=>none
def Hp.C9(H:Hp)(b:Nat)(es:List MapEntry)(k:Nat):Hp:=H.setIfInBounds b (.map es.toArray k)
def Hp.new(H:Hp)(T:TypeId)(l:List Value):Hp:=H.push (.cells l.toArray T)
def Hp.Mt(H:Hp)(T:TypeId)(l:List Value):Hp:=H.push (.cells l.toArray T (l.length,l.length+1))
def Hp.iI(H:Hp):Hp:=H.push (.map #[] 0)
theorem ae{H:Hp}{b:Nat}{l:List Value}(h:H.own b=some l):H.rd b=some l:=by
 unfold Hp.own at h
 unfold Hp.rd
 split at h
 ·rename_i c t fr hb
  split at h
  ·simpa using h
  ·cases h
 ·cases h
theorem aA{H:Hp}{b:Nat}{l:List Value}(h:H.own b=some l):b<H.size:=by
 rcases aoL b H.size with h'|h'
 ·exact h'
 ·simp[Hp.own,aoJ h']at h
theorem NY{H:Hp}{b:Nat}{l:List Value}(h:H.rd b=some l):b<H.size:=by
 rcases aoL b H.size with h'|h'
 ·exact h'
 ·simp[Hp.rd,aoJ h']at h
theorem N0{H:Hp}{b:Nat}{x:List MapEntry×Nat}(h:H.mp b=some x):b<H.size:=by
 rcases aoL b H.size with h'|h'
 ·exact h'
 ·simp[Hp.mp,aoJ h']at h
theorem Qn{H:Hp}{b:Nat}{l:List Value}(h:H.BD b=some l):H.rd b=some l:=by
 unfold Hp.BD at h
 unfold Hp.rd
 split at h
 ·rename_i c t fr hb
  split at h
  ·simpa using h
  ·cases h
 ·cases h
theorem NK{H:Hp}{b:Nat}{l:List Value}(h:H.BD b=some l):H.own b=none:=by
 unfold Hp.BD at h
 unfold Hp.own
 split at h
 ·rename_i c t fr hb
  split at h
  ·rename_i hf
   refine if_neg fun e=>?_
   rw[e]at hf
   simp at hf
  ·cases h
 ·cases h
theorem Gp{H:Hp}{b:Nat}{l:List Value}(h:I0 (H.own b) (H.BD b)=some l):H.own b=some l∨H.BD b=some l:=by
 cases ho:H.own b with
 |none=>rw[ho,SH]at h;exact .inr h
 |some x=>rw[ho,SG]at h;injection h with h;subst h;exact .inl rfl
theorem IG{H:Hp}{b:Nat}{l:List Value}(h:I0 (H.own b) (H.BD b)=some l):H.rd b=some l:=by
 rcases Gp h with h|h
 ·exact ae h
 ·exact Qn h
theorem NL{H:Hp}{b:Nat}{l:List Value}(h:H.BD b=some l):I0 (H.own b) (H.BD b)=some l:=by rw[NK h,h];rfl
theorem NM{H:Hp}{b:Nat}{l:List Value}(h:H.own b=some l):I0 (H.own b) (H.BD b)=some l:=by rw[h];rfl
@[go_sem] theorem ec(H:Hp)(b:Nat)(l:List Value):(H.wr b l).size=H.size:=by simp[Hp.wr]
@[go_sem] theorem K4(H:Hp)(b:Nat)(es:List MapEntry)(k:Nat):(H.C9 b es k).size=H.size:=by simp[Hp.C9]
@[go_sem] theorem aq(H:Hp)(T:TypeId)(l:List Value):(H.new T l).size=H.size+1:=by simp[Hp.new]
@[go_sem] theorem iA(H:Hp):H.iI.size=H.size+1:=by simp[Hp.iI]
@[go_sem] theorem OY(H:Hp)(T:TypeId)(l:List Value):(H.Mt T l).size=H.size+1:=by simp[Hp.Mt]
theorem Kj(H:Hp){c:Nat}(T:TypeId)(l:List Value)(h:c<H.size):(H.Mt T l)[c]? =H[c]? :=by simp[Hp.Mt,Array.getElem?_push,show c≠H.size by omega]
theorem vC(H:Hp){b c:Nat}(l:List Value)(h:b≠c):(H.wr b l)[c]? =H[c]? :=by simp[Hp.wr,aoz,h]
theorem sd(H:Hp){b c:Nat}(es:List MapEntry)(k:Nat)(h:b≠c):(H.C9 b es k)[c]? =H[c]? :=by simp[Hp.C9,Array.getElem?_setIfInBounds_ne h]
theorem se(H:Hp){c:Nat}(T:TypeId)(l:List Value)(h:c<H.size):(H.new T l)[c]? =H[c]? :=by simp[Hp.new,Array.getElem?_push,show c≠H.size by omega]
theorem ot(H:Hp){c:Nat}(h:c<H.size):H.iI[c]? =H[c]? :=by simp[Hp.iI,Array.getElem?_push,show c≠H.size by omega]
theorem uX{H H':Hp}{b:Nat}(h:H'[b]? =H[b]?):H'.rd b=H.rd b:=by unfold Hp.rd;rw[h]
theorem qw{H H':Hp}{b:Nat}(h:H'[b]? =H[b]?):H'.own b=H.own b:=by unfold Hp.own;rw[h]
theorem uY{H H':Hp}{b:Nat}(h:H'[b]? =H[b]?):H'.mp b=H.mp b:=by unfold Hp.mp;rw[h]
theorem Rb{H:Hp}{b c:Nat}{l:List Value}(h:b≠c):(H.wr b l).rd c=H.rd c:=uX (vC H l h)
theorem pY{H:Hp}{b c:Nat}{l:List Value}(h:b≠c):(H.wr b l).own c=H.own c:=qw (vC H l h)
theorem Rc{H:Hp}{b c:Nat}{l:List Value}(h:b≠c):(H.wr b l).mp c=H.mp c:=uY (vC H l h)
theorem Pj{H:Hp}{b c:Nat}{es:List MapEntry}{k:Nat}(h:b≠c):(H.C9 b es k).rd c=H.rd c:=uX (sd H es k h)
theorem MW{H:Hp}{b c:Nat}{es:List MapEntry}{k:Nat}(h:b≠c):(H.C9 b es k).own c=H.own c:=qw (sd H es k h)
theorem Pk{H:Hp}{b c:Nat}{es:List MapEntry}{k:Nat}(h:b≠c):(H.C9 b es k).mp c=H.mp c:=uY (sd H es k h)
theorem Pm{H:Hp}{c:Nat}{T:TypeId}{l:List Value}(h:c<H.size):(H.new T l).rd c=H.rd c:=uX (se H T l h)
theorem ci{H:Hp}{c:Nat}{T:TypeId}{l:List Value}(h:c<H.size):(H.new T l).own c=H.own c:=qw (se H T l h)
theorem Pn{H:Hp}{c:Nat}{T:TypeId}{l:List Value}(h:c<H.size):(H.new T l).mp c=H.mp c:=uY (se H T l h)
theorem MX{H:Hp}{c:Nat}(h:c<H.size):H.iI.rd c=H.rd c:=uX (ot H h)
theorem K5{H:Hp}{c:Nat}(h:c<H.size):H.iI.own c=H.own c:=qw (ot H h)
theorem MY{H:Hp}{c:Nat}(h:c<H.size):H.iI.mp c=H.mp c:=uY (ot H h)
@[go_sem] theorem aB(H:Hp)(T:TypeId)(l:List Value):(H.new T l).own H.size=some l:=by simp[Hp.own,Hp.new]
@[go_sem] theorem XP(H:Hp)(T:TypeId)(l:List Value):(H.new T l).rd H.size=some l:=by simp[Hp.rd,Hp.new]
@[go_sem] theorem NZ(H:Hp):H.iI.mp H.size=some ([],0):=by simp[Hp.mp,Hp.iI]
theorem Po{H:Hp}{c:Nat}{T:TypeId}{l:List Value}(h:c=H.size):(H.new T l).rd c=some l:=by subst h;exact XP H T l
theorem aV{H:Hp}{c:Nat}{T:TypeId}{l:List Value}(h:c=H.size):(H.new T l).own c=some l:=by subst h;exact aB H T l
theorem MZ{H:Hp}{c:Nat}(h:c=H.size):H.iI.mp c=some ([],0):=by subst h;exact NZ H
theorem ah{H:Hp}{b:Nat}{l l':List Value}(h:H.own b=some l'):(H.wr b l).own b=some l:=by
 unfold Hp.own at h
 split at h
 ·rename_i c t fr hb
  split at h
  ·rename_i hf
   simp[Hp.own,Hp.wr,aoz,hb,hf]
  ·cases h
 ·cases h
theorem LU{H:Hp}{b:Nat}{l l':List Value}(h:H.BD b=some l')(hl:l.length=l'.length):(H.wr b l).BD b=some l:=by
 unfold Hp.BD at h
 split at h
 ·rename_i c t fr hb
  split at h
  ·rename_i hf
   injection h with h
   have hc:c.size=l.length:=by rw[hl,←h];simp
   simp[Hp.BD,Hp.wr,aoz,hb,hf.1]
   omega
  ·cases h
 ·cases h
theorem LV{H:Hp}{b:Nat}{l l':List Value}(h:I0 (H.own b) (H.BD b)=some l')(hl:l.length=l'.length):I0 ((H.wr b l).own b) ((H.wr b l).BD b)=some l:=by
 rcases Gp h with h|h
 ·exact NM (ah h)
 ·exact NL (LU h hl)
theorem rM{H:Hp}{b:Nat}{l l':List Value}(h:H.own b=some l'):(H.wr b l).rd b=some l:=ae (ah h)
theorem kF{H:Hp}{b:Nat}{es:List MapEntry}{k:Nat}{x:List MapEntry×Nat}(h:H.mp b=some x):(H.C9 b es k).mp b=some (es,k):=by
 have:=N0 h
 simp[Hp.mp,Hp.C9,this]
structure ag(S:Nat→Prop)(H H':Hp):Prop where
 size:H.size≤H'.size
 aM:∀b,b<H.size→¬S b→H'[b]? =H[b]?
theorem ag.refl(S:Nat→Prop)(H:Hp):ag S H H:=⟨anG _,fun _ _ _=>rfl⟩
theorem ag.mono{S S':Nat→Prop}{H H':Hp}(h:ag S H H')(hs:∀b,b<H.size→S b→S' b):ag S' H H':=
 ⟨h.size,fun b hb hn=>h.aM b hb fun s=>hn (hs b hb s)⟩
theorem ag.trans{S:Nat→Prop}{A B C:Hp}(h:ag S A B)(k:ag S B C):ag S A C:=
 ⟨aor h.size k.size,fun b hb hn=>(k.aM b (anT hb h.size) hn).trans (h.aM b hb hn)⟩
theorem ag.oJ{S S':Nat→Prop}{A B C:Hp}(h:ag S A B)(k:ag S' B C)(hs:∀b,b<A.size→S' b→S b):ag S A C:=
 ⟨aor h.size k.size,fun b hb hn=>(k.aM b (anT hb h.size) fun s=>hn (hs b hb s)).trans (h.aM b hb hn)⟩
theorem ag.wr{S:Nat→Prop}{A H:Hp}(h:ag S A H){b:Nat}(hb:b<A.size→S b)(l:List Value):ag S A (H.wr b l):=
 ⟨by rw[ec];exact h.size,fun c hc hn=>(vC H l fun e=>hn (by subst e;exact hb hc)).trans (h.aM c hc hn)⟩
theorem ag.C9{S:Nat→Prop}{A H:Hp}(h:ag S A H){b:Nat}(hb:b<A.size→S b)(es:List MapEntry)(k:Nat):ag S A (H.C9 b es k):=
 ⟨by rw[K4];exact h.size,fun c hc hn=>(sd H es k fun e=>hn (by subst e;exact hb hc)).trans (h.aM c hc hn)⟩
theorem ag.new{S:Nat→Prop}{A H:Hp}(h:ag S A H)(T:TypeId)(l:List Value):ag S A (H.new T l):=
 ⟨by rw[aq];exact Nat.le_succ_of_le h.size,fun c hc hn=>(se H T l (anT hc h.size)).trans (h.aM c hc hn)⟩
theorem ag.iI{S:Nat→Prop}{A H:Hp}(h:ag S A H):ag S A H.iI:=
 ⟨by rw[iA];exact Nat.le_succ_of_le h.size,fun c hc hn=>(ot H (anT hc h.size)).trans (h.aM c hc hn)⟩
theorem ag.rd{S:Nat→Prop}{H H':Hp}(h:ag S H H'){b:Nat}{l:List Value}(hb:H.rd b=some l)(hn:¬S b):H'.rd b=some l:=
 (uX (h.aM b (NY hb) hn)).trans hb
theorem ag.own{S:Nat→Prop}{H H':Hp}(h:ag S H H'){b:Nat}{l:List Value}(hb:H.own b=some l)(hn:¬S b):H'.own b=some l:=
 (qw (h.aM b (aA hb) hn)).trans hb
theorem ag.mp{S:Nat→Prop}{H H':Hp}(h:ag S H H'){b:Nat}{x:List MapEntry×Nat}(hb:H.mp b=some x)(hn:¬S b):H'.mp b=some x:=
 (uY (h.aM b (N0 hb) hn)).trans hb
def ai(H H':Hp):Prop:=ag (fun _=>False) H H'
def bh(l:List Value)(off:Nat):List Value→List Value
 | []=>l
 |v::vs=>bh (l.set off v) (off+1) vs
@[go_sem] theorem XQ(l:List Value)(off:Nat):bh l off []=l:=(rfl)
@[go_sem] theorem ou(l:List Value)(off:Nat)(v:Value)(vs:List Value):bh l off (v::vs)=bh (l.set off v) (off+1) vs:=(rfl)
theorem ke(vs:List Value):∀ (l:List Value) (off:Nat),(bh l off vs).length=l.length:=by
 induction vs with
 |nil=>intro l off;rfl
 |cons v vs ih=>intro l off;rw[ou,ih];simp
theorem getElem?_splice(vs:List Value):∀ (l:List Value) (off j:Nat),off+vs.length≤l.length→
  (bh l off vs)[j]? =if off≤j∧j<off+vs.length then vs[j - off]? else l[j]? :=by
 induction vs with
 |nil=>intro l off j _;rw[if_neg (by simp only[aoH];omega)];rfl
 |cons v vs ih=>
  intro l off j h
  simp only[anO]at h
  rw[ou,ih _ _ _ (by simp;omega)]
  by_cases h1:off+1≤j∧j<off+1+vs.length
  ·rw[if_pos h1,if_pos ⟨by omega,by simp;omega⟩,show j - off=(j - (off+1))+1 by omega,aov]
  ·rw[if_neg h1]
   by_cases h2:off=j
   ·subst h2
    rw[if_pos ⟨anG _,by simp⟩,anB (by omega)]
    simp
   ·rw[anA h2,if_neg (fun hx=>h1 ⟨by omega,by simp at hx;omega⟩)]
def aH:Value→List Value
 | .agg cs=>cs.toList
 |v=>[v]
theorem ee(v:Value):v.cells.toList=aH v:=by cases v<;>rfl
@[go_sem] theorem XR(l:List Value):aH (.agg l.toArray)=l:=(rfl)
@[go_sem] theorem Vy(b:Bool):aH (.bool b)=[.bool b]:=(rfl)
@[go_sem] theorem XS(k:IntKind)(n:Int):aH (.int k n)=[.int k n]:=(rfl)
@[go_sem] theorem Tc(s:ByteArray):aH (.string s)=[.string s]:=(rfl)
@[go_sem] theorem SI(a:Option Addr):aH (.pointer a)=[.pointer a]:=(rfl)
@[go_sem] theorem UB(a:Option Addr)(n c:Nat):aH (.slice a n c)=[.slice a n c]:=(rfl)
@[go_sem] theorem XT(r:Option Nat):aH (.map r)=[.map r]:=(rfl)
@[go_sem] theorem UC(t:TypeId)(v:Value):aH (.iface t v)=[.iface t v]:=(rfl)
@[go_sem] theorem QG:aH .nilIface=[.nilIface]:=(rfl)
@[go_sem] theorem SJ:aH .nilFunc=[.nilFunc]:=(rfl)
@[go_sem] theorem Vz(f:Fn)(a b:Array Value):aH (.func f a b)=[.func f a b]:=(rfl)
@[go_sem] theorem ab3(b:Bool):(Value.bool b).oneCell'=true:=(rfl)
@[go_sem] theorem ad6(k:IntKind)(n:Int):(Value.int k n).oneCell'=true:=(rfl)
@[go_sem] theorem XU(s:ByteArray):(Value.string s).oneCell'=true:=(rfl)
@[go_sem] theorem VA(a:Option Addr):(Value.pointer a).oneCell'=true:=(rfl)
@[go_sem] theorem Zh(a:Option Addr)(n c:Nat):(Value.slice a n c).oneCell'=true:=(rfl)
@[go_sem] theorem ad7(r:Option Nat):(Value.map r).oneCell'=true:=(rfl)
@[go_sem] theorem Zi(t:TypeId)(v:Value):(Value.iface t v).oneCell'=true:=(rfl)
@[go_sem] theorem UD:Value.nilIface.oneCell'=true:=(rfl)
@[go_sem] theorem VB:Value.nilFunc.oneCell'=true:=(rfl)
@[go_sem] theorem ab4(f:Fn)(a b:Array Value):(Value.func f a b).oneCell'=true:=(rfl)
def sf:List Value→Bool
 | []=>true
 |v::l=>v.oneCell' && sf l
@[go_sem] theorem VC:sf []=true:=(rfl)
@[go_sem] theorem UE(v:Value)(l:List Value):sf (v::l)=(v.oneCell' && sf l):=(rfl)
def gz(l:List Value):Prop:=∀v∈l,v.oneCell'=true
@[go_sem] theorem XV:gz []=True:=by simp[gz]
@[go_sem] theorem VD(v:Value)(l:List Value):gz (v::l)=(v.oneCell'=true∧gz l):=by simp[gz]
theorem OT{l:List Value}(h:sf l=true):gz l:=by
 induction l with
 |nil=>intro v hv;cases hv
 |cons x l ih=>
  simp only[sf,aol]at h
  intro v hv
  rcases anF.1 hv with rfl|hv
  ·exact h.1
  ·exact ih h.2 v hv
theorem nq{w:World}{a:Addr}{l:List Value}(hs:a.spot=none)(h:Hp.rd w.heap a.block=some l):w.cell? a=l[a.off]? :=by
 unfold Hp.rd at h
 unfold World.cell?
 split at h
 ·rename_i c t fr hb
  injection h with h
  rw[hb]
  simp[hs,←h]
 ·cases h
theorem Fw{a:Addr}(hs:a.spot=none)(n:Nat):a.add n=⟨a.block,a.off+n,none⟩:=by
 unfold Addr.add
 split
 ·rename_i h;subst h;cases a;simp_all
 ·rfl
@[go_sem] theorem xY(b o n:Nat):(⟨b,o,none⟩:Addr).add n=⟨b,o+n,none⟩:=Fw rfl n
theorem pC{P:Program}{w:World}{a:Addr}{l:List Value}{n:Nat}(hs:a.spot=none)(h:Hp.rd w.heap a.block=some l)(hn:a.off+n≤l.length):
  (loadCells a n).run P w= .ok ((l.drop a.off).take n).toArray w:=by
 have hl:((l.drop a.off).take n).length=n:=by simp;omega
 have h1:=run_loadCells_list (P:=P) w a ((l.drop a.off).take n) fun j v hj=>by
  rw[Fw hs]
  refine(nq (a:=⟨a.block,a.off+j,none⟩) (l:=l) rfl h).trans ?_
  show l[a.off+j]? =some v
  have hjn:j<n:=by
   rcases aoL j n with h'|h'
   ·exact h'
   ·rw[anK (by omega)]at hj;cases hj
  rw[an3 hjn,aob]at hj
  exact hj
 rw[hl]at h1
 exact h1
theorem heap_setCell(w:World)(b o:Nat)(v:Value){l:List Value}(h:Hp.rd w.heap b=some l):(w.setCell ⟨b,o,none⟩ v).heap=Hp.wr w.heap b (l.set o v):=by
 unfold Hp.rd at h
 split at h
 ·rename_i c t fr hb
  injection h with h
  have aO:b<w.heap.size:=(aot.1 hb).1
  simp only[World.setCell,Hp.wr]
  apply Array.ext_getElem?
  intro i
  rw[aoz,aoz]
  by_cases hi:b=i
  ·subst hi
   rw[if_pos rfl,if_pos rfl,hb]
   simp[←h]
   exact Array.ext' (by simp)
  ·rw[if_neg hi,if_neg hi]
 ·cases h
theorem xG{w:World}{b:Nat}{l:List Value}(h:Hp.own w.heap b=some l)(o:Nat):w.frozen? ⟨b,o,none⟩=false:=by
 unfold Hp.own at h
 unfold World.frozen?
 split at h
 ·rename_i c t fr hb
  split at h
  ·rename_i hf;rw[hb];simp[hf]
  ·cases h
 ·cases h
theorem HW{w:World}{b:Nat}{l:List Value}(h:I0 (Hp.own w.heap b) (Hp.BD w.heap b)=some l){o:Nat}(ho:o<l.length):w.frozen? ⟨b,o,none⟩=false:=by
 rcases Gp h with h|h
 ·exact xG h o
 ·unfold Hp.BD at h
  unfold World.frozen?
  split at h
  ·rename_i c t fr hb
   split at h
   ·rename_i hf
    injection h with h
    have hc:c.size=l.length:=by rw[←h];simp
    rw[hb]
    simp
    omega
   ·cases h
  ·cases h
@[go_sem] theorem RS{H:Hp}{b:Nat}{l l':List Value}:(H.wr b l).wr b l'=H.wr b l':=by
 unfold Hp.wr
 apply Array.ext_getElem?
 intro i
 rw[aoz,aoz,aoz]
 by_cases hi:b=i
 ·subst hi
  simp only[if_true]
  cases H[b]? with
  |none=>rfl
  |some x=>cases x<;>rfl
 ·simp[hi]
theorem gZ{P:Program}{b o:Nat}:∀ (vs:List Value) (i:Nat) (w:World) (l:List Value),I0 (Hp.own w.heap b) (Hp.BD w.heap b)=some l→o+i+vs.length≤l.length→gz vs→
  ∃w',(storeCells ⟨b,o,none⟩ vs i).run P w= .ok () w'∧bZ w w'∧(vs≠[]→w'.heap=Hp.wr w.heap b (bh l (o+i) vs))∧(vs=[]→w'.heap=w.heap):=by
 intro vs
 induction vs with
 |nil=>intro i w l _ _ _;exact⟨w,rfl,bZ.refl w,fun h=>absurd rfl h,fun _=>rfl⟩
 |cons v vs ih=>
  intro i w l h hn h1
  have hv:v.oneCell'=true:=h1 v aok
  simp only[anO]at hn
  have hc:w.cell? ⟨b,o+i,none⟩=some l[o+i]:=by rw[nq (l:=l) rfl (IG h)];simp[show o+i<l.length by omega]
  have tK:(store ((⟨b,o,none⟩:Addr).add i) v).run P w= .ok () (w.setCell ⟨b,o+i,none⟩ v):=by
   rw[xY,run_store P w _ v .plain hv,hc]
   simp[HW h (show o+i<l.length by omega)]
  have hh:=heap_setCell w b (o+i) v (IG h)
  have Ul:I0 (Hp.own (w.setCell ⟨b,o+i,none⟩ v).heap b) (Hp.BD (w.setCell ⟨b,o+i,none⟩ v).heap b)=some (l.set (o+i) v):=by rw[hh];exact LV h (by simp)
  obtain⟨w',hr,hs,hk,Uj⟩:=ih (i+1) (w.setCell ⟨b,o+i,none⟩ v) (l.set (o+i) v) Ul (by simp;omega) (fun x hx=>h1 x (anZ _ hx))
  refine⟨w',?_,⟨hs.os,hs.output⟩,fun _=>?_,fun h=>by cases h⟩
  ·simp only[storeCells,Sem.run_bind,tK,Result.andThen_ok]
   exact hr
  ·rw[ou]
   cases vs with
   |nil=>rw[Uj rfl,hh];rfl
   |cons x xs=>rw[hk (by simp),hh,RS];rfl
end Go.Vc
