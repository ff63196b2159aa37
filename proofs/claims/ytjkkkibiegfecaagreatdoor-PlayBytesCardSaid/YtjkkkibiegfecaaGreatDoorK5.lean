/- Texts put behind each other. -/
import Derived.Test.YtjkkkibiegfecaaGreatDoorK4
import Derived.Laws.Cells
set_option linter.unusedVariables false
set_option maxRecDepth 100000
set_option maxHeartbeats 8000000
namespace Go.Vc
section
variable{H J A B C:Hp}{b c k o:Nat}{l:List Value}{T:TypeId}{w:World}{a:Addr}{p:Prop}
def aE{α:Type}(o:Option α)(F:α->Prop)(_t:Tag F:=⟨⟩):Prop:=match o with|some v=>F v|none=>False
@[go_sem] theorem vQ{α:Type}(v:α)(F:α->Prop):aE (some v) F=F v:=(rfl)
@[go_sem] theorem T4{α:Type}(F:α->Prop):aE none F=False:=(rfl)
theorem aB{α:Type}{o:Option α}{F:α->Prop}(h:aE o F):∃v,o=some v/\F v:=by
 cases o with
 |none=>exact h.elim
 |some v=>exact⟨v,rfl,h⟩
theorem D9{α:Type}{o:Option α}{F:α->Prop}{v:α}(h:o=some v)(x:F v):aE o F:=by rw[h];exact x
def now{α:Type}(x:α)(F:α->Prop)(_t:Tag F:=⟨⟩):Prop:=F x
@[go_sem] theorem Kf{α:Type}(x:α)(F:α->Prop):now x F=F x:=(rfl)
def ai(b:Bool)(F:Bool->Prop)(_t:Tag F:=⟨⟩):Prop:=F b
@[go_sem] theorem Vu(F:Bool->Prop):ai true F=F true:=(rfl)
@[go_sem] theorem T5(F:Bool->Prop):ai false F=F false:=(rfl)
theorem ai.intro{b:Bool}{F:Bool->Prop}(h:b=true->F true)(x:b=false->F false):ai b F:=by
 cases b
 ·exact x rfl
 ·exact h rfl
theorem ai.dec[Decidable p]{F:Bool->Prop}(z:p->F true)(x:¬p->F false):ai (decide p) F:=by
 by_cases h:p
 ·rw[ajQ h];exact z h
 ·rw[ajO h];exact x h
def Cx(b:Bool)(A B:Prop)(_ta:Tag A:=⟨⟩)(_tb:Tag B:=⟨⟩):Prop:=match b with|true=>A|false=>B
@[go_sem] theorem O6(A B:Prop):Cx true A B=A:=(rfl)
@[go_sem] theorem Vv(A B:Prop):Cx false A B=B:=(rfl)
@[go_sem] theorem acq:(true==true)=true:=(rfl)
@[go_sem] theorem acr:(true==false)=false:=(rfl)
@[go_sem] theorem acs:(false==true)=false:=(rfl)
@[go_sem] theorem acu:(false==false)=true:=(rfl)
theorem ai.bY{b:Bool}{F:Bool->Prop}(x:b=true)(h:F true):ai b F:=by subst x;exact h
theorem ai.aX{b:Bool}{F:Bool->Prop}(x:b=false)(h:F false):ai b F:=by subst x;exact h
def dZ(c:Prop)(F:Prop)(_t:Tag F:=⟨⟩):Prop:=c/\F
@[go_sem] theorem Vw(F:Prop):dZ True F=F:=by simp[dZ]
@[go_sem] theorem ZF{α:Sort _}(a:α)(F:Prop):dZ (a=a) F=F:=by simp[dZ]
def ak(p:Prop)(_t:Tag p:=⟨⟩):Prop:=p
theorem ak.out(h:ak p):p:=h
def xq(v:Value)(F:Bool->Prop)(_t:Tag F:=⟨⟩):Prop:=match v with| .bool b=>ai b F|_=>False
@[go_sem] theorem T6(b:Bool)(F:Bool->Prop):xq (.bool b) F=ai b F:=(rfl)
def Hp.rd(H:Hp)(b:Nat):Option (List Value):=match H[b]? with|some (.cells c _ _)=>some c.toList|_=>none
def Hp.own(H:Hp)(b:Nat):Option (List Value):=match H[b]? with|some (.cells c _ x)=>if x=(0,0)then some c.toList else none|_=>none
def Hp.xd(H:Hp)(b:Nat):Option (List Value):=match H[b]? with|some (.cells c _ x)=>if x.2=x.1+1/\c.size<=x.1 then some c.toList else none|_=>none
def EG{α:Type}(x y:Option α):Option α:=match x with|some v=>some v|none=>y
@[go_sem] theorem PD{α:Type}(v:α)(y:Option α):EG (some v) y=some v:=(rfl)
@[go_sem] theorem PE{α:Type}(y:Option α):EG none y=y:=(rfl)
def Hp.wr(H:Hp)(b:Nat)(l:List Value):Hp:=H.modify b fun| .cells _ t x=>.cells l.toArray t x|o=>o
def Hp.mp(H:Hp)(b:Nat):Option (List MapEntry×Nat):=match H[b]? with|some (.map es k)=>some (es.toList,k)|_=>none
def Hp.A9(H:Hp)(b:Nat)(es:List MapEntry)(k:Nat):Hp:=H.setIfInBounds b (.map es.toArray k)
def Hp.new(H:Hp)(T:TypeId)(l:List Value):Hp:=H.push (.cells l.toArray T)
def Hp.JY(H:Hp)(T:TypeId)(l:List Value):Hp:=H.push (.cells l.toArray T (l.length,l.length+1))
def Hp.iG(H:Hp):Hp:=H.push (.map #[] 0)
theorem ae(h:H.own b=some l):H.rd b=some l:=by
 unfold Hp.own at h;unfold Hp.rd;grind
theorem aC(h:H.own b=some l):b<H.size:=by
 rcases aky b H.size with x|x
 ·exact x
 ·simp[Hp.own,akW x]at h
theorem FY(h:H.rd b=some l):b<H.size:=by
 rcases aky b H.size with x|x
 ·exact x
 ·simp[Hp.rd,akW x]at h
theorem NU{x:List MapEntry×Nat}(h:H.mp b=some x):b<H.size:=by
 rcases aky b H.size with z|z
 ·exact z
 ·simp[Hp.mp,akW z]at h
theorem Ng(h:H.xd b=some l):H.rd b=some l:=by
 unfold Hp.xd at h;unfold Hp.rd;grind
theorem Lo(h:H.xd b=some l):H.own b=none:=by
 unfold Hp.xd at h;unfold Hp.own;split at h
 ·grind
 rfl
theorem En(h:EG (H.own b) (H.xd b)=some l):H.own b=some l\/H.xd b=some l:=by
 cases z:H.own b with
 |none=>rw[z,PE]at h;grind
 |some x=>rw[z,PD]at h;grind
theorem Gp(h:EG (H.own b) (H.xd b)=some l):H.rd b=some l:=by
 rcases En h with h|h
 ·exact ae h
 ·exact Ng h
theorem Lp(h:H.xd b=some l):EG (H.own b) (H.xd b)=some l:=by rw[Lo h,h];rfl
theorem Db(h:H.own b=some l):EG (H.own b) (H.xd b)=some l:=by rw[h];rfl
@[go_sem] theorem bH(H:Hp)(b:Nat)(l:List Value):(H.wr b l).size=H.size:=by simp[Hp.wr]
@[go_sem] theorem IU(H:Hp)(b:Nat)(es:List MapEntry)(k:Nat):(H.A9 b es k).size=H.size:=by simp[Hp.A9]
@[go_sem] theorem ag(H:Hp)(T:TypeId)(l:List Value):(H.new T l).size=H.size+1:=by simp[Hp.new]
@[go_sem] theorem jw(H:Hp):H.iG.size=H.size+1:=by simp[Hp.iG]
@[go_sem] theorem Md(H:Hp)(T:TypeId)(l:List Value):(H.JY T l).size=H.size+1:=by simp[Hp.JY]
theorem Ib(H:Hp)(T:TypeId)(l:List Value)(h:c<H.size):(H.JY T l)[c]? =H[c]? :=by simp[Hp.JY,Array.getElem?_push,show c≠H.size by omega]
theorem lw(H:Hp)(l:List Value)(h:b≠c):(H.wr b l)[c]? =H[c]? :=by simp[Hp.wr,akz,h]
theorem qj(H:Hp)(es:List MapEntry)(k:Nat)(h:b≠c):(H.A9 b es k)[c]? =H[c]? :=by simp[Hp.A9,Array.getElem?_setIfInBounds_ne h]
theorem lR(H:Hp)(T:TypeId)(l:List Value)(h:c<H.size):(H.new T l)[c]? =H[c]? :=by simp[Hp.new,Array.getElem?_push,show c≠H.size by omega]
theorem mZ(H:Hp)(h:c<H.size):H.iG[c]? =H[c]? :=by simp[Hp.iG,Array.getElem?_push,show c≠H.size by omega]
theorem tq(h:J[b]? =H[b]?):J.rd b=H.rd b:=by unfold Hp.rd;rw[h]
theorem oM(h:J[b]? =H[b]?):J.own b=H.own b:=by unfold Hp.own;rw[h]
theorem tu(h:J[b]? =H[b]?):J.mp b=H.mp b:=by unfold Hp.mp;rw[h]
theorem NZ(h:b≠c):(H.wr b l).rd c=H.rd c:=tq (lw H l h)
theorem aG(h:b≠c):(H.wr b l).own c=H.own c:=oM (lw H l h)
theorem N0(h:b≠c):(H.wr b l).mp c=H.mp c:=tu (lw H l h)
theorem Mv{es:List MapEntry}(h:b≠c):(H.A9 b es k).rd c=H.rd c:=tq (qj H es k h)
theorem Ku{es:List MapEntry}(h:b≠c):(H.A9 b es k).own c=H.own c:=oM (qj H es k h)
theorem Mw{es:List MapEntry}(h:b≠c):(H.A9 b es k).mp c=H.mp c:=tu (qj H es k h)
theorem Mx(h:c<H.size):(H.new T l).rd c=H.rd c:=tq (lR H T l h)
theorem ay(h:c<H.size):(H.new T l).own c=H.own c:=oM (lR H T l h)
theorem My(h:c<H.size):(H.new T l).mp c=H.mp c:=tu (lR H T l h)
theorem Kv(h:c<H.size):H.iG.rd c=H.rd c:=tq (mZ H h)
theorem IV(h:c<H.size):H.iG.own c=H.own c:=oM (mZ H h)
theorem Kw(h:c<H.size):H.iG.mp c=H.mp c:=tu (mZ H h)
@[go_sem] theorem am(H:Hp)(T:TypeId)(l:List Value):(H.new T l).own H.size=some l:=by simp[Hp.own,Hp.new]
@[go_sem] theorem T7(H:Hp)(T:TypeId)(l:List Value):(H.new T l).rd H.size=some l:=by simp[Hp.rd,Hp.new]
@[go_sem] theorem LD(H:Hp):H.iG.mp H.size=some ([],0):=by simp[Hp.mp,Hp.iG]
theorem Mz(h:c=H.size):(H.new T l).rd c=some l:=by subst h;exact T7 H T l
theorem az(h:c=H.size):(H.new T l).own c=some l:=by subst h;exact am H T l
theorem Ky(h:c=H.size):H.iG.mp c=some ([],0):=by subst h;exact LD H
theorem ah{l':List Value}(h:H.own b=some l'):(H.wr b l).own b=some l:=by
 unfold Hp.own at h;split at h
 ·rename_i c t w x;split at h
  ·rename_i z;simp[Hp.own,Hp.wr,akz,x,z]
  grind
 grind
theorem JF{l':List Value}(h:H.xd b=some l')(w:l.length=l'.length):(H.wr b l).xd b=some l:=by
 unfold Hp.xd at h;split at h
 ·rename_i c t a x;split at h
  ·rename_i z;injection h with h;have n:c.size=l.length:=by rw[w,<-h];simp
   simp[Hp.xd,Hp.wr,akz,x,z.1];omega
  grind
 grind
theorem JG{l':List Value}(h:EG (H.own b) (H.xd b)=some l')(x:l.length=l'.length):EG ((H.wr b l).own b) ((H.wr b l).xd b)=some l:=by
 rcases En h with h|h
 ·exact Db (ah h)
 ·exact Lp (JF h x)
theorem mL{es:List MapEntry}{x:List MapEntry×Nat}(h:H.mp b=some x):(H.A9 b es k).mp b=some (es,k):=by
 have:=NU h;simp[Hp.mp,Hp.A9,this]
structure aj(S:Nat->Prop)(H J:Hp):Prop where
 size:H.size<=J.size
 be:∀b,b<H.size->¬S b->J[b]? =H[b]?
theorem aj.refl(S:Nat->Prop)(H:Hp):aj S H H:=⟨ajU _,fun _ _ _=>rfl⟩
theorem aj.mono{S x:Nat->Prop}(h:aj S H J)(l:∀b,b<H.size->S b->x b):aj x H J:=
 ⟨h.size,fun b z w=>h.be b z Z⟩
theorem aj.trans{S:Nat->Prop}(h:aj S A B)(k:aj S B C):aj S A C:=
 ⟨akc h.size k.size,fun b x z=>(k.be b (aj0 x h.size) z).trans (h.be b x z)⟩
theorem aj.lN{S x:Nat->Prop}(h:aj S A B)(k:aj x B C)(l:∀b,b<A.size->x b->S b):aj S A C:=
 ⟨akc h.size k.size,fun b z w=>(k.be b (aj0 z h.size) Z).trans (h.be b z w)⟩
theorem aj.wr{S:Nat->Prop}(h:aj S A H)(w:b<A.size->S b)(l:List Value):aj S A (H.wr b l):=
 ⟨by rw[bH];exact h.size,fun c x z=>(lw H l Z).trans (h.be c x z)⟩
theorem aj.A9{S:Nat->Prop}(h:aj S A H)(w:b<A.size->S b)(es:List MapEntry)(k:Nat):aj S A (H.A9 b es k):=
 ⟨by rw[IU];exact h.size,fun c x z=>(qj H es k Z).trans (h.be c x z)⟩
theorem aj.new{S:Nat->Prop}(h:aj S A H)(T:TypeId)(l:List Value):aj S A (H.new T l):=
 ⟨by rw[ag];exact Nat.le_succ_of_le h.size,fun c x z=>(lR H T l (aj0 x h.size)).trans (h.be c x z)⟩
theorem aj.iG{S:Nat->Prop}(h:aj S A H):aj S A H.iG:=
 ⟨by rw[jw];exact Nat.le_succ_of_le h.size,fun c x z=>(mZ H (aj0 x h.size)).trans (h.be c x z)⟩
theorem aj.rd{S:Nat->Prop}(h:aj S H J)(x:H.rd b=some l)(z:¬S b):J.rd b=some l:=
 (tq (h.be b (FY x) z)).trans x
theorem aj.own{S:Nat->Prop}(h:aj S H J)(x:H.own b=some l)(z:¬S b):J.own b=some l:=
 (oM (h.be b (aC x) z)).trans x
theorem aj.mp{S:Nat->Prop}(h:aj S H J){x:List MapEntry×Nat}(z:H.mp b=some x)(w:¬S b):J.mp b=some x:=
 (tu (h.be b (NU z) w)).trans z
def af(H J:Hp):Prop:=aj (fun _=>False) H J
def aS(l:List Value)(off:Nat):List Value->List Value
 | []=>l
 |v::vs=>aS (l.set off v) (off+1) vs
@[go_sem] theorem T8(l:List Value)(off:Nat):aS l off []=l:=(rfl)
@[go_sem] theorem nf(l:List Value)(off:Nat)(v:Value)(vs:List Value):aS l off (v::vs)=aS (l.set off v) (off+1) vs:=(rfl)
theorem eA(vs:List Value):∀ (l:List Value) (off:Nat),(aS l off vs).length=l.length:=by
 induction vs with
 |nil=>intro l off;rfl
 |cons v vs x=>intro l off;rw[nf,x];simp
theorem getElem?_splice(vs:List Value):∀ (l:List Value) (off j:Nat),off+vs.length<=l.length->
  (aS l off vs)[j]? =if off<=j/\j<off+vs.length then vs[j - off]? else l[j]? :=by
 induction vs with
 |nil=>grind [aS]
 |cons v vs x=>
  grind [nf]
def aK:Value->List Value
 | .agg cs=>cs.toList
 |v=>[v]
theorem eQ(v:Value):v.cells.toList=aK v:=by cases v<;>rfl
@[go_sem] theorem T9(l:List Value):aK (.agg l.toArray)=l:=(rfl)
@[go_sem] theorem Sg(b:Bool):aK (.bool b)=[.bool b]:=(rfl)
@[go_sem] theorem Ua(k:IntKind)(n:Int):aK (.int k n)=[.int k n]:=(rfl)
@[go_sem] theorem P9(s:ByteArray):aK (.string s)=[.string s]:=(rfl)
@[go_sem] theorem PF(a:Option Addr):aK (.pointer a)=[.pointer a]:=(rfl)
@[go_sem] theorem Ri(a:Option Addr)(n c:Nat):aK (.slice a n c)=[.slice a n c]:=(rfl)
@[go_sem] theorem Ub(r:Option Nat):aK (.map r)=[.map r]:=(rfl)
@[go_sem] theorem Rj(t:TypeId)(v:Value):aK (.iface t v)=[.iface t v]:=(rfl)
@[go_sem] theorem NB:aK .nilIface=[.nilIface]:=(rfl)
@[go_sem] theorem PG:aK .nilFunc=[.nilFunc]:=(rfl)
@[go_sem] theorem Sh(f:Fn)(a b:Array Value):aK (.func f a b)=[.func f a b]:=(rfl)
@[go_sem] theorem XZ(b:Bool):(Value.bool b).oneCell'=true:=(rfl)
@[go_sem] theorem ZG(k:IntKind)(n:Int):(Value.int k n).oneCell'=true:=(rfl)
@[go_sem] theorem Uc(s:ByteArray):(Value.string s).oneCell'=true:=(rfl)
@[go_sem] theorem Si(a:Option Addr):(Value.pointer a).oneCell'=true:=(rfl)
@[go_sem] theorem Vx(a:Option Addr)(n c:Nat):(Value.slice a n c).oneCell'=true:=(rfl)
@[go_sem] theorem ZH(r:Option Nat):(Value.map r).oneCell'=true:=(rfl)
@[go_sem] theorem Vy(t:TypeId)(v:Value):(Value.iface t v).oneCell'=true:=(rfl)
@[go_sem] theorem Rk:Value.nilIface.oneCell'=true:=(rfl)
@[go_sem] theorem Sj:Value.nilFunc.oneCell'=true:=(rfl)
@[go_sem] theorem X0(f:Fn)(a b:Array Value):(Value.func f a b).oneCell'=true:=(rfl)
def qm:List Value->Bool
 | []=>true
 |v::l=>v.oneCell' && qm l
@[go_sem] theorem Sk:qm []=true:=(rfl)
@[go_sem] theorem Rm(v:Value)(l:List Value):qm (v::l)=(v.oneCell' && qm l):=(rfl)
def dR(l:List Value):Prop:=∀v∈l,v.oneCell'=true
@[go_sem] theorem Ud:dR []=True:=by simp[dR]
@[go_sem] theorem Sm(v:Value)(l:List Value):dR (v::l)=(v.oneCell'=true/\dR l):=by simp[dR]
theorem Nh(h:qm l=true):dR l:=by
 induction l with
 |nil=>intro v z;cases z
 |cons x l w=>
  simp only[qm,aki]at h;intro v z;rcases akk.1 z with rfl|z
  ·exact h.1
  ·exact w h.2 v z
theorem lQ(x:a.spot=none)(h:Hp.rd w.heap a.block=some l):w.cell? a=l[a.off]? :=by
 unfold Hp.rd at h;unfold World.cell?;grind
theorem C7(x:a.spot=none)(n:Nat):a.add n=⟨a.block,a.off+n,none⟩:=by
 unfold Addr.add;split
 ·rename_i h;subst h;cases a;simp_all
 ·rfl
@[go_sem] theorem vK(b o n:Nat):(⟨b,o,none⟩:Addr).add n=⟨b,o+n,none⟩:=C7 rfl n
theorem nO{P:Program}{n:Nat}(x:a.spot=none)(h:Hp.rd w.heap a.block=some l)(e:a.off+n<=l.length):
  (loadCells a n).run P w= .ok ((l.drop a.off).take n).toArray w:=by
 have c:((l.drop a.off).take n).length=n:=by simp;omega
 have z:=run_loadCells_list (P:=P) w a ((l.drop a.off).take n) fun j v m=>by
  rw[C7 x];refine(lQ (a:=⟨a.block,a.off+j,none⟩) (l:=l) rfl h).trans ?_;grind
 grind
theorem heap_setCell(w:World)(b o:Nat)(v:Value)(h:Hp.rd w.heap b=some l):(w.setCell ⟨b,o,none⟩ v).heap=Hp.wr w.heap b (l.set o v):=by
 unfold Hp.rd at h;split at h
 ·rename_i c t z x;injection h with h;have a:b<w.heap.size:=Z;simp only[World.setCell,Hp.wr];apply Array.ext_getElem?;intro i;rw[akz,akz];by_cases hi:b=i
  ·subst hi;rw[if_pos rfl,if_pos rfl,x];simp[<-h];grind
  grind
 grind
theorem FL(h:Hp.own w.heap b=some l)(o:Nat):w.frozen? ⟨b,o,none⟩=false:=by
 unfold Hp.own at h;unfold World.frozen?;grind
theorem FM(h:EG (Hp.own w.heap b) (Hp.xd w.heap b)=some l)(x:o<l.length):w.frozen? ⟨b,o,none⟩=false:=by
 rcases En h with h|h
 ·exact FL h o
 ·unfold Hp.xd at h;unfold World.frozen?;grind
@[go_sem] theorem Jq{H:Hp}{b:Nat}{l l':List Value}:(H.wr b l).wr b l'=H.wr b l':=by
 unfold Hp.wr;grind
theorem gY{P:Program}:∀ (vs:List Value) (i:Nat) (w:World) (l:List Value),EG (Hp.own w.heap b) (Hp.xd w.heap b)=some l->o+i+vs.length<=l.length->dR vs->
  ∃w',(storeCells ⟨b,o,none⟩ vs i).run P w= .ok () w'/\cv w w'/\(vs≠[]->w'.heap=Hp.wr w.heap b (aS l (o+i) vs))/\(vs=[]->w'.heap=w.heap):=by
 intro vs;induction vs with
 |nil=>intro i w l _ _ _;exact⟨w,rfl,cv.refl w,fun h=>absurd rfl h,fun _=>rfl⟩
 |cons v vs d=>
  intro i w l h g a;have j:v.oneCell'=true:=a v akq;simp only[ajX]at g;have m:w.cell? ⟨b,o+i,none⟩=some l[o+i]:=by rw[lQ (l:=l) rfl (Gp h)];simp[show o+i<l.length by omega]
  have r:(store ((⟨b,o,none⟩:Addr).add i) v).run P w= .ok () (w.setCell ⟨b,o+i,none⟩ v):=by
   rw[vK,run_store P w _ v .plain j,m];simp[FM h (show o+i<l.length by omega)]
  have z:=heap_setCell w b (o+i) v (Gp h);have y:EG (Hp.own (w.setCell ⟨b,o+i,none⟩ v).heap b) (Hp.xd (w.setCell ⟨b,o+i,none⟩ v).heap b)=some (l.set (o+i) v):=by rw[z];exact JG h (by simp)
  obtain⟨w',t,n,c,e⟩:=d (i+1) (w.setCell ⟨b,o+i,none⟩ v) (l.set (o+i) v) y Z (fun x p=>a x Z);refine⟨w',?_,⟨n.os,n.output⟩,fun _=>?_,fun h=>by cases h⟩
  ·simp only[storeCells,Sem.run_bind,r,Result.andThen_ok];exact t
  ·rw[nf];cases vs with
   |nil=>rw[e rfl,z];rfl
   |cons x xs=>rw[c (by simp),z,Jq];rfl
end
end Go.Vc
