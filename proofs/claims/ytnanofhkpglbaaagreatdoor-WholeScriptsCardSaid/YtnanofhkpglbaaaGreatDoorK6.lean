/- Texts put behind each other. -/
import Derived.Test.YtnanofhkpglbaaaGreatDoorK4
import Derived.Laws.Cells
set_option linter.unusedVariables false
set_option maxRecDepth 100000
set_option maxHeartbeats 80000000
namespace Go.Vc
section
variable{H J A B C:Hp}{b c k o:Nat}{l:List Value}{T:TypeId}{w:World}{a:Addr}{p:Prop}
def aF{α:Type}(o:Option α)(F:α->Prop)(_t:Tag F:=⟨⟩):Prop:=match o with|some v=>F v|none=>False
@[go_sem] theorem ly{α:Type}(v:α)(F:α->Prop):aF (some v) F=F v:=(rfl)
@[go_sem] theorem U8{α:Type}(F:α->Prop):aF none F=False:=(rfl)
theorem aC{α:Type}{o:Option α}{F:α->Prop}(h:aF o F):∃v,o=some v/\F v:=by
 cases o with
 |none=>exact h.elim
 |some v=>exact⟨v,rfl,h⟩
theorem Eg{α:Type}{o:Option α}{F:α->Prop}{v:α}(h:o=some v)(x:F v):aF o F:=by rw[h];exact x
def now{α:Type}(x:α)(F:α->Prop)(_t:Tag F:=⟨⟩):Prop:=F x
@[go_sem] theorem KM{α:Type}(x:α)(F:α->Prop):now x F=F x:=(rfl)
def ai(b:Bool)(F:Bool->Prop)(_t:Tag F:=⟨⟩):Prop:=F b
@[go_sem] theorem Wz(F:Bool->Prop):ai true F=F true:=(rfl)
@[go_sem] theorem U9(F:Bool->Prop):ai false F=F false:=(rfl)
theorem ai.intro{b:Bool}{F:Bool->Prop}(h:b=true->F true)(x:b=false->F false):ai b F:=by
 cases b
 ·exact x rfl
 ·exact h rfl
theorem ai.dec[Decidable p]{F:Bool->Prop}(z:p->F true)(x:¬p->F false):ai (decide p) F:=by
 by_cases h:p
 ·rw[ale h];exact z h
 ·rw[alc h];exact x h
def Cz(b:Bool)(A B:Prop)(_ta:Tag A:=⟨⟩)(_tb:Tag B:=⟨⟩):Prop:=match b with|true=>A|false=>B
@[go_sem] theorem PK(A B:Prop):Cz true A B=A:=(rfl)
@[go_sem] theorem WA(A B:Prop):Cz false A B=B:=(rfl)
@[go_sem] theorem adG:(true==true)=true:=(rfl)
@[go_sem] theorem adH:(true==false)=false:=(rfl)
@[go_sem] theorem adI:(false==true)=false:=(rfl)
@[go_sem] theorem adJ:(false==false)=true:=(rfl)
theorem ai.bK{b:Bool}{F:Bool->Prop}(x:b=true)(h:F true):ai b F:=by subst x;exact h
theorem ai.aR{b:Bool}{F:Bool->Prop}(x:b=false)(h:F false):ai b F:=by subst x;exact h
def dW(c:Prop)(F:Prop)(_t:Tag F:=⟨⟩):Prop:=c/\F
@[go_sem] theorem WB(F:Prop):dW True F=F:=by simp[dW]
@[go_sem] theorem aaW{α:Sort _}(a:α)(F:Prop):dW (a=a) F=F:=by simp[dW]
def ak(p:Prop)(_t:Tag p:=⟨⟩):Prop:=p
theorem ak.out(h:ak p):p:=h
def xg(v:Value)(F:Bool->Prop)(_t:Tag F:=⟨⟩):Prop:=match v with| .bool b=>ai b F|_=>False
@[go_sem] theorem Va(b:Bool)(F:Bool->Prop):xg (.bool b) F=ai b F:=(rfl)
def Hp.rd(H:Hp)(b:Nat):Option (List Value):=match H[b]? with|some (.cells c _ _)=>some c.toList|_=>none
def Hp.own(H:Hp)(b:Nat):Option (List Value):=match H[b]? with|some (.cells c _ x)=>if x=(0,0)then some c.toList else none|_=>none
def Hp.wQ(H:Hp)(b:Nat):Option (List Value):=match H[b]? with|some (.cells c _ x)=>if x.2=x.1+1/\c.size<=x.1 then some c.toList else none|_=>none
def EO{α:Type}(x y:Option α):Option α:=match x with|some v=>some v|none=>y
@[go_sem] theorem Qv{α:Type}(v:α)(y:Option α):EO (some v) y=some v:=(rfl)
@[go_sem] theorem Qw{α:Type}(y:Option α):EO none y=y:=(rfl)
def Hp.wr(H:Hp)(b:Nat)(l:List Value):Hp:=H.modify b fun| .cells _ t x=>.cells l.toArray t x|o=>o
def Hp.mp(H:Hp)(b:Nat):Option (List MapEntry×Nat):=match H[b]? with|some (.map es k)=>some (es.toList,k)|_=>none
def Hp.AO(H:Hp)(b:Nat)(es:List MapEntry)(k:Nat):Hp:=H.setIfInBounds b (.map es.toArray k)
def Hp.new(H:Hp)(T:TypeId)(l:List Value):Hp:=H.push (.cells l.toArray T)
def Hp.Kt(H:Hp)(T:TypeId)(l:List Value):Hp:=H.push (.cells l.toArray T (l.length,l.length+1))
def Hp.gD(H:Hp):Hp:=H.push (.map #[] 0)
theorem ae(h:H.own b=some l):H.rd b=some l:=by
 unfold Hp.own at h;unfold Hp.rd;grind
theorem aB(h:H.own b=some l):b<H.size:=by
 rcases al1 b H.size with x|x
 ·exact x
 ·simp[Hp.own,amn x]at h
theorem Ge(h:H.rd b=some l):b<H.size:=by
 rcases al1 b H.size with x|x
 ·exact x
 ·simp[Hp.rd,amn x]at h
theorem Mf{x:List MapEntry×Nat}(h:H.mp b=some x):b<H.size:=by
 rcases al1 b H.size with z|z
 ·exact z
 ·simp[Hp.mp,amn z]at h
theorem NV(h:H.wQ b=some l):H.rd b=some l:=by
 unfold Hp.wQ at h;unfold Hp.rd;grind
theorem LR(h:H.wQ b=some l):H.own b=none:=by
 unfold Hp.wQ at h;unfold Hp.own;split at h
 ·grind
 rfl
theorem Ew(h:EO (H.own b) (H.wQ b)=some l):H.own b=some l\/H.wQ b=some l:=by
 cases z:H.own b with
 |none=>rw[z,Qw]at h;grind
 |some x=>rw[z,Qv]at h;grind
theorem GD(h:EO (H.own b) (H.wQ b)=some l):H.rd b=some l:=by
 rcases Ew h with h|h
 ·exact ae h
 ·exact NV h
theorem LU(h:H.wQ b=some l):EO (H.own b) (H.wQ b)=some l:=by rw[LR h,h];rfl
theorem D8(h:H.own b=some l):EO (H.own b) (H.wQ b)=some l:=by rw[h];rfl
@[go_sem] theorem bE(H:Hp)(b:Nat)(l:List Value):(H.wr b l).size=H.size:=by simp[Hp.wr]
@[go_sem] theorem Jo(H:Hp)(b:Nat)(es:List MapEntry)(k:Nat):(H.AO b es k).size=H.size:=by simp[Hp.AO]
@[go_sem] theorem ag(H:Hp)(T:TypeId)(l:List Value):(H.new T l).size=H.size+1:=by simp[Hp.new]
@[go_sem] theorem jt(H:Hp):H.gD.size=H.size+1:=by simp[Hp.gD]
@[go_sem] theorem ML(H:Hp)(T:TypeId)(l:List Value):(H.Kt T l).size=H.size+1:=by simp[Hp.Kt]
theorem IC(H:Hp)(T:TypeId)(l:List Value)(h:c<H.size):(H.Kt T l)[c]? =H[c]? :=by simp[Hp.Kt,Array.getElem?_push,show c≠H.size by omega]
theorem ld(H:Hp)(l:List Value)(h:b≠c):(H.wr b l)[c]? =H[c]? :=by simp[Hp.wr,al3,h]
theorem pW(H:Hp)(es:List MapEntry)(k:Nat)(h:b≠c):(H.AO b es k)[c]? =H[c]? :=by simp[Hp.AO,Array.getElem?_setIfInBounds_ne h]
theorem ma(H:Hp)(T:TypeId)(l:List Value)(h:c<H.size):(H.new T l)[c]? =H[c]? :=by simp[Hp.new,Array.getElem?_push,show c≠H.size by omega]
theorem mN(H:Hp)(h:c<H.size):H.gD[c]? =H[c]? :=by simp[Hp.gD,Array.getElem?_push,show c≠H.size by omega]
theorem tf(h:J[b]? =H[b]?):J.rd b=H.rd b:=by unfold Hp.rd;rw[h]
theorem oB(h:J[b]? =H[b]?):J.own b=H.own b:=by unfold Hp.own;rw[h]
theorem tg(h:J[b]? =H[b]?):J.mp b=H.mp b:=by unfold Hp.mp;rw[h]
theorem OT(h:b≠c):(H.wr b l).rd c=H.rd c:=tf (ld H l h)
theorem aG(h:b≠c):(H.wr b l).own c=H.own c:=oB (ld H l h)
theorem OU(h:b≠c):(H.wr b l).mp c=H.mp c:=tg (ld H l h)
theorem M2{es:List MapEntry}(h:b≠c):(H.AO b es k).rd c=H.rd c:=tf (pW H es k h)
theorem KZ{es:List MapEntry}(h:b≠c):(H.AO b es k).own c=H.own c:=oB (pW H es k h)
theorem M3{es:List MapEntry}(h:b≠c):(H.AO b es k).mp c=H.mp c:=tg (pW H es k h)
theorem M4(h:c<H.size):(H.new T l).rd c=H.rd c:=tf (ma H T l h)
theorem ax(h:c<H.size):(H.new T l).own c=H.own c:=oB (ma H T l h)
theorem M5(h:c<H.size):(H.new T l).mp c=H.mp c:=tg (ma H T l h)
theorem K1(h:c<H.size):H.gD.rd c=H.rd c:=tf (mN H h)
theorem Jp(h:c<H.size):H.gD.own c=H.own c:=oB (mN H h)
theorem K3(h:c<H.size):H.gD.mp c=H.mp c:=tg (mN H h)
@[go_sem] theorem am(H:Hp)(T:TypeId)(l:List Value):(H.new T l).own H.size=some l:=by simp[Hp.own,Hp.new]
@[go_sem] theorem Vb(H:Hp)(T:TypeId)(l:List Value):(H.new T l).rd H.size=some l:=by simp[Hp.rd,Hp.new]
@[go_sem] theorem GX(H:Hp):H.gD.mp H.size=some ([],0):=by simp[Hp.mp,Hp.gD]
theorem M6(h:c=H.size):(H.new T l).rd c=some l:=by subst h;exact Vb H T l
theorem az(h:c=H.size):(H.new T l).own c=some l:=by subst h;exact am H T l
theorem K4(h:c=H.size):H.gD.mp c=some ([],0):=by subst h;exact GX H
theorem ah{l':List Value}(h:H.own b=some l'):(H.wr b l).own b=some l:=by
 unfold Hp.own at h;split at h
 ·rename_i c t w x;split at h
  ·rename_i z;simp[Hp.own,Hp.wr,al3,x,z]
  grind
 grind
theorem Kc{l':List Value}(h:H.wQ b=some l')(w:l.length=l'.length):(H.wr b l).wQ b=some l:=by
 unfold Hp.wQ at h;split at h
 ·rename_i c t a x;split at h
  ·rename_i z;injection h with h;have n:c.size=l.length:=by rw[w,<-h];simp
   simp[Hp.wQ,Hp.wr,al3,x,z.1];omega
  grind
 grind
theorem Ke{l':List Value}(h:EO (H.own b) (H.wQ b)=some l')(x:l.length=l'.length):EO ((H.wr b l).own b) ((H.wr b l).wQ b)=some l:=by
 rcases Ew h with h|h
 ·exact D8 (ah h)
 ·exact LU (Kc h x)
theorem jQ{es:List MapEntry}{x:List MapEntry×Nat}(h:H.mp b=some x):(H.AO b es k).mp b=some (es,k):=by
 have:=Mf h;simp[Hp.mp,Hp.AO,this]
structure aj(S:Nat->Prop)(H J:Hp):Prop where
 size:H.size<=J.size
 aW:∀b,b<H.size->¬S b->J[b]? =H[b]?
theorem aj.refl(S:Nat->Prop)(H:Hp):aj S H H:=⟨alj _,fun _ _ _=>rfl⟩
theorem aj.mono{S x:Nat->Prop}(h:aj S H J)(l:∀b,b<H.size->S b->x b):aj x H J:=
 ⟨h.size,fun b z w=>h.aW b z Z⟩
theorem aj.trans{S:Nat->Prop}(h:aj S A B)(k:aj S B C):aj S A C:=
 ⟨alw h.size k.size,fun b x z=>(k.aW b (alp x h.size) z).trans (h.aW b x z)⟩
theorem aj.lE{S x:Nat->Prop}(h:aj S A B)(k:aj x B C)(l:∀b,b<A.size->x b->S b):aj S A C:=
 ⟨alw h.size k.size,fun b z w=>(k.aW b (alp z h.size) Z).trans (h.aW b z w)⟩
theorem aj.wr{S:Nat->Prop}(h:aj S A H)(w:b<A.size->S b)(l:List Value):aj S A (H.wr b l):=
 ⟨by rw[bE];exact h.size,fun c x z=>(ld H l Z).trans (h.aW c x z)⟩
theorem aj.AO{S:Nat->Prop}(h:aj S A H)(w:b<A.size->S b)(es:List MapEntry)(k:Nat):aj S A (H.AO b es k):=
 ⟨by rw[Jo];exact h.size,fun c x z=>(pW H es k Z).trans (h.aW c x z)⟩
theorem aj.new{S:Nat->Prop}(h:aj S A H)(T:TypeId)(l:List Value):aj S A (H.new T l):=
 ⟨by rw[ag];exact Nat.le_succ_of_le h.size,fun c x z=>(ma H T l (alp x h.size)).trans (h.aW c x z)⟩
theorem aj.gD{S:Nat->Prop}(h:aj S A H):aj S A H.gD:=
 ⟨by rw[jt];exact Nat.le_succ_of_le h.size,fun c x z=>(mN H (alp x h.size)).trans (h.aW c x z)⟩
theorem aj.rd{S:Nat->Prop}(h:aj S H J)(x:H.rd b=some l)(z:¬S b):J.rd b=some l:=
 (tf (h.aW b (Ge x) z)).trans x
theorem aj.own{S:Nat->Prop}(h:aj S H J)(x:H.own b=some l)(z:¬S b):J.own b=some l:=
 (oB (h.aW b (aB x) z)).trans x
theorem aj.mp{S:Nat->Prop}(h:aj S H J){x:List MapEntry×Nat}(z:H.mp b=some x)(w:¬S b):J.mp b=some x:=
 (tg (h.aW b (Mf z) w)).trans z
def af(H J:Hp):Prop:=aj (fun _=>False) H J
def aQ(l:List Value)(off:Nat):List Value->List Value
 | []=>l
 |v::vs=>aQ (l.set off v) (off+1) vs
@[go_sem] theorem Vd(l:List Value)(off:Nat):aQ l off []=l:=(rfl)
@[go_sem] theorem mO(l:List Value)(off:Nat)(v:Value)(vs:List Value):aQ l off (v::vs)=aQ (l.set off v) (off+1) vs:=(rfl)
theorem ew(vs:List Value):∀ (l:List Value) (off:Nat),(aQ l off vs).length=l.length:=by
 induction vs with
 |nil=>intro l off;rfl
 |cons v vs x=>intro l off;rw[mO,x];simp
theorem getElem?_splice(vs:List Value):∀ (l:List Value) (off j:Nat),off+vs.length<=l.length->
  (aQ l off vs)[j]? =if off<=j/\j<off+vs.length then vs[j - off]? else l[j]? :=by
 induction vs with
 |nil=>grind [aQ]
 |cons v vs x=>
  grind [mO]
def aK:Value->List Value
 | .agg cs=>cs.toList
 |v=>[v]
theorem eO(v:Value):v.cells.toList=aK v:=by cases v<;>rfl
@[go_sem] theorem Ve(l:List Value):aK (.agg l.toArray)=l:=(rfl)
@[go_sem] theorem Tk(b:Bool):aK (.bool b)=[.bool b]:=(rfl)
@[go_sem] theorem Vf(k:IntKind)(n:Int):aK (.int k n)=[.int k n]:=(rfl)
@[go_sem] theorem QP(s:ByteArray):aK (.string s)=[.string s]:=(rfl)
@[go_sem] theorem Qx(a:Option Addr):aK (.pointer a)=[.pointer a]:=(rfl)
@[go_sem] theorem Sm(a:Option Addr)(n c:Nat):aK (.slice a n c)=[.slice a n c]:=(rfl)
@[go_sem] theorem Vg(r:Option Nat):aK (.map r)=[.map r]:=(rfl)
@[go_sem] theorem So(t:TypeId)(v:Value):aK (.iface t v)=[.iface t v]:=(rfl)
@[go_sem] theorem Ou:aK .nilIface=[.nilIface]:=(rfl)
@[go_sem] theorem Qy:aK .nilFunc=[.nilFunc]:=(rfl)
@[go_sem] theorem Tl(f:Fn)(a b:Array Value):aK (.func f a b)=[.func f a b]:=(rfl)
@[go_sem] theorem Zf(b:Bool):(Value.bool b).oneCell'=true:=(rfl)
@[go_sem] theorem aaX(k:IntKind)(n:Int):(Value.int k n).oneCell'=true:=(rfl)
@[go_sem] theorem Vh(s:ByteArray):(Value.string s).oneCell'=true:=(rfl)
@[go_sem] theorem Tm(a:Option Addr):(Value.pointer a).oneCell'=true:=(rfl)
@[go_sem] theorem WC(a:Option Addr)(n c:Nat):(Value.slice a n c).oneCell'=true:=(rfl)
@[go_sem] theorem aaY(r:Option Nat):(Value.map r).oneCell'=true:=(rfl)
@[go_sem] theorem WD(t:TypeId)(v:Value):(Value.iface t v).oneCell'=true:=(rfl)
@[go_sem] theorem Sp:Value.nilIface.oneCell'=true:=(rfl)
@[go_sem] theorem Tn:Value.nilFunc.oneCell'=true:=(rfl)
@[go_sem] theorem Zg(f:Fn)(a b:Array Value):(Value.func f a b).oneCell'=true:=(rfl)
def pX:List Value->Bool
 | []=>true
 |v::l=>v.oneCell' && pX l
@[go_sem] theorem To:pX []=true:=(rfl)
@[go_sem] theorem Sq(v:Value)(l:List Value):pX (v::l)=(v.oneCell' && pX l):=(rfl)
def dK(l:List Value):Prop:=∀v∈l,v.oneCell'=true
@[go_sem] theorem Vi:dK []=True:=by simp[dK]
@[go_sem] theorem Tp(v:Value)(l:List Value):dK (v::l)=(v.oneCell'=true/\dK l):=by simp[dK]
theorem NW(h:pX l=true):dK l:=by
 induction l with
 |nil=>intro v z;cases z
 |cons x l w=>
  simp only[pX,alJ]at h;intro v z;rcases alF.1 z with rfl|z
  ·exact h.1
  ·exact w h.2 v z
theorem cJ(x:a.spot=none)(h:Hp.rd w.heap a.block=some l):w.cell? a=l[a.off]? :=by
 unfold Hp.rd at h;unfold World.cell?;grind
theorem Dc(x:a.spot=none)(n:Nat):a.add n=⟨a.block,a.off+n,none⟩:=by
 unfold Addr.add;split
 ·rename_i h;subst h;cases a;simp_all
 ·rfl
@[go_sem] theorem vp(b o n:Nat):(⟨b,o,none⟩:Addr).add n=⟨b,o+n,none⟩:=Dc rfl n
theorem nD{P:Program}{n:Nat}(x:a.spot=none)(h:Hp.rd w.heap a.block=some l)(e:a.off+n<=l.length):
  (loadCells a n).run P w= .ok ((l.drop a.off).take n).toArray w:=by
 have c:((l.drop a.off).take n).length=n:=by simp;omega
 have z:=run_loadCells_list (P:=P) w a ((l.drop a.off).take n) fun j v m=>by
  rw[Dc x];refine(cJ (a:=⟨a.block,a.off+j,none⟩) (l:=l) rfl h).trans ?_;grind
 grind
theorem heap_setCell(w:World)(b o:Nat)(v:Value)(h:Hp.rd w.heap b=some l):(w.setCell ⟨b,o,none⟩ v).heap=Hp.wr w.heap b (l.set o v):=by
 unfold Hp.rd at h;split at h
 ·rename_i c t z x;injection h with h;have a:b<w.heap.size:=Z;simp only[World.setCell,Hp.wr];apply Array.ext_getElem?;intro i;rw[al3,al3];by_cases hi:b=i
  ·subst hi;rw[if_pos rfl,if_pos rfl,x];simp[<-h];grind
  grind
 grind
theorem jI(h:Hp.own w.heap b=some l)(o:Nat):w.frozen? ⟨b,o,none⟩=false:=by
 unfold Hp.own at h;unfold World.frozen?;grind
theorem FX(h:EO (Hp.own w.heap b) (Hp.wQ w.heap b)=some l)(x:o<l.length):w.frozen? ⟨b,o,none⟩=false:=by
 rcases Ew h with h|h
 ·exact jI h o
 ·unfold Hp.wQ at h;unfold World.frozen?;grind
@[go_sem] theorem JM{H:Hp}{b:Nat}{l l':List Value}:(H.wr b l).wr b l'=H.wr b l':=by
 unfold Hp.wr;grind
theorem gY{P:Program}:∀ (vs:List Value) (i:Nat) (w:World) (l:List Value),EO (Hp.own w.heap b) (Hp.wQ w.heap b)=some l->o+i+vs.length<=l.length->dK vs->
  ∃w',(storeCells ⟨b,o,none⟩ vs i).run P w= .ok () w'/\bH w w'/\(vs≠[]->w'.heap=Hp.wr w.heap b (aQ l (o+i) vs))/\(vs=[]->w'.heap=w.heap):=by
 intro vs;induction vs with
 |nil=>intro i w l _ _ _;exact⟨w,rfl,bH.refl w,fun h=>absurd rfl h,fun _=>rfl⟩
 |cons v vs d=>
  intro i w l h g a;have j:v.oneCell'=true:=a v alS;simp only[alk]at g;have m:w.cell? ⟨b,o+i,none⟩=some l[o+i]:=by rw[cJ (l:=l) rfl (GD h)];simp[show o+i<l.length by omega]
  have r:(store ((⟨b,o,none⟩:Addr).add i) v).run P w= .ok () (w.setCell ⟨b,o+i,none⟩ v):=by
   rw[vp,run_store P w _ v .plain j,m];simp[FX h (show o+i<l.length by omega)]
  have z:=heap_setCell w b (o+i) v (GD h);have y:EO (Hp.own (w.setCell ⟨b,o+i,none⟩ v).heap b) (Hp.wQ (w.setCell ⟨b,o+i,none⟩ v).heap b)=some (l.set (o+i) v):=by rw[z];exact Ke h (by simp)
  obtain⟨w',t,n,c,e⟩:=d (i+1) (w.setCell ⟨b,o+i,none⟩ v) (l.set (o+i) v) y Z (fun x p=>a x Z);refine⟨w',?_,⟨n.os,n.output⟩,fun _=>?_,fun h=>by cases h⟩
  ·simp only[storeCells,Sem.run_bind,r,Result.andThen_ok];exact t
  ·rw[mO];cases vs with
   |nil=>rw[e rfl,z];rfl
   |cons x xs=>rw[c (by simp),z,JM];rfl
end
end Go.Vc
