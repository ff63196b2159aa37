/- Texts put behind each other. -/
import Derived.Test.YtjkkkibiegfecaaGreatDoorK13
import Derived.WideKeyArgs
import Derived.OpenShut
import Derived.ChangeArms
import Derived.ChangeOld
import Derived.Handed
import Derived.RowKit
import Derived.DataReads
set_option linter.unusedVariables false
set_option maxRecDepth 100000
set_option maxHeartbeats 8000000
namespace Go.Vc
open Go.ChangeShapes Go.WideShapes Go.RowKit
section
variable{t:TypeId}{A B C:Hp}{n b0:Nat}
theorem af.then{S:Nat->Prop}(h:af A B)(k:aj S B C)(x:∀z,S z->A.size<=z):af A C:=
 h.lN k Z
theorem aj.then{S:Nat->Prop}(h:aj (fun _=>False) A B)(k:aj S B C)(x:∀z,S z->A.size<=z):af A C:=af.then h k x
inductive Kd where
 |i(k:IntKind)|b|s
 deriving Inhabited
def MA:Kd->Value->Prop
 | .i k,v=>∃n,v= .int k n/\(Lit.int k n).wf=true
 | .b,v=>∃b,v= .bool b
 | .s,v=>∃s:ByteArray,v= .string s/\s.size<=maxLen
def lP{α:Type}(φ:α->Value->Prop):List α->List Value->Prop
 | [],cs=>cs=[]
 |k::x,cs=>∃v r,cs=v::r/\φ k v/\lP φ x r
theorem IX{α:Type}{φ:α->Value->Prop}:∀ {ks:List α} {cs:List Value},lP φ ks cs->cs.length=ks.length:=by
 intro ks;induction ks with
 |nil=>intro cs h;simp[lP]at h;simp[h]
 |cons k ks x=>intro cs h;obtain⟨v,r,rfl,_,h⟩:=h;grind
theorem AS{α:Type}{φ:α->Value->Prop}:∀ {z l:List α} {cs x:List Value},lP φ z cs->lP φ l x->lP φ (z++l) (cs++x):=by
 intro z;induction z with
 |nil=>intro l cs x h a;simp[lP]at h;grind
 |cons k z m=>intro l cs x h a;obtain⟨v,r,rfl,n,h⟩:=h;exact⟨v,r++x,rfl,n,m h a⟩
inductive Pc where
 |k(x:Kd)
 |sl(ks:List Kd)
 deriving Inhabited
def Oc(H:Hp):Pc->Value->Prop
 | .k x,v=>MA x v
 | .sl h,v=>∃rows:List (List Value),bX H h.length v rows.length rows.flatten/\(∀r∈rows,lP MA h r)/\rows.length<=maxLen/\∃a c,v= .slice a rows.length c/\rows.length<=c
def SH{α:Type}(P:Program)(go:TypeId->Option (List α))(total:Nat):Nat->List Field->Option (List α)
 |off,[]=>if off=total then some []else none
 |off,f::h=>match go f.type with
  |some x=>if f.offset=off/\x.length=P.cellsOf f.type then(SH P go total (off+P.cellsOf f.type) h).map (x++ ·)else none
  |none=>none
def YQ{α:Type}(P:Program)(go:TypeId->Option (List α))(t:TypeId)(n:Nat)(e:TypeId):Option (List α):=
 match go e with
 |some x=>if x.length=P.cellsOf e/\P.cellsOf t=n*P.cellsOf e then some (List.replicate n x).flatten else none
 |none=>none
def C5(P:Program):Nat->TypeId->Option (List Kd)
 |0,_=>none
 |d+1,t=>match P.underlying t with
  |some (.int k)=>some [.i k]
  |some .bool=>some [.b]
  |some .string=>some [.s]
  |some (.struct x)=>SH P (C5 P d) (P.cellsOf t) 0 x.toList
  |some (.array n e)=>YQ P (C5 P d) t n e
  |_=>none
def C6(P:Program):Nat->TypeId->Option (List Pc)
 |0,_=>none
 |d+1,t=>match P.underlying t with
  |some (.int k)=>some [.k (.i k)]
  |some .bool=>some [.k .b]
  |some .string=>some [.k .s]
  |some (.slice e)=>match C5 P d e with
   |some x=>if x.length=P.cellsOf e/\x.length≠0 then some [.sl x]else none
   |none=>none
  |some (.struct h)=>SH P (C6 P d) (P.cellsOf t) 0 h.toList
  |some (.array n e)=>YQ P (C6 P d) t n e
  |_=>none
section
variable {H : Type} {enc : TypeId × Value → H} {P : Program} {w : World} {base : Nat} {spare : Nat → Bool} {held : Bool}
theorem LJ{α:Type}{φ:α->Value->Prop}{go:TypeId->Option (List α)}{total:Nat}{cs:List Value}(p:∀t z cs x,go t=some z->DataW.trod enc P w base spare held n t cs=some x->lP φ z cs)(B:cs.length=total):
  ∀ (l:List Field) (off:Nat) (z:List α),SH P go total off l=some z->(∀f∈l,∃y,DataW.trod enc P w base spare held n f.type ((cs.drop f.offset).take (P.cellsOf f.type))=some y)->lP φ z (cs.drop off):=by
 intro l;induction l with
 |nil=>
  intro off z h _;unfold SH at h;split at h
  ·rename_i e;injection h with h;subst h;show cs.drop off=[];grind
  grind
 |cons f l u=>
  intro off z h c;unfold SH at h;split at h
  ·rename_i L q;split at h
   ·rename_i j;cases v:SH P go total (off+P.cellsOf f.type) l with
    |none=>grind
    |some A=>
     rw[v]at h;simp only[Option.map_some,ajS]at h;subst h;obtain⟨y,o⟩:=c f akq;have a:=p _ _ _ _ q o;have r:=u _ _ v fun g d=>c g (akr _ d);rw[j.1]at a;have m:=AS a r;rw[show cs.drop (off+P.cellsOf f.type)=(cs.drop off).drop (P.cellsOf f.type) by simp_all,akZ]at m;exact m
   grind
  grind
theorem LK{α:Type}{φ:α->Value->Prop}{go:TypeId->Option (List α)}{m:Nat}{e:TypeId}{cs:List Value}{z:List α}(v:∀t z cs x,go t=some z->DataW.trod enc P w base spare held m t cs=some x->lP φ z cs)
  (h:YQ P go t n e=some z)(f:cs.length=P.cellsOf t)(r:∀i,i<n->∃y,DataW.trod enc P w base spare held m e ((cs.drop (i*P.cellsOf e)).take (P.cellsOf e))=some y):lP φ z cs:=by
 unfold YQ at h;split at h
 ·rename_i q g;split at h
  ·rename_i o;injection h with h;subst h;have key:∀j,j<=n->lP φ (List.replicate j q).flatten (cs.drop ((n - j)*P.cellsOf e)):=by
    intro j;induction j with
    |zero=>
     intro _;show cs.drop _=[];grind
    |succ j p=>
     intro u;obtain⟨y,d⟩:=r (n - (j+1)) O;have a:=v _ _ _ _ g d;have c:=AS a (p O);have l:(n - j)*P.cellsOf e=(n - (j+1))*P.cellsOf e+P.cellsOf e:=by
      rw[show n - j=(n - (j+1))+1 by omega,akX,alf]
     rw[l,<-List.drop_drop,akZ]at c;grind
   grind
  grind
 grind
theorem MB:∀ (d:Nat) (g:Nat) (t:TypeId) (a:List Kd) (cs:List Value) (x:DataW H×List MemPlace),C5 P d t=some a->DataW.trod enc P w base spare held g t cs=some x->lP MA a cs:=by
 intro d;induction d with
 |zero=>grind [C5]
 |succ d q=>
  intro g t a cs x h l;unfold C5 at h;split at h
  ·rename_i k z;injection h with h;subst h;obtain⟨n,rfl,_,v⟩:=DataW.trod_int z l;exact⟨_,[],rfl,⟨n,rfl,v⟩,rfl⟩
  ·rename_i z;injection h with h;subst h;obtain⟨b,rfl,_⟩:=DataW.trod_bool z l;exact⟨_,[],rfl,⟨b,rfl⟩,rfl⟩
  ·rename_i z;injection h with h;subst h;obtain⟨s,rfl,_,v⟩:=DataW.trod_string z l;exact⟨_,[],rfl,⟨s,rfl,v⟩,rfl⟩
  ·rename_i y z;obtain⟨xs,m,_,_,c,p,r⟩:=DataW.trod_struct z l;have:=LJ (enc:=enc) (w:=w) (base:=base) (spare:=spare) (held:=held) (n:=m) (φ:=MA) Z c y.toList 0 a h (fun f j=>by
    obtain⟨i,hi⟩:=aj5 j;grind)
   grind
  ·rename_i n e z;obtain⟨xs,m,_,_,c,p,r⟩:=DataW.trod_array z l;exact LK (enc:=enc) (w:=w) (base:=base) (spare:=spare) (held:=held) (m:=m) Z h c Z
  grind
theorem IY{size:Nat}(l:0<size):∀ (rows:List (List Value)),(∀r∈rows,r.length=size)->∀ (i j:Nat) (r:List Value),rows[i]? =some r->j<size->rows.flatten[i*size+j]? =r[j]? :=by
 intro rows;induction rows with
 |nil=>grind
 |cons q rows a=>
  intro x i j r hi z;have h:=x q akq;rw[ak2];cases i with
  |zero=>
   grind
  |succ i=>
   have e:(i+1)*size+j - q.length=i*size+j:=by rw[akX,alf,h];omega
   grind
theorem AT{size:Nat}:∀ (rows:List (List Value)),(∀r∈rows,r.length=size)->rows.flatten.length=rows.length*size:=by
 intro rows;induction rows with
 |nil=>simp
 |cons q rows x=>
  grind
theorem KD{a:Addr}{v:Value}(h:w.cell? a=some v):a.spot=none/\∃l,Hp.rd w.heap a.block=some l/\l[a.off]? =some v:=by
 unfold World.cell? at h;unfold Hp.rd;split at h
 ·simp_all
 grind
theorem MC{d F:Nat}{e:TypeId}{ks:List Kd}{cs:List Value}{x:DataW H×List MemPlace}(hu:P.underlying t=some (.slice e))(D:C5 P d e=some ks)(E:ks.length=P.cellsOf e)(h0:ks.length≠0)
  (hx:DataW.trod enc P w base spare held F t cs=some x):∃v,cs=[v]/\Oc w.heap (.sl ks) v:=by
 rcases DataW.trod_slice hu hx with ⟨rfl,_⟩| ⟨a,len,cap,acC,rest,n,_,rfl,_,hb,hle,hm,ec,G,_,_⟩
 ·exact⟨_,rfl,[],⟨by simp,Z⟩,(by intro r h;cases h),by simp,none,0,rfl,by simp⟩
 ·refine⟨_,rfl,?_⟩;have each:∀i,i<len->∃r,lP MA ks r/\r.length=ks.length/\∀j,j<ks.length->w.cell? ((a.add (i*ks.length)).add j)=r[j]? :=by
   intro i hi;have c:=G i hi;rw[ajL O]at c;obtain⟨r,h,hy⟩:=Option.bind_eq_some_iff.1 c;have z:=MB d n e ks r _ D hy;obtain⟨_,N,Q⟩:=World.cells?_some h;refine⟨r,z,IX z,fun j hj=>?_⟩;rw[E];exact Q j O
  have SI:∀m,m<=len->∃rows:List (List Value),rows.length=m/\∀i r,rows[i]? =some r->lP MA ks r/\r.length=ks.length/\∀j,j<ks.length->w.cell? ((a.add (i*ks.length)).add j)=r[j]? :=by
   intro m;induction m with
   |zero=>simp_all
   |succ m ih=>
    intro hm';obtain⟨rows,c,N⟩:=ih O;obtain⟨r,h⟩:=each m O;refine⟨rows++[r],by simp[c],fun i q hq=>?_⟩;grind
  obtain⟨rows,f,C⟩:=SI len (ajU _);have p:∀r∈rows,r.length=ks.length:=fun r h=>by
   obtain⟨i,hi⟩:=aj5 h;grind
  refine⟨rows,?_,fun r h=>?_,O,a,cap,by rw[f],O⟩
  ·refine⟨AT rows p,?_⟩;rw[f];by_cases hz:len=0
   ·subst hz;exact .inl ⟨rfl,_,_,rfl⟩
   ·right;have g:0<ks.length:=O;obtain⟨r0,X⟩:∃r,rows[0]? =some r:=⟨_,ajL O⟩;obtain⟨_,YR,U⟩:=C 0 r0 X;have L:=U 0 g;rw[ajL O]at L;obtain⟨K,l,o,_⟩:=KD L;have Ww:a.spot=none:=by
     simp only[aj7]at K;simpa[Addr.add]using K
    have B:∀i j,((a.add i).add j)=⟨a.block,a.off+i+j,none⟩:=fun i j=>by rw[C7 Ww,vK]
    rw[B]at o;have get:∀k,k<len*ks.length->l[a.off+k]? =rows.flatten[k]? :=by
     intro k M;obtain⟨r,h⟩:∃r,rows[k / ks.length]? =some r:=⟨_,ajL (by
      rw[f];exact Nat.div_lt_of_lt_mul (by rw[Nat.mul_comm];exact M))⟩
     obtain⟨_,UX,W⟩:=C _ r h;have A:=Nat.mod_lt k g;have y:=W (k%ks.length) A;rw[ajL O]at y;rw[B]at y;have I:=lQ (w:=w) (a:=⟨a.block,a.off+k / ks.length*ks.length+k%ks.length,none⟩) rfl o;have z:=IY g rows p _ _ r h A;have T:k / ks.length*ks.length+k%ks.length=k:=by rw[Nat.mul_comm];exact Nat.div_add_mod k ks.length
     rw[T]at z;have V:=I.symm.trans y;rw[z];refine Eq.trans ?_ (V.trans (ajL O).symm);exact Z
    have hfl:=AT rows p;have IZ:=get (len*ks.length - 1) (by
     have:0<len*ks.length:=Nat.mul_pos O g;omega)
    have acE:0<len*ks.length:=Z;have ze:a.off+(len*ks.length - 1)<l.length:=by
     rcases aky (a.off+(len*ks.length - 1)) l.length with u|u
     ·exact u
     ·grind
    refine⟨a.block,a.off,cap,l,?_,o,O,?_⟩
    ·cases a;simp_all
    ·apply akb;grind
  ·obtain⟨i,hi⟩:=aj5 h;grind
theorem I0:∀ (d:Nat) (g:Nat) (t:TypeId) (ps:List Pc) (cs:List Value) (x:DataW H×List MemPlace),C6 P d t=some ps->DataW.trod enc P w base spare held g t cs=some x->lP (Oc w.heap) ps cs:=by
 intro d;induction d with
 |zero=>grind [C6]
 |succ d L=>
  intro g t B cs x h l;unfold C6 at h;split at h
  ·rename_i k z;injection h with h;subst h;obtain⟨n,rfl,_,c⟩:=DataW.trod_int z l;exact⟨_,[],rfl,⟨n,rfl,c⟩,rfl⟩
  ·rename_i z;injection h with h;subst h;obtain⟨b,rfl,_⟩:=DataW.trod_bool z l;exact⟨_,[],rfl,⟨b,rfl⟩,rfl⟩
  ·rename_i z;injection h with h;subst h;obtain⟨s,rfl,_,c⟩:=DataW.trod_string z l;exact⟨_,[],rfl,⟨s,rfl,c⟩,rfl⟩
  ·rename_i e z;split at h
   ·rename_i A q;split at h
    ·rename_i y;injection h with h;subst h;obtain⟨v,rfl,u⟩:=MC z q y.1 y.2 l;exact⟨v,[],rfl,u,rfl⟩
    grind
   grind
  ·rename_i r z;obtain⟨xs,m,_,_,a,o,j⟩:=DataW.trod_struct z l;have:=LJ (enc:=enc) (w:=w) (base:=base) (spare:=spare) (held:=held) (n:=m) (φ:=Oc w.heap) Z a r.toList 0 B h (fun f p=>by
    obtain⟨i,hi⟩:=aj5 p;grind)
   grind
  ·rename_i n e z;obtain⟨xs,m,_,_,a,o,j⟩:=DataW.trod_array z l;exact LK (enc:=enc) (w:=w) (base:=base) (spare:=spare) (held:=held) (m:=m) Z h a Z
  grind
def SJ(P:Program)(t:TypeId):Option (Bool×List Pc):=
 match P.underlying t with
 |some (.struct _)|some (.array _ _)=>(C6 P 8 t).map (true,·)
 |some (.int _)|some .bool|some .string|some (.slice _)=>(C6 P 8 t).map (false,·)
 |_=>none
def zL(x:Hp):Bool×List Pc->Value->Prop
 | (true,ps),v=>∃cs:List Value,v= .agg cs.toArray/\lP (Oc x) ps cs
 | (false,ps),v=>lP (Oc x) ps [v]
def C8(P:Program):List TypeId->Option (List (Bool×List Pc))
 | []=>some []
 |t::x=>match SJ P t with
  |some a=>(C8 P x).map (a:: ·)
  |none=>none
theorem Od{r:Reach}{v:Value}{d:DataW H}{ps:List MemPlace}{a:Bool×List Pc}(l:SJ P t=some a)(m:Value.okWide P w r b0 t v)(h:DataW.Trod enc P w base spare held t v d ps):zL w.heap a v:=by
 obtain⟨p,j⟩:=h;unfold SJ at l;cases g:P.underlying t with
 |none=>grind
 |some ty=>
  rw[g]at l;have agg:(∃cs,v= .agg cs/\cs.size=P.cellsOf t/\Row.okWide P w r b0 t cs)->(C6 P 8 t).map (true,·)=some a->zL w.heap a v:=by
   rintro⟨cs,rfl,_⟩ l;cases c:C6 P 8 t with
   |none=>grind
   |some ps=>
    rw[c]at l;simp only[Option.map_some,ajS]at l;subst l;exact⟨cs.toList,rfl,I0 8 p t ps _ _ c j⟩
  have one:v.cells.toList=[v]->(C6 P 8 t).map (false,·)=some a->zL w.heap a v:=by
   intro q l;cases c:C6 P 8 t with
   |none=>grind
   |some ps=>
    rw[c]at l;simp only[Option.map_some,ajS]at l;subst l;rw[q]at j;exact I0 8 p t ps _ _ c j
  cases ty with
  |struct o=>unfold Value.okWide at m;grind
  |array n e=>unfold Value.okWide at m;grind
  |int k=>obtain⟨n,rfl⟩:=okWide_int g m;exact one rfl l
  |bool=>obtain⟨n,rfl⟩:=okWide_bool g m;exact one rfl l
  |string=>obtain⟨n,rfl⟩:=okWide_string g m;exact one rfl l
  |slice e=>obtain⟨x,y,z,rfl⟩:=okWide_slice g m;exact one rfl l
  |_=>cases l
theorem F8{r:Reach}:∀ {z:List TypeId} {vs:List Value} {n:List (DataW H)} {ps:List MemPlace} {l:List (Bool×List Pc)},C8 P z=some l->
  (∀ (j:Nat) t v,z[j]? =some t->vs[j]? =some v->Value.okWide P w r b0 t v)->DataW.TrodAll enc P w base spare held z vs n ps->lP (zL w.heap) l vs:=by
 intro z;induction z with
 |nil=>
  intro vs n ps l x _ h;obtain⟨rfl,rfl,rfl⟩:=trodAll_nil h;simp only[C8,ajS]at x;subst x;rfl
 |cons t z o=>
  intro vs n ps l x m h;obtain⟨v,B,d,L,p,q,rfl,rfl,rfl,e,g⟩:=trodAll_cons h;unfold C8 at x;split at x
  ·rename_i a y;cases c:C8 P z with
   |none=>grind
   |some K=>
    rw[c]at x;simp only[Option.map_some,ajS]at x;subst x;exact⟨v,B,rfl,Od y (m 0 t v rfl rfl) e,o c (fun j f u A C=>m (j+1) f u Z Z) g⟩
  grind
theorem AU:∀ {ts:List TypeId} {vs:List Value} {x:List (DataW H)} {ps:List MemPlace},DataW.TrodAll enc P w base spare held ts vs x ps->x.length=ts.length:=by
 intro ts;induction ts with
 |nil=>intro vs x ps h;obtain⟨rfl,rfl,rfl⟩:=trodAll_nil h;rfl
 |cons t ts n=>intro vs x ps h;obtain⟨v,m,d,z,p,q,rfl,rfl,rfl,l,a⟩:=trodAll_cons h;grind
theorem vj(c:laidOutB P=true):∀ {x:List TypeId} {vs:List Value} {l:List (DataW H)} {ps:List MemPlace} {W z:World} {a:Nat->Bool},(∀t∈x,P.readableRec t=true/\t<P.types.size)->
  DataW.TrodAll enc P W base (fun _=>true) true x vs l ps->(∀p∈ps,W.sameAt z p)->(∀p∈ps,a p.block=true)->DataW.TrodAll enc P z base a true x vs l ps:=by
 intro x;induction x with
 |nil=>intro vs l ps W z a _ h _ _;obtain⟨rfl,rfl,rfl⟩:=trodAll_nil h;rfl
 |cons t x g=>
  intro vs l ps W z a e h r j;obtain⟨v,o,d,y,p,q,rfl,rfl,rfl,n,m⟩:=trodAll_cons h;exact trodAll_cons_mk (WideElems.Trod_stays c Z (e t akq).2 n Z Z)
   (g Z m Z Z)
theorem vk{W x:World}(z:af W.heap x.heap){p:MemPlace}(l:p.block<W.heap.size):W.sameAt x p:=by
 cases p with
 |cell b o=>exact World.cell?_of_block (w:=W) (z.be b l (fun h=>h))
 |map b=>exact z.be b l (fun h=>h)
end
theorem Qv{C:Checked}{f:FuncId}{fn:Func}{s:ChangeSpec}{shs:List (Bool×List Pc)}{tb:TypeId}{H:Type}{enc:TypeId×Value->H}(A:C8 C.prog fn.params.toList=some shs)(u:s.vars=[])
  (E:∀h:List (DataW H),h.length=fn.params.size->s.fn H h={results:=[.lit (.bool true)],args:=h})(d:fn.resultTypes= #[tb])(o:C.prog.underlying tb=some .bool)(laid:laidOutB C.prog=true)
  (M:(fn.params.toList.all fun t=>C.prog.readableRec t && decide (t<C.prog.types.size))=true)
  (walk:∀ (args:List Value) (z:Hp),lP (zL z) shs args->ee C.prog f args z fun v J=>ak (v= .bool true/\af z J))
  {W:World}{base:Nat}{args:Array Value}{h L:List (DataW H)}{before:List MemPlace}(X:∀ (j:Nat) t v,fn.params[j]? =some t->args[j]? =some v->Value.okWide C.prog W .any base t v)
  (m:DataW.Whole enc C.prog fn.params.toList s.vars false W args.toList h L before):
  Calls C.prog f args W fun e W'=>∃v,e= .returned v/\s.post enc C.prog fn false true false false W args v W':=by
 have c:=m;obtain⟨p,q,l,K,rfl,V,eU⟩:=m;have n:=K;rw[u]at n;obtain⟨rfl,rfl⟩:=trodVars_none n;have F:=F8 (b0:=base) (r:=.any) A Z l;have G:=AU l;have D:=c.lt;have g:=ee.law (walk args.toList W.heap F);rw[akQ]at g;refine g.mono fun e W' ⟨T,Q,y⟩=>?_;subst T;have a:s.fn H (h++[])={results:=[.lit (.bool true)],args:=h}:=by rw[ake];exact Z
 have N:∀t∈fn.params.toList,C.prog.readableRec t=true/\t<C.prog.types.size:=Z;refine⟨_,rfl,uR (pa:=p) (pv:=[]) c (fun b B I=>?_) (fun B U=>?_) (fun B U=>by rw[u,a];rfl) rfl Q y ?_⟩
 ·rw[a,d];exact trodAll_cons_mk (shut_bool o _) trodAll_mk0
 ·rw[a];exact vj laid N l (fun x hx=>vk y Z) Z
 ·exact ok_one d rfl (okWide_bool_mk o _)
end
end Go.Vc
