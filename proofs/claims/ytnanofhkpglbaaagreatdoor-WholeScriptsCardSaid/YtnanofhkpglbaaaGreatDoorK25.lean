/- Texts put behind each other. -/
import Derived.Test.YtnanofhkpglbaaaGreatDoorK14
import Derived.WideKeyArgs
import Derived.OpenShut
import Derived.ChangeArms
import Derived.ChangeOld
import Derived.Handed
import Derived.RowKit
import Derived.DataReads
set_option linter.unusedVariables false
set_option maxRecDepth 100000
set_option maxHeartbeats 80000000
namespace Go.Vc
open Go.ChangeShapes Go.WideShapes Go.RowKit
section
variable{t:TypeId}{v:Value}{A B C:Hp}{n b0:Nat}
theorem af.then{S:Nat->Prop}(h:af A B)(k:aj S B C)(x:∀z,S z->A.size<=z):af A C:=
 h.lE k Z
theorem aj.then{S:Nat->Prop}(h:aj (fun _=>False) A B)(k:aj S B C)(x:∀z,S z->A.size<=z):af A C:=af.then h k x
inductive Kd where
 |i(k:IntKind)|b|s
 deriving Inhabited
def M7:Kd->Value->Prop
 | .i k,v=>∃n,v= .int k n/\(Lit.int k n).wf=true
 | .b,v=>∃b,v= .bool b
 | .s,v=>∃s:ByteArray,v= .string s/\s.size<=maxLen
def lG{α:Type}(φ:α->Value->Prop):List α->List Value->Prop
 | [],cs=>cs=[]
 |k::ks,cs=>∃v r,cs=v::r/\φ k v/\lG φ ks r
theorem Jr{α:Type}{φ:α->Value->Prop}:∀ {ks:List α} {cs:List Value},lG φ ks cs->cs.length=ks.length:=by
 intro ks;induction ks with
 |nil=>intro cs h;simp[lG]at h;simp[h]
 |cons k ks x=>intro cs h;obtain⟨v,r,rfl,_,h⟩:=h;grind
theorem AU{α:Type}{φ:α->Value->Prop}:∀ {ks z:List α} {cs x:List Value},lG φ ks cs->lG φ z x->lG φ (ks++z) (cs++x):=by
 intro ks;induction ks with
 |nil=>intro z cs x h l;simp[lG]at h;grind
 |cons k ks n=>intro z cs x h l;obtain⟨v,r,rfl,a,h⟩:=h;exact⟨v,r++x,rfl,a,n h l⟩
inductive Pc where
 |k(x:Kd)
 |sl(ks:List Kd)
 deriving Inhabited
def OY(H:Hp):Pc->Value->Prop
 | .k x,v=>M7 x v
 | .sl ks,v=>∃rows:List (List Value),bD H ks.length v rows.length rows.flatten/\(∀r∈rows,lG M7 ks r)/\rows.length<=maxLen/\∃a c,v= .slice a rows.length c/\rows.length<=c
def TK{α:Type}(P:Program)(go:TypeId->Option (List α))(total:Nat):Nat->List Field->Option (List α)
 |off,[]=>if off=total then some []else none
 |off,f::x=>match go f.type with
  |some ks=>if f.offset=off/\ks.length=P.cellsOf f.type then(TK P go total (off+P.cellsOf f.type) x).map (ks++ ·)else none
  |none=>none
def Z6{α:Type}(P:Program)(go:TypeId->Option (List α))(t:TypeId)(n:Nat)(e:TypeId):Option (List α):=
 match go e with
 |some ks=>if ks.length=P.cellsOf e/\P.cellsOf t=n*P.cellsOf e then some (List.replicate n ks).flatten else none
 |none=>none
def Da(P:Program):Nat->TypeId->Option (List Kd)
 |0,_=>none
 |d+1,t=>match P.underlying t with
  |some (.int k)=>some [.i k]
  |some .bool=>some [.b]
  |some .string=>some [.s]
  |some (.struct x)=>TK P (Da P d) (P.cellsOf t) 0 x.toList
  |some (.array n e)=>Z6 P (Da P d) t n e
  |_=>none
def Db(P:Program):Nat->TypeId->Option (List Pc)
 |0,_=>none
 |d+1,t=>match P.underlying t with
  |some (.int k)=>some [.k (.i k)]
  |some .bool=>some [.k .b]
  |some .string=>some [.k .s]
  |some (.slice e)=>match Da P d e with
   |some ks=>if ks.length=P.cellsOf e/\ks.length≠0 then some [.sl ks]else none
   |none=>none
  |some (.struct x)=>TK P (Db P d) (P.cellsOf t) 0 x.toList
  |some (.array n e)=>Z6 P (Db P d) t n e
  |_=>none
section
variable {H : Type} {enc : TypeId × Value → H} {P : Program} {w : World} {base : Nat} {spare : Nat → Bool} {held : Bool}
theorem Mk{α:Type}{φ:α->Value->Prop}{go:TypeId->Option (List α)}{total:Nat}{cs:List Value}(d:∀t ks cs x,go t=some ks->DataW.trod enc P w base spare held n t cs=some x->lG φ ks cs)(u:cs.length=total):
  ∀ (z:List Field) (off:Nat) (ks:List α),TK P go total off z=some ks->(∀f∈z,∃y,DataW.trod enc P w base spare held n f.type ((cs.drop f.offset).take (P.cellsOf f.type))=some y)->lG φ ks (cs.drop off):=by
 intro z;induction z with
 |nil=>
  intro off ks h _;unfold TK at h;split at h
  ·rename_i e;injection h with h;subst h;show cs.drop off=[];grind
  grind
 |cons f z o=>
  intro off ks h m;unfold TK at h;split at h
  ·rename_i B p;split at h
   ·rename_i r;cases c:TK P go total (off+P.cellsOf f.type) z with
    |none=>grind
    |some L=>
     rw[c]at h;simp only[Option.map_some,alg]at h;subst h;obtain⟨y,q⟩:=m f alS;have l:=d _ _ _ _ p q;have v:=o _ _ c fun g j=>m g (alT _ j);rw[r.1]at l;have a:=AU l v;rw[show cs.drop (off+P.cellsOf f.type)=(cs.drop off).drop (P.cellsOf f.type) by simp_all,amr]at a;exact a
   grind
  grind
theorem Ml{α:Type}{φ:α->Value->Prop}{go:TypeId->Option (List α)}{m:Nat}{e:TypeId}{cs:List Value}{ks:List α}(c:∀t ks cs x,go t=some ks->DataW.trod enc P w base spare held m t cs=some x->lG φ ks cs)
  (h:Z6 P go t n e=some ks)(o:cs.length=P.cellsOf t)(g:∀i,i<n->∃y,DataW.trod enc P w base spare held m e ((cs.drop (i*P.cellsOf e)).take (P.cellsOf e))=some y):lG φ ks cs:=by
 unfold Z6 at h;split at h
 ·rename_i p v;split at h
  ·rename_i q;injection h with h;subst h;have key:∀j,j<=n->lG φ (List.replicate j p).flatten (cs.drop ((n - j)*P.cellsOf e)):=by
    intro j;induction j with
    |zero=>
     intro _;show cs.drop _=[];grind
    |succ j d=>
     intro f;obtain⟨y,r⟩:=g (n - (j+1)) O;have l:=c _ _ _ _ v r;have a:=AU l (d O);have z:(n - j)*P.cellsOf e=(n - (j+1))*P.cellsOf e+P.cellsOf e:=by
      rw[show n - j=(n - (j+1))+1 by omega,amo,amH]
     rw[z,<-List.drop_drop,amr]at a;grind
   grind
  grind
 grind
theorem M8:∀ (d:Nat) (v:Nat) (t:TypeId) (ks:List Kd) (cs:List Value) (x:DataW H×List MemPlace),Da P d t=some ks->DataW.trod enc P w base spare held v t cs=some x->lG M7 ks cs:=by
 intro d;induction d with
 |zero=>grind [Da]
 |succ d p=>
  intro v t ks cs x h l;unfold Da at h;split at h
  ·rename_i k z;injection h with h;subst h;obtain⟨n,rfl,_,c⟩:=DataW.trod_int z l;exact⟨_,[],rfl,⟨n,rfl,c⟩,rfl⟩
  ·rename_i z;injection h with h;subst h;obtain⟨b,rfl,_⟩:=DataW.trod_bool z l;exact⟨_,[],rfl,⟨b,rfl⟩,rfl⟩
  ·rename_i z;injection h with h;subst h;obtain⟨s,rfl,_,c⟩:=DataW.trod_string z l;exact⟨_,[],rfl,⟨s,rfl,c⟩,rfl⟩
  ·rename_i g z;obtain⟨xs,m,_,_,a,j,y⟩:=DataW.trod_struct z l;have:=Mk (enc:=enc) (w:=w) (base:=base) (spare:=spare) (held:=held) (n:=m) (φ:=M7) Z a g.toList 0 ks h (fun f r=>by
    obtain⟨i,hi⟩:=als r;grind)
   grind
  ·rename_i n e z;obtain⟨xs,m,_,_,a,j,y⟩:=DataW.trod_array z l;exact Ml (enc:=enc) (w:=w) (base:=base) (spare:=spare) (held:=held) (m:=m) Z h a Z
  grind
theorem Js{size:Nat}(l:0<size):∀ (rows:List (List Value)),(∀r∈rows,r.length=size)->∀ (i j:Nat) (r:List Value),rows[i]? =some r->j<size->rows.flatten[i*size+j]? =r[j]? :=by
 intro rows;induction rows with
 |nil=>grind
 |cons q rows a=>
  intro x i j r hi z;have h:=x q alS;rw[amw];cases i with
  |zero=>
   grind
  |succ i=>
   have e:(i+1)*size+j - q.length=i*size+j:=by rw[amo,amH,h];omega
   grind
theorem AV{size:Nat}:∀ (rows:List (List Value)),(∀r∈rows,r.length=size)->rows.flatten.length=rows.length*size:=by
 intro rows;induction rows with
 |nil=>simp
 |cons q rows x=>
  grind
theorem K7{a:Addr}(h:w.cell? a=some v):a.spot=none/\∃l,Hp.rd w.heap a.block=some l/\l[a.off]? =some v:=by
 unfold World.cell? at h;unfold Hp.rd;split at h
 ·simp_all
 grind
theorem M9{d F:Nat}{e:TypeId}{ks:List Kd}{cs:List Value}{x:DataW H×List MemPlace}(hu:P.underlying t=some (.slice e))(D:Da P d e=some ks)(E:ks.length=P.cellsOf e)(h0:ks.length≠0)
  (hx:DataW.trod enc P w base spare held F t cs=some x):∃v,cs=[v]/\OY w.heap (.sl ks) v:=by
 rcases DataW.trod_slice hu hx with ⟨rfl,_⟩| ⟨a,len,cap,adT,rest,n,_,rfl,_,hb,hle,hm,ec,G,_,_⟩
 ·exact⟨_,rfl,[],⟨by simp,Z⟩,(by intro r h;cases h),by simp,none,0,rfl,by simp⟩
 ·refine⟨_,rfl,?_⟩;have each:∀i,i<len->∃r,lG M7 ks r/\r.length=ks.length/\∀j,j<ks.length->w.cell? ((a.add (i*ks.length)).add j)=r[j]? :=by
   intro i hi;have c:=G i hi;rw[ak9 O]at c;obtain⟨r,h,hy⟩:=Option.bind_eq_some_iff.1 c;have z:=M8 d n e ks r _ D hy;obtain⟨_,N,Q⟩:=World.cells?_some h;refine⟨r,z,Jr z,fun j hj=>?_⟩;rw[E];exact Q j O
  have TL:∀m,m<=len->∃rows:List (List Value),rows.length=m/\∀i r,rows[i]? =some r->lG M7 ks r/\r.length=ks.length/\∀j,j<ks.length->w.cell? ((a.add (i*ks.length)).add j)=r[j]? :=by
   intro m;induction m with
   |zero=>simp_all
   |succ m ih=>
    intro hm';obtain⟨rows,c,N⟩:=ih O;obtain⟨r,h⟩:=each m O;refine⟨rows++[r],by simp[c],fun i q hq=>?_⟩;grind
  obtain⟨rows,f,C⟩:=TL len (alj _);have p:∀r∈rows,r.length=ks.length:=fun r h=>by
   obtain⟨i,hi⟩:=als h;grind
  refine⟨rows,?_,fun r h=>?_,O,a,cap,by rw[f],O⟩
  ·refine⟨AV rows p,?_⟩;rw[f];by_cases hz:len=0
   ·subst hz;exact .inl ⟨rfl,_,_,rfl⟩
   ·right;have g:0<ks.length:=O;obtain⟨r0,X⟩:∃r,rows[0]? =some r:=⟨_,ak9 O⟩;obtain⟨_,Z7,U⟩:=C 0 r0 X;have L:=U 0 g;rw[ak9 O]at L;obtain⟨K,l,o,_⟩:=K7 L;have XA:a.spot=none:=by
     simp only[aly]at K;simpa[Addr.add]using K
    have B:∀i j,((a.add i).add j)=⟨a.block,a.off+i+j,none⟩:=fun i j=>by rw[Dc XA,vp]
    rw[B]at o;have get:∀k,k<len*ks.length->l[a.off+k]? =rows.flatten[k]? :=by
     intro k M;obtain⟨r,h⟩:∃r,rows[k / ks.length]? =some r:=⟨_,ak9 (by
      rw[f];exact Nat.div_lt_of_lt_mul (by rw[Nat.mul_comm];exact M))⟩
     obtain⟨_,V5,W⟩:=C _ r h;have A:=Nat.mod_lt k g;have y:=W (k%ks.length) A;rw[ak9 O]at y;rw[B]at y;have I:=cJ (w:=w) (a:=⟨a.block,a.off+k / ks.length*ks.length+k%ks.length,none⟩) rfl o;have z:=Js g rows p _ _ r h A;have T:k / ks.length*ks.length+k%ks.length=k:=by rw[Nat.mul_comm];exact Nat.div_add_mod k ks.length
     rw[T]at z;have V:=I.symm.trans y;rw[z];refine Eq.trans ?_ (V.trans (ak9 O).symm);exact Z
    have hfl:=AV rows p;have Jt:=get (len*ks.length - 1) (by
     have:0<len*ks.length:=Nat.mul_pos O g;omega)
    have adV:0<len*ks.length:=Z;have wT:a.off+(len*ks.length - 1)<l.length:=by
     rcases al1 (a.off+(len*ks.length - 1)) l.length with u|u
     ·exact u
     ·grind
    refine⟨a.block,a.off,cap,l,?_,o,O,?_⟩
    ·cases a;simp_all
    ·apply alB;grind
  ·obtain⟨i,hi⟩:=als h;grind
theorem Ju:∀ (d:Nat) (g:Nat) (t:TypeId) (ps:List Pc) (cs:List Value) (x:DataW H×List MemPlace),Db P d t=some ps->DataW.trod enc P w base spare held g t cs=some x->lG (OY w.heap) ps cs:=by
 intro d;induction d with
 |zero=>grind [Db]
 |succ d B=>
  intro g t ks cs x h l;unfold Db at h;split at h
  ·rename_i k z;injection h with h;subst h;obtain⟨n,rfl,_,c⟩:=DataW.trod_int z l;exact⟨_,[],rfl,⟨n,rfl,c⟩,rfl⟩
  ·rename_i z;injection h with h;subst h;obtain⟨b,rfl,_⟩:=DataW.trod_bool z l;exact⟨_,[],rfl,⟨b,rfl⟩,rfl⟩
  ·rename_i z;injection h with h;subst h;obtain⟨s,rfl,_,c⟩:=DataW.trod_string z l;exact⟨_,[],rfl,⟨s,rfl,c⟩,rfl⟩
  ·rename_i e z;split at h
   ·rename_i L q;split at h
    ·rename_i y;injection h with h;subst h;obtain⟨v,rfl,u⟩:=M9 z q y.1 y.2 l;exact⟨v,[],rfl,u,rfl⟩
    grind
   grind
  ·rename_i r z;obtain⟨xs,m,_,_,a,o,j⟩:=DataW.trod_struct z l;have:=Mk (enc:=enc) (w:=w) (base:=base) (spare:=spare) (held:=held) (n:=m) (φ:=OY w.heap) Z a r.toList 0 ks h (fun f p=>by
    obtain⟨i,hi⟩:=als p;grind)
   grind
  ·rename_i n e z;obtain⟨xs,m,_,_,a,o,j⟩:=DataW.trod_array z l;exact Ml (enc:=enc) (w:=w) (base:=base) (spare:=spare) (held:=held) (m:=m) Z h a Z
  grind
def TM(P:Program)(t:TypeId):Option (Bool×List Pc):=
 match P.underlying t with
 |some (.struct _)|some (.array _ _)=>(Db P 8 t).map (true,·)
 |some (.int _)|some .bool|some .string|some (.slice _)=>(Db P 8 t).map (false,·)
 |_=>none
def zD(x:Hp):Bool×List Pc->Value->Prop
 | (true,ps),v=>∃cs:List Value,v= .agg cs.toArray/\lG (OY x) ps cs
 | (false,ps),v=>lG (OY x) ps [v]
def Dd(P:Program):List TypeId->Option (List (Bool×List Pc))
 | []=>some []
 |t::x=>match TM P t with
  |some a=>(Dd P x).map (a:: ·)
  |none=>none
theorem OZ{r:Reach}{d:DataW H}{ps:List MemPlace}{a:Bool×List Pc}(l:TM P t=some a)(m:Value.okWide P w r b0 t v)(h:DataW.Trod enc P w base spare held t v d ps):zD w.heap a v:=by
 obtain⟨p,j⟩:=h;unfold TM at l;cases g:P.underlying t with
 |none=>grind
 |some ty=>
  rw[g]at l;have agg:(∃cs,v= .agg cs/\cs.size=P.cellsOf t/\Row.okWide P w r b0 t cs)->(Db P 8 t).map (true,·)=some a->zD w.heap a v:=by
   rintro⟨cs,rfl,_⟩ l;cases c:Db P 8 t with
   |none=>grind
   |some ps=>
    rw[c]at l;simp only[Option.map_some,alg]at l;subst l;exact⟨cs.toList,rfl,Ju 8 p t ps _ _ c j⟩
  have one:v.cells.toList=[v]->(Db P 8 t).map (false,·)=some a->zD w.heap a v:=by
   intro q l;cases c:Db P 8 t with
   |none=>grind
   |some ps=>
    rw[c]at l;simp only[Option.map_some,alg]at l;subst l;rw[q]at j;exact Ju 8 p t ps _ _ c j
  cases ty with
  |struct o=>unfold Value.okWide at m;grind
  |array n e=>unfold Value.okWide at m;grind
  |int k=>obtain⟨n,rfl⟩:=okWide_int g m;exact one rfl l
  |bool=>obtain⟨n,rfl⟩:=okWide_bool g m;exact one rfl l
  |string=>obtain⟨n,rfl⟩:=okWide_string g m;exact one rfl l
  |slice e=>obtain⟨x,y,z,rfl⟩:=okWide_slice g m;exact one rfl l
  |_=>cases l
theorem Gl{r:Reach}:∀ {z:List TypeId} {vs:List Value} {n:List (DataW H)} {ps:List MemPlace} {l:List (Bool×List Pc)},Dd P z=some l->
  (∀ (j:Nat) t v,z[j]? =some t->vs[j]? =some v->Value.okWide P w r b0 t v)->DataW.TrodAll enc P w base spare held z vs n ps->lG (zD w.heap) l vs:=by
 intro z;induction z with
 |nil=>
  intro vs n ps l x _ h;obtain⟨rfl,rfl,rfl⟩:=trodAll_nil h;simp only[Dd,alg]at x;subst x;rfl
 |cons t z o=>
  intro vs n ps l x m h;obtain⟨v,B,d,L,p,q,rfl,rfl,rfl,e,g⟩:=trodAll_cons h;unfold Dd at x;split at x
  ·rename_i a y;cases c:Dd P z with
   |none=>grind
   |some K=>
    rw[c]at x;simp only[Option.map_some,alg]at x;subst x;exact⟨v,B,rfl,OZ y (m 0 t v rfl rfl) e,o c (fun j f u A C=>m (j+1) f u Z Z) g⟩
  grind
theorem AW:∀ {ts:List TypeId} {vs:List Value} {x:List (DataW H)} {ps:List MemPlace},DataW.TrodAll enc P w base spare held ts vs x ps->x.length=ts.length:=by
 intro ts;induction ts with
 |nil=>intro vs x ps h;obtain⟨rfl,rfl,rfl⟩:=trodAll_nil h;rfl
 |cons t ts n=>intro vs x ps h;obtain⟨v,m,d,z,p,q,rfl,rfl,rfl,l,a⟩:=trodAll_cons h;grind
theorem uO(c:laidOutB P=true):∀ {x:List TypeId} {vs:List Value} {l:List (DataW H)} {ps:List MemPlace} {W z:World} {a:Nat->Bool},(∀t∈x,P.readableRec t=true/\t<P.types.size)->
  DataW.TrodAll enc P W base (fun _=>true) true x vs l ps->(∀p∈ps,W.sameAt z p)->(∀p∈ps,a p.block=true)->DataW.TrodAll enc P z base a true x vs l ps:=by
 intro x;induction x with
 |nil=>intro vs l ps W z a _ h _ _;obtain⟨rfl,rfl,rfl⟩:=trodAll_nil h;rfl
 |cons t x g=>
  intro vs l ps W z a e h r j;obtain⟨v,o,d,y,p,q,rfl,rfl,rfl,n,m⟩:=trodAll_cons h;exact trodAll_cons_mk (WideElems.Trod_stays c Z (e t alS).2 n Z Z)
   (g Z m Z Z)
theorem uP{W x:World}(z:af W.heap x.heap){p:MemPlace}(l:p.block<W.heap.size):W.sameAt x p:=by
 cases p with
 |cell b o=>exact World.cell?_of_block (w:=W) (z.aW b l (fun h=>h))
 |map b=>exact z.aW b l (fun h=>h)
end
theorem Rk{C:Checked}{f:FuncId}{fn:Func}{s:ChangeSpec}{shs:List (Bool×List Pc)}{tb:TypeId}{H:Type}{enc:TypeId×Value->H}(A:Dd C.prog fn.params.toList=some shs)(u:s.vars=[])
  (E:∀h:List (DataW H),h.length=fn.params.size->s.fn H h={results:=[.lit (.bool true)],args:=h})(d:fn.resultTypes= #[tb])(o:C.prog.underlying tb=some .bool)(laid:laidOutB C.prog=true)
  (M:(fn.params.toList.all fun t=>C.prog.readableRec t && decide (t<C.prog.types.size))=true)
  (walk:∀ (args:List Value) (z:Hp),lG (zD z) shs args->dO C.prog f args z fun v J=>ak (v= .bool true/\af z J))
  {W:World}{base:Nat}{args:Array Value}{h L:List (DataW H)}{before:List MemPlace}(X:∀ (j:Nat) t v,fn.params[j]? =some t->args[j]? =some v->Value.okWide C.prog W .any base t v)
  (m:DataW.Whole enc C.prog fn.params.toList s.vars false W args.toList h L before):
  Calls C.prog f args W fun e W'=>∃v,e= .returned v/\s.post enc C.prog fn false true false false W args v W':=by
 have c:=m;obtain⟨p,q,l,K,rfl,V,dZ⟩:=m;have n:=K;rw[u]at n;obtain⟨rfl,rfl⟩:=trodVars_none n;have F:=Gl (b0:=base) (r:=.any) A Z l;have G:=AW l;have D:=c.lt;have g:=dO.law (walk args.toList W.heap F);rw[amf]at g;refine g.mono fun e W' ⟨T,Q,y⟩=>?_;subst T;have a:s.fn H (h++[])={results:=[.lit (.bool true)],args:=h}:=by rw[alE];exact Z
 have N:∀t∈fn.params.toList,C.prog.readableRec t=true/\t<C.prog.types.size:=Z;refine⟨_,rfl,uK (pa:=p) (pv:=[]) c (fun b B I=>?_) (fun B U=>?_) (fun B U=>by rw[u,a];rfl) rfl Q y ?_⟩
 ·rw[a,d];exact trodAll_cons_mk (shut_bool o _) trodAll_mk0
 ·rw[a];exact uO laid N l (fun x hx=>uP y Z) Z
 ·exact ok_one d rfl (okWide_bool_mk o _)
theorem Rm{H:Hp}(h:zD H (false,[.k (.i .u8)]) v):∃n:Int,v= .int .u8 n/\0<=n/\n<=255:=by
 obtain⟨_,_,e,⟨n,rfl,l⟩,rfl⟩:=h;injection e with e _;subst e;have x:IntKind.u8.min=0:=rfl;have z:IntKind.u8.max=255:=rfl;simp only[Lit.wf,alJ,amv,x,z]at l;grind
end
end Go.Vc
