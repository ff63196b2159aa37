/- Texts put behind each other. -/
import Derived.Test.YtjkkkibiegfecaaGreatDoorK98
import Derived.Test.YtjkkkibiegfecaaGreatDoorK13
import Derived.WideKeyArgs
import Derived.OpenShut
import Derived.ChangeArms
import Derived.ChangeOld
import Derived.Handed
import Derived.RowKit
import Derived.DataReads
set_option maxRecDepth 100000
set_option maxHeartbeats 8000000
set_option linter.unusedVariables false
namespace Go.Vc
open Go.ChangeShapes Go.WideShapes Go.RowKit
theorem ai.then{S:Nat→Prop}{A B C:Hp}(h:ai A B)(k:ah S B C)(hs:∀z,S z→A.size≤z):ai A C:=
 h.oz k (by grind)
theorem ah.then{S:Nat→Prop}{A B C:Hp}(h:ah (fun _=>False) A B)(k:ah S B C)(hs:∀z,S z→A.size≤z):ai A C:=ai.then h k hs
inductive Kd where
 |i(k:IntKind)|b|s
 deriving Inhabited
def QL:Kd→Value→Prop
 | .i k,v=>∃n,v= .int k n∧(Lit.int k n).wf=true
 | .b,v=>∃b,v= .bool b
 | .s,v=>∃s:ByteArray,v= .string s∧s.size≤maxLen
def oB{α:Type}(φ:α→Value→Prop):List α→List Value→Prop
 | [],cs=>cs=[]
 |k::ks,cs=>∃v r,cs=v::r∧φ k v∧oB φ ks r
theorem Mv{α:Type}{φ:α→Value→Prop}:∀ {ks:List α} {cs:List Value},oB φ ks cs→cs.length=ks.length:=by
 intro ks
 induction ks with
 |nil=>intro cs h;simp[oB]at h;simp[h]
 |cons k ks ih=>intro cs h;obtain⟨v,r,rfl,_,h⟩:=h;grind
theorem D9{α:Type}{φ:α→Value→Prop}:∀ {ks ks':List α} {cs cs':List Value},oB φ ks cs→oB φ ks' cs'→oB φ (ks++ks') (cs++cs'):=by
 intro ks
 induction ks with
 |nil=>intro ks' cs cs' h h';simp[oB]at h;grind
 |cons k ks ih=>intro ks' cs cs' h h';obtain⟨v,r,rfl,h1,h⟩:=h;exact⟨v,r++cs',rfl,h1,ih h h'⟩
inductive Pc where
 |k(x:Kd)
 |sl(ks:List Kd)
 deriving Inhabited
def St(H:Hp):Pc→Value→Prop
 | .k x,v=>QL x v
 | .sl ks,v=>∃rows:List (List Value),fh H ks.length v rows.length rows.flatten∧(∀r∈rows,oB QL ks r)∧rows.length≤maxLen∧∃a c,v= .slice a rows.length c∧rows.length≤c
def Xe{α:Type}(P:Program)(go:TypeId→Option (List α))(total:Nat):Nat→List Field→Option (List α)
 |off,[]=>if off=total then some []else none
 |off,f::fs=>match go f.type with
  |some ks=>if f.offset=off∧ks.length=P.cellsOf f.type then(Xe P go total (off+P.cellsOf f.type) fs).map (ks++ ·)else none
  |none=>none
def arT{α:Type}(P:Program)(go:TypeId→Option (List α))(t:TypeId)(n:Nat)(e:TypeId):Option (List α):=
 match go e with
 |some ks=>if ks.length=P.cellsOf e∧P.cellsOf t=n*P.cellsOf e then some (List.replicate n ks).flatten else none
 |none=>none
def GC(P:Program):Nat→TypeId→Option (List Kd)
 |0,_=>none
 |d+1,t=>match P.underlying t with
  |some (.int k)=>some [.i k]
  |some .bool=>some [.b]
  |some .string=>some [.s]
  |some (.struct fs)=>Xe P (GC P d) (P.cellsOf t) 0 fs.toList
  |some (.array n e)=>arT P (GC P d) t n e
  |_=>none
def GD(P:Program):Nat→TypeId→Option (List Pc)
 |0,_=>none
 |d+1,t=>match P.underlying t with
  |some (.int k)=>some [.k (.i k)]
  |some .bool=>some [.k .b]
  |some .string=>some [.k .s]
  |some (.slice e)=>match GC P d e with
   |some ks=>if ks.length=P.cellsOf e∧ks.length≠0 then some [.sl ks]else none
   |none=>none
  |some (.struct fs)=>Xe P (GD P d) (P.cellsOf t) 0 fs.toList
  |some (.array n e)=>arT P (GD P d) t n e
  |_=>none
section
variable {H : Type} {enc : TypeId × Value → H} {P : Program} {w : World} {base : Nat} {spare : Nat → Bool} {held : Bool}
theorem PK{α:Type}{φ:α→Value→Prop}{go:TypeId→Option (List α)}{total n:Nat}{cs:List Value}(Zr:∀t ks cs x,go t=some ks→DataW.trod enc P w base spare held n t cs=some x→oB φ ks cs)(GF:cs.length=total):
  ∀ (fs:List Field) (off:Nat) (ks:List α),Xe P go total off fs=some ks→(∀f∈fs,∃y,DataW.trod enc P w base spare held n f.type ((cs.drop f.offset).take (P.cellsOf f.type))=some y)→oB φ ks (cs.drop off):=by
 intro fs
 induction fs with
 |nil=>
  intro off ks h _
  unfold Xe at h
  split at h
  ·rename_i e
   injection h with h
   subst h
   show cs.drop off=[]
   grind
  grind
 |cons f fs ih=>
  intro off ks h hf
  unfold Xe at h
  split at h
  ·rename_i ks1 hk
   split at h
   ·rename_i hc
    cases hr:Xe P go total (off+P.cellsOf f.type) fs with
    |none=>grind
    |some ks2=>
     rw[hr]at h
     simp only[Option.map_some,aoq]at h
     subst h
     obtain⟨y,hy⟩:=hf f aoQ
     have h1:=Zr _ _ _ _ hk hy
     have h2:=ih _ _ hr fun g hg=>hf g (aoU _ hg)
     rw[hc.1]at h1
     have h3:=D9 h1 h2
     rw[show cs.drop (off+P.cellsOf f.type)=(cs.drop off).drop (P.cellsOf f.type) by simp_all,List.take_append_drop]at h3
     exact h3
   grind
  grind
theorem PL{α:Type}{φ:α→Value→Prop}{go:TypeId→Option (List α)}{n m:Nat}{t e:TypeId}{cs:List Value}{ks:List α}(Zr:∀t ks cs x,go t=some ks→DataW.trod enc P w base spare held m t cs=some x→oB φ ks cs)
  (h:arT P go t n e=some ks)(GF:cs.length=P.cellsOf t)(hx:∀i,i<n→∃y,DataW.trod enc P w base spare held m e ((cs.drop (i*P.cellsOf e)).take (P.cellsOf e))=some y):oB φ ks cs:=by
 unfold arT at h
 split at h
 ·rename_i ks1 hk
  split at h
  ·rename_i hc
   injection h with h
   subst h
   have key:∀j,j≤n→oB φ (List.replicate j ks1).flatten (cs.drop ((n - j)*P.cellsOf e)):=by
    intro j
    induction j with
    |zero=>
     intro _
     show cs.drop _=[]
     grind
    |succ j ih=>
     intro hj
     obtain⟨y,hy⟩:=hx (n - (j+1)) (by omega)
     have h1:=Zr _ _ _ _ hk hy
     have h3:=D9 h1 (ih (by omega))
     have e1:(n - j)*P.cellsOf e=(n - (j+1))*P.cellsOf e+P.cellsOf e:=by
      rw[show n - j=(n - (j+1))+1 by omega,api,apL]
     rw[e1,←List.drop_drop,List.take_append_drop]at h3
     grind
   grind
  grind
 grind
theorem QM:∀ (d:Nat) (dk:Nat) (t:TypeId) (ks:List Kd) (cs:List Value) (x:DataW H×List MemPlace),GC P d t=some ks→DataW.trod enc P w base spare held dk t cs=some x→oB QL ks cs:=by
 intro d
 induction d with
 |zero=>grind [GC]
 |succ d ih=>
  intro dk t ks cs x h hx
  unfold GC at h
  split at h
  ·rename_i k hu
   injection h with h;subst h
   obtain⟨n,rfl,_,hw⟩:=DataW.trod_int hu hx
   exact⟨_,[],rfl,⟨n,rfl,hw⟩,rfl⟩
  ·rename_i hu
   injection h with h;subst h
   obtain⟨b,rfl,_⟩:=DataW.trod_bool hu hx
   exact⟨_,[],rfl,⟨b,rfl⟩,rfl⟩
  ·rename_i hu
   injection h with h;subst h
   obtain⟨s,rfl,_,hw⟩:=DataW.trod_string hu hx
   exact⟨_,[],rfl,⟨s,rfl,hw⟩,rfl⟩
  ·rename_i fs hu
   obtain⟨xs,m,_,_,GF,bu,hf⟩:=DataW.trod_struct hu hx
   have:=PK (enc:=enc) (w:=w) (base:=base) (spare:=spare) (held:=held) (n:=m) (φ:=QL) (by grind) GF fs.toList 0 ks h (fun f JC=>by
    obtain⟨i,hi⟩:=aoC JC
    grind)
   grind
  ·rename_i n e hu
   obtain⟨xs,m,_,_,GF,bu,hf⟩:=DataW.trod_array hu hx
   exact PL (enc:=enc) (w:=w) (base:=base) (spare:=spare) (held:=held) (m:=m) (by grind) h GF (by grind)
  grind
theorem Mw{size:Nat}(hs:0<size):∀ (rows:List (List Value)),(∀r∈rows,r.length=size)→∀ (i j:Nat) (r:List Value),rows[i]? =some r→j<size→rows.flatten[i*size+j]? =r[j]? :=by
 intro rows
 induction rows with
 |nil=>grind
 |cons q rows ih=>
  intro hl i j r hi hj
  have hq:=hl q aoQ
  rw[aps]
  cases i with
  |zero=>
   grind
  |succ i=>
   have e:(i+1)*size+j - q.length=i*size+j:=by rw[api,apL,hq];omega
   grind
theorem Ea{size:Nat}:∀ (rows:List (List Value)),(∀r∈rows,r.length=size)→rows.flatten.length=rows.length*size:=by
 intro rows
 induction rows with
 |nil=>simp
 |cons q rows ih=>
  grind
theorem On{a:Addr}{v:Value}(h:w.cell? a=some v):a.spot=none∧∃l,Hp.rd w.heap a.block=some l∧l[a.off]? =some v:=by
 unfold World.cell? at h
 unfold Hp.rd
 split at h
 ·simp_all
 grind
theorem QN{d dk:Nat}{t e:TypeId}{ks:List Kd}{cs:List Value}{x:DataW H×List MemPlace}(hu:P.underlying t=some (.slice e))(hk:GC P d e=some ks)(hl:ks.length=P.cellsOf e)(h0:ks.length≠0)
  (hx:DataW.trod enc P w base spare held dk t cs=some x):∃v,cs=[v]∧St w.heap (.sl ks) v:=by
 rcases DataW.trod_slice hu hx with ⟨rfl,_⟩| ⟨a,len,cap,ahK,rest,n,_,rfl,_,hb,AB,hm,bu,hel,_,_⟩
 ·exact⟨_,rfl,[],⟨by simp,by grind⟩,(by intro r hr;cases hr),by simp,none,0,rfl,by simp⟩
 ·refine⟨_,rfl,?_⟩
  have each:∀i,i<len→∃r,oB QL ks r∧r.length=ks.length∧∀j,j<ks.length→w.cell? ((a.add (i*ks.length)).add j)=r[j]? :=by
   intro i hi
   have h1:=hel i hi
   rw[aol (by omega)]at h1
   obtain⟨r,hr,hy⟩:=Option.bind_eq_some_iff.1 h1
   have hf:=QM d n e ks r _ hk hy
   obtain⟨_,h2,h3⟩:=World.cells?_some hr
   refine⟨r,hf,Mv hf,fun j hj=>?_⟩
   rw[hl]
   exact h3 j (by omega)
  have Xf:∀m,m≤len→∃rows:List (List Value),rows.length=m∧∀i r,rows[i]? =some r→oB QL ks r∧r.length=ks.length∧∀j,j<ks.length→w.cell? ((a.add (i*ks.length)).add j)=r[j]? :=by
   intro m
   induction m with
   |zero=>simp_all
   |succ m ih=>
    intro hm'
    obtain⟨rows,h1,h2⟩:=ih (by omega)
    obtain⟨r,hr⟩:=each m (by omega)
    refine⟨rows++[r],by simp[h1],fun i q hq=>?_⟩
    grind
  obtain⟨rows,hrl,PM⟩:=Xf len (aox _)
  have Su:∀r∈rows,r.length=ks.length:=fun r hr=>by
   obtain⟨i,hi⟩:=aoC hr
   grind
  refine⟨rows,?_,fun r hr=>?_,by omega,a,cap,by rw[hrl],by omega⟩
  ·refine⟨Ea rows Su,?_⟩
   rw[hrl]
   by_cases hz:len=0
   ·subst hz
    exact .inl ⟨rfl,_,_,rfl⟩
   ·right
    have gI:0<ks.length:=by omega
    obtain⟨r0,hr0⟩:∃r,rows[0]? =some r:=⟨_,aol (by omega)⟩
    obtain⟨_,Xg,DZ⟩:=PM 0 r0 hr0
    have hc:=DZ 0 gI
    rw[aol (by omega)]at hc
    obtain⟨hs,l,li,_⟩:=On hc
    have aa9:a.spot=none:=by
     simp only[aoG]at hs
     simpa[Addr.add]using hs
    have Sv:∀i j,((a.add i).add j)=⟨a.block,a.off+i+j,none⟩:=fun i j=>by rw[GG aa9,yT]
    rw[Sv]at li
    have get:∀k,k<len*ks.length→l[a.off+k]? =rows.flatten[k]? :=by
     intro k Ub
     obtain⟨r,hr⟩:∃r,rows[k / ks.length]? =some r:=⟨_,aol (by
      rw[hrl];exact Nat.div_lt_of_lt_mul (by rw[Nat.mul_comm];exact Ub))⟩
     obtain⟨_,Ay,AA⟩:=PM _ r hr
     have Xh:=Nat.mod_lt k gI
     have Nk:=AA (k%ks.length) Xh
     rw[aol (by omega)]at Nk
     rw[Sv]at Nk
     have hcr:=oC (w:=w) (a:=⟨a.block,a.off+k / ks.length*ks.length+k%ks.length,none⟩) rfl li
     have hf:=Mw gI rows Su _ _ r hr Xh
     have ek:k / ks.length*ks.length+k%ks.length=k:=by rw[Nat.mul_comm];exact Nat.div_add_mod k ks.length
     rw[ek]at hf
     have aeX:=hcr.symm.trans Nk
     rw[hf]
     refine Eq.trans ?_ (aeX.trans (aol (by omega)).symm)
     exact(by grind)
    have hfl:=Ea rows Su
    have BN:=get (len*ks.length - 1) (by
     have:0<len*ks.length:=Nat.mul_pos (by omega) gI
     omega)
    have ahL:0<len*ks.length:=by grind
    have rl:a.off+(len*ks.length - 1)<l.length:=by
     rcases ao3 (a.off+(len*ks.length - 1)) l.length with h'|h'
     ·exact h'
     ·grind
    refine⟨a.block,a.off,cap,l,?_,li,by omega,?_⟩
    ·cases a;simp_all
    ·apply aoM
     grind
  ·obtain⟨i,hi⟩:=aoC hr
   grind
theorem Mx:∀ (d:Nat) (dk:Nat) (t:TypeId) (ps:List Pc) (cs:List Value) (x:DataW H×List MemPlace),GD P d t=some ps→DataW.trod enc P w base spare held dk t cs=some x→oB (St w.heap) ps cs:=by
 intro d
 induction d with
 |zero=>grind [GD]
 |succ d ih=>
  intro dk t ks cs x h hx
  unfold GD at h
  split at h
  ·rename_i k hu
   injection h with h;subst h
   obtain⟨n,rfl,_,hw⟩:=DataW.trod_int hu hx
   exact⟨_,[],rfl,⟨n,rfl,hw⟩,rfl⟩
  ·rename_i hu
   injection h with h;subst h
   obtain⟨b,rfl,_⟩:=DataW.trod_bool hu hx
   exact⟨_,[],rfl,⟨b,rfl⟩,rfl⟩
  ·rename_i hu
   injection h with h;subst h
   obtain⟨s,rfl,_,hw⟩:=DataW.trod_string hu hx
   exact⟨_,[],rfl,⟨s,rfl,hw⟩,rfl⟩
  ·rename_i e hu
   split at h
   ·rename_i ks1 hk
    split at h
    ·rename_i hc
     injection h with h;subst h
     obtain⟨v,rfl,hv⟩:=QN hu hk hc.1 hc.2 hx
     exact⟨v,[],rfl,hv,rfl⟩
    grind
   grind
  ·rename_i fs hu
   obtain⟨xs,m,_,_,GF,bu,hf⟩:=DataW.trod_struct hu hx
   have:=PK (enc:=enc) (w:=w) (base:=base) (spare:=spare) (held:=held) (n:=m) (φ:=St w.heap) (by grind) GF fs.toList 0 ks h (fun f JC=>by
    obtain⟨i,hi⟩:=aoC JC
    grind)
   grind
  ·rename_i n e hu
   obtain⟨xs,m,_,_,GF,bu,hf⟩:=DataW.trod_array hu hx
   exact PL (enc:=enc) (w:=w) (base:=base) (spare:=spare) (held:=held) (m:=m) (by grind) h GF (by grind)
  grind
def Xi(P:Program)(t:TypeId):Option (Bool×List Pc):=
 match P.underlying t with
 |some (.struct _)|some (.array _ _)=>(GD P 8 t).map (true,·)
 |some (.int _)|some .bool|some .string|some (.slice _)=>(GD P 8 t).map (false,·)
 |_=>none
def EO(Hh:Hp):Bool×List Pc→Value→Prop
 | (true,ps),v=>∃cs:List Value,v= .agg cs.toArray∧oB (St Hh) ps cs
 | (false,ps),v=>oB (St Hh) ps [v]
def GH(P:Program):List TypeId→Option (List (Bool×List Pc))
 | []=>some []
 |t::ts=>match Xi P t with
  |some a=>(GH P ts).map (a:: ·)
  |none=>none
theorem Sw{r:Reach}{b0:Nat}{t:TypeId}{v:Value}{d:DataW H}{ps:List MemPlace}{a:Bool×List Pc}(ha:Xi P t=some a)(pR:Value.okWide P w r b0 t v)(h:DataW.Trod enc P w base spare held t v d ps):EO w.heap a v:=by
 obtain⟨dk,hf⟩:=h
 unfold Xi at ha
 cases hu:P.underlying t with
 |none=>grind
 |some ty=>
  rw[hu]at ha
  have agg:(∃cs,v= .agg cs∧cs.size=P.cellsOf t∧Row.okWide P w r b0 t cs)→(GD P 8 t).map (true,·)=some a→EO w.heap a v:=by
   rintro⟨cs,rfl,_⟩ ha
   cases hp:GD P 8 t with
   |none=>grind
   |some ps=>
    rw[hp]at ha
    simp only[Option.map_some,aoq]at ha
    subst ha
    exact⟨cs.toList,rfl,Mx 8 dk t ps _ _ hp hf⟩
  have one:v.cells.toList=[v]→(GD P 8 t).map (false,·)=some a→EO w.heap a v:=by
   intro hv ha
   cases hp:GD P 8 t with
   |none=>grind
   |some ps=>
    rw[hp]at ha
    simp only[Option.map_some,aoq]at ha
    subst ha
    rw[hv]at hf
    exact Mx 8 dk t ps _ _ hp hf
  cases ty with
  |struct fs=>unfold Value.okWide at pR;grind
  |array n e=>unfold Value.okWide at pR;grind
  |int k=>obtain⟨n,rfl⟩:=okWide_int hu pR;exact one rfl ha
  |bool=>obtain⟨n,rfl⟩:=okWide_bool hu pR;exact one rfl ha
  |string=>obtain⟨n,rfl⟩:=okWide_string hu pR;exact one rfl ha
  |slice e=>obtain⟨x,y,z,rfl⟩:=okWide_slice hu pR;exact one rfl ha
  |_=>cases ha
theorem JD{r:Reach}{b0:Nat}:∀ {ts:List TypeId} {vs:List Value} {ds:List (DataW H)} {ps:List MemPlace} {U4:List (Bool×List Pc)},GH P ts=some U4→
  (∀ (j:Nat) t v,ts[j]? =some t→vs[j]? =some v→Value.okWide P w r b0 t v)→DataW.TrodAll enc P w base spare held ts vs ds ps→oB (EO w.heap) U4 vs:=by
 intro ts
 induction ts with
 |nil=>
  intro vs ds ps U4 ha _ h
  obtain⟨rfl,rfl,rfl⟩:=trodAll_nil h
  simp only[GH,aoq]at ha
  subst ha
  rfl
 |cons t ts ih=>
  intro vs ds ps U4 ha pR h
  obtain⟨v,vs',d,ds',p,q,rfl,rfl,rfl,h1,h2⟩:=trodAll_cons h
  unfold GH at ha
  split at ha
  ·rename_i a Uc
   cases hr:GH P ts with
   |none=>grind
   |some ajU=>
    rw[hr]at ha
    simp only[Option.map_some,aoq]at ha
    subst ha
    exact⟨v,vs',rfl,Sw Uc (pR 0 t v rfl rfl) h1,ih hr (fun j t' v' hj hv=>pR (j+1) t' v' (by grind) (by grind)) h2⟩
  grind
theorem Eb:∀ {ts:List TypeId} {vs:List Value} {ds:List (DataW H)} {ps:List MemPlace},DataW.TrodAll enc P w base spare held ts vs ds ps→ds.length=ts.length:=by
 intro ts
 induction ts with
 |nil=>intro vs ds ps h;obtain⟨rfl,rfl,rfl⟩:=trodAll_nil h;rfl
 |cons t ts ih=>intro vs ds ps h;obtain⟨v,vs',d,ds',p,q,rfl,rfl,rfl,h1,h2⟩:=trodAll_cons h;grind
theorem yu(hl:laidOutB P=true):∀ {ts:List TypeId} {vs:List Value} {ds:List (DataW H)} {ps:List MemPlace} {W W':World} {sp':Nat→Bool},(∀t∈ts,P.readableRec t=true∧t<P.types.size)→
  DataW.TrodAll enc P W base (fun _=>true) true ts vs ds ps→(∀p∈ps,W.sameAt W' p)→(∀p∈ps,sp' p.block=true)→DataW.TrodAll enc P W' base sp' true ts vs ds ps:=by
 intro ts
 induction ts with
 |nil=>intro vs ds ps W W' sp' _ h _ _;obtain⟨rfl,rfl,rfl⟩:=trodAll_nil h;rfl
 |cons t ts ih=>
  intro vs ds ps W W' sp' ht h h1 h2
  obtain⟨v,vs',d,ds',p,q,rfl,rfl,rfl,g1,g2⟩:=trodAll_cons h
  exact trodAll_cons_mk (WideElems.Trod_stays hl (by grind) (ht t aoQ).2 g1 (by grind) (by grind))
   (ih (by grind) g2 (by grind) (by grind))
theorem yw{W W':World}(hf:ai W.heap W'.heap){p:MemPlace}(hp:p.block<W.heap.size):W.sameAt W' p:=by
 cases p with
 |cell b o=>exact World.cell?_of_block (w:=W) (hf.aO b hp (fun h=>h))
 |map b=>exact hf.aO b hp (fun h=>h)
end
theorem U5{C:Checked}{f:FuncId}{fn:Func}{s:ChangeSpec}{shs:List (Bool×List Pc)}{tb:TypeId}{H:Type}{enc:TypeId×Value→H}(hT:GH C.prog fn.params.toList=some shs)(D5:s.vars=[])
  (Wi:∀ds:List (DataW H),ds.length=fn.params.size→s.fn H ds={results:=[.lit (.bool true)],args:=ds})(AT:fn.resultTypes= #[tb])(Sx:C.prog.underlying tb=some .bool)(laid:laidOutB C.prog=true)
  (Wj:(fn.params.toList.all fun t=>C.prog.readableRec t && decide (t<C.prog.types.size))=true)
  (walk:∀ (args:List Value) (Hh:Hp),oB (EO Hh) shs args→ag C.prog f args Hh fun v H'=>ap (v= .bool true∧ai Hh H'))
  {W:World}{base:Nat}{args:Array Value}{ds gs:List (DataW H)}{before:List MemPlace}(My:∀ (j:Nat) t v,fn.params[j]? =some t→args[j]? =some v→Value.okWide C.prog W .any base t v)
  (hW:DataW.Whole enc C.prog fn.params.toList s.vars false W args.toList ds gs before):
  Calls C.prog f args W fun e W'=>∃v,e= .returned v∧s.post enc C.prog fn false true false false W args v W':=by
 have hW':=hW
 obtain⟨p,q,hA,hV,rfl,hfz,jk⟩:=hW
 have hV':=hV
 rw[D5]at hV'
 obtain⟨rfl,rfl⟩:=trodVars_none hV'
 have Xj:=JD (b0:=base) (r:=.any) hT (by grind) hA
 have bu:=Eb hA
 have bf:=hW'.lt
 have hc:=ag.law (walk args.toList W.heap Xj)
 rw[apn]at hc
 refine hc.mono fun e W' ⟨he,hs,Xk⟩=>?_
 subst he
 have QO:s.fn H (ds++[])={results:=[.lit (.bool true)],args:=ds}:=by rw[aoO];exact(by grind)
 have Oo:∀t∈fn.params.toList,C.prog.readableRec t=true∧t<C.prog.types.size:=by grind
 refine⟨_,rfl,yp (pa:=p) (pv:=[]) hW' (fun b sp hd=>?_) (fun sp U6=>?_) (fun sp U6=>by rw[D5,QO];rfl) rfl hs Xk ?_⟩
 ·rw[QO,AT]
  exact trodAll_cons_mk (shut_bool Sx _) trodAll_mk0
 ·rw[QO]
  exact yu laid Oo hA (fun x hx=>yw Xk (by grind)) (by grind)
 ·exact ok_one AT rfl (okWide_bool_mk Sx _)
end Go.Vc
