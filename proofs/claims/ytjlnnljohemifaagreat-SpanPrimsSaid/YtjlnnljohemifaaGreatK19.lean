/- Texts put behind each other. -/
import Derived.Test.YtjlnnljohemifaaGreatK98
import Derived.Test.YtjlnnljohemifaaGreatK10
import Derived.WideKeyArgs
import Derived.OpenShut
import Derived.ChangeArms
import Derived.ChangeOld
import Derived.Handed
import Derived.RowKit
import Derived.DataReads
set_option maxRecDepth 100000
set_option maxHeartbeats 8000000
set_option linter.unusedVariables false
namespace Go.Vc
open Go.ChangeShapes Go.WideShapes Go.RowKit
theorem ah.then{S:Nat→Prop}{A B C:Hp}(h:ah A B)(k:ag S B C)(hs:∀z,S z→A.size≤z):ah A C:=
 h.me k fun z hz Nd=>absurd (hs z Nd) (by omega)
theorem ag.then{S:Nat→Prop}{A B C:Hp}(h:ag (fun _=>False) A B)(k:ag S B C)(hs:∀z,S z→A.size≤z):ah A C:=ah.then h k hs
inductive Kd where
 |i(k:IntKind)|b|s
 deriving Inhabited
def LH:Kd→Value→Prop
 | .i k,v=>∃n,v= .int k n∧(Lit.int k n).wf=true
 | .b,v=>∃b,v= .bool b
 | .s,v=>∃s:ByteArray,v= .string s∧s.size≤maxLen
def mj{α:Type}(φ:α→Value→Prop):List α→List Value→Prop
 | [],cs=>cs=[]
 |k::ks,cs=>∃v r,cs=v::r∧φ k v∧mj φ ks r
theorem JK{α:Type}{φ:α→Value→Prop}:∀ {ks:List α} {cs:List Value},mj φ ks cs→cs.length=ks.length:=by
 intro ks
 induction ks with
 |nil=>intro cs h;simp[mj]at h;simp[h]
 |cons k ks ih=>intro cs h;obtain⟨v,r,rfl,_,h⟩:=h;simp[ih h]
theorem Ci{α:Type}{φ:α→Value→Prop}:∀ {ks ks':List α} {cs Zk:List Value},mj φ ks cs→mj φ ks' Zk→mj φ (ks++ks') (cs++Zk):=by
 intro ks
 induction ks with
 |nil=>intro ks' cs Zk h h';simp[mj]at h;subst h;simpa using h'
 |cons k ks ih=>intro ks' cs Zk h h';obtain⟨v,r,rfl,h1,h⟩:=h;exact⟨v,r++Zk,rfl,h1,ih h h'⟩
inductive Pc where
 |k(x:Kd)
 |sl(ks:List Kd)
 deriving Inhabited
def P9(H:Hp):Pc→Value→Prop
 | .k x,v=>LH x v
 | .sl ks,v=>∃rows:List (List Value),cI H ks.length v rows.length rows.flatten∧(∀r∈rows,mj LH ks r)∧rows.length≤maxLen∧∃a c,v= .slice a rows.length c∧rows.length≤c
def Va{α:Type}(P:Program)(go:TypeId→Option (List α))(total:Nat):Nat→List Field→Option (List α)
 |off,[]=>if off=total then some []else none
 |off,f::fs=>match go f.type with
  |some ks=>if f.offset=off∧ks.length=P.cellsOf f.type then(Va P go total (off+P.cellsOf f.type) fs).map (ks++ ·)else none
  |none=>none
def arT{α:Type}(P:Program)(go:TypeId→Option (List α))(t:TypeId)(n:Nat)(e:TypeId):Option (List α):=
 match go e with
 |some ks=>if ks.length=P.cellsOf e∧P.cellsOf t=n*P.cellsOf e then some (List.replicate n ks).flatten else none
 |none=>none
def G5(P:Program):Nat→TypeId→Option (List Kd)
 |0,_=>none
 |d+1,t=>match P.underlying t with
  |some (.int k)=>some [.i k]
  |some .bool=>some [.b]
  |some .string=>some [.s]
  |some (.struct fs)=>Va P (G5 P d) (P.cellsOf t) 0 fs.toList
  |some (.array n e)=>arT P (G5 P d) t n e
  |_=>none
def Ge(P:Program):Nat→TypeId→Option (List Pc)
 |0,_=>none
 |d+1,t=>match P.underlying t with
  |some (.int k)=>some [.k (.i k)]
  |some .bool=>some [.k .b]
  |some .string=>some [.k .s]
  |some (.slice e)=>match G5 P d e with
   |some ks=>if ks.length=P.cellsOf e∧ks.length≠0 then some [.sl ks]else none
   |none=>none
  |some (.struct fs)=>Va P (Ge P d) (P.cellsOf t) 0 fs.toList
  |some (.array n e)=>arT P (Ge P d) t n e
  |_=>none
section
variable {H : Type} {enc : TypeId × Value → H} {P : Program} {w : World} {base : Nat} {spare : Nat → Bool} {held : Bool}
theorem Nf{α:Type}{φ:α→Value→Prop}{go:TypeId→Option (List α)}{total n:Nat}{cs:List Value}(Vb:∀t ks cs x,go t=some ks→DataW.trod enc P w base spare held n t cs=some x→mj φ ks cs)(wA:cs.length=total):
  ∀ (fs:List Field) (off:Nat) (ks:List α),Va P go total off fs=some ks→(∀f∈fs,∃y,DataW.trod enc P w base spare held n f.type ((cs.drop f.offset).take (P.cellsOf f.type))=some y)→mj φ ks (cs.drop off):=by
 intro fs
 induction fs with
 |nil=>
  intro off ks h _
  unfold Va at h
  split at h
  ·rename_i e
   injection h with h
   subst h
   show cs.drop off=[]
   rw[e,←wA];simp
  ·cases h
 |cons f fs ih=>
  intro off ks h hf
  unfold Va at h
  split at h
  ·rename_i ks1 hk
   split at h
   ·rename_i hc
    cases hr:Va P go total (off+P.cellsOf f.type) fs with
    |none=>rw[hr]at h;cases h
    |some ks2=>
     rw[hr]at h
     simp only[Option.map_some,anl]at h
     subst h
     obtain⟨y,hy⟩:=hf f anZ
     have h1:=Vb _ _ _ _ hk hy
     have h2:=ih _ _ hr fun g hg=>hf g (anK _ hg)
     rw[hc.1]at h1
     have h3:=Ci h1 h2
     rw[show cs.drop (off+P.cellsOf f.type)=(cs.drop off).drop (P.cellsOf f.type) by rw[ao9],aoB]at h3
     exact h3
   ·cases h
  ·cases h
theorem Ng{α:Type}{φ:α→Value→Prop}{go:TypeId→Option (List α)}{n m:Nat}{t e:TypeId}{cs:List Value}{ks:List α}(Vb:∀t ks cs x,go t=some ks→DataW.trod enc P w base spare held m t cs=some x→mj φ ks cs)
  (h:arT P go t n e=some ks)(wA:cs.length=P.cellsOf t)(hx:∀i,i<n→∃y,DataW.trod enc P w base spare held m e ((cs.drop (i*P.cellsOf e)).take (P.cellsOf e))=some y):mj φ ks cs:=by
 unfold arT at h
 split at h
 ·rename_i ks1 hk
  split at h
  ·rename_i hc
   injection h with h
   subst h
   have key:∀j,j≤n→mj φ (List.replicate j ks1).flatten (cs.drop ((n - j)*P.cellsOf e)):=by
    intro j
    induction j with
    |zero=>
     intro _
     show cs.drop _=[]
     rw[Nat.sub_zero,←hc.2,←wA];simp
    |succ j ih=>
     intro hj
     obtain⟨y,hy⟩:=hx (n - (j+1)) (by omega)
     have h1:=Vb _ _ _ _ hk hy
     have h3:=Ci h1 (ih (by omega))
     have e1:(n - j)*P.cellsOf e=(n - (j+1))*P.cellsOf e+P.cellsOf e:=by
      rw[show n - j=(n - (j+1))+1 by omega,aox,Nat.one_mul]
     rw[e1,←ao9,aoB]at h3
     rw[anS,an9]
     exact h3
   have:=key n (ano _)
   simpa using this
  ·cases h
 ·cases h
theorem Oh:∀ (d:Nat) (cQ:Nat) (t:TypeId) (ks:List Kd) (cs:List Value) (x:DataW H×List MemPlace),G5 P d t=some ks→DataW.trod enc P w base spare held cQ t cs=some x→mj LH ks cs:=by
 intro d
 induction d with
 |zero=>intro cQ t ks cs x h;cases h
 |succ d ih=>
  intro cQ t ks cs x h hx
  unfold G5 at h
  split at h
  ·rename_i k hu
   injection h with h;subst h
   obtain⟨n,rfl,_,hw⟩:=DataW.trod_int hu hx
   exact⟨_,[],rfl,⟨n,rfl,hw⟩,rfl⟩
  ·rename_i hu
   injection h with h;subst h
   obtain⟨b,rfl,_⟩:=DataW.trod_bool hu hx
   exact⟨_,[],rfl,⟨b,rfl⟩,rfl⟩
  ·rename_i hu
   injection h with h;subst h
   obtain⟨s,rfl,_,hw⟩:=DataW.trod_string hu hx
   exact⟨_,[],rfl,⟨s,rfl,hw⟩,rfl⟩
  ·rename_i fs hu
   obtain⟨xs,m,_,_,wA,aV,hf⟩:=DataW.trod_struct hu hx
   have:=Nf (enc:=enc) (w:=w) (base:=base) (spare:=spare) (held:=held) (n:=m) (φ:=LH) (fun t ks cs x h1 h2=>ih m t ks cs x h1 h2) wA fs.toList 0 ks h (fun f Nh=>by
    obtain⟨i,hi⟩:=anM Nh
    have ly:fs[i]? =some f:=by simpa using hi
    have aK:i<fs.size:=(aoa.1 ly).1
    exact⟨_,(hf i f ly).trans (am8 (by omega))⟩)
   simpa using this
  ·rename_i n e hu
   obtain⟨xs,m,_,_,wA,aV,hf⟩:=DataW.trod_array hu hx
   exact Ng (enc:=enc) (w:=w) (base:=base) (spare:=spare) (held:=held) (m:=m) (fun t ks cs x h1 h2=>ih m t ks cs x h1 h2) h wA (fun i hi=>⟨_,(hf i hi).trans (am8 (by omega))⟩)
  ·cases h
theorem JL{size:Nat}(hs:0<size):∀ (rows:List (List Value)),(∀r∈rows,r.length=size)→∀ (i j:Nat) (r:List Value),rows[i]? =some r→j<size→rows.flatten[i*size+j]? =r[j]? :=by
 intro rows
 induction rows with
 |nil=>intro _ i j r h;simp at h
 |cons q rows ih=>
  intro hl i j r hi hj
  have hq:=hl q anZ
  rw[an9]
  cases i with
  |zero=>
   simp only[anG,anl]at hi
   subst hi
   rw[anU,am9,anq (by omega)]
  |succ i=>
   have e:(i+1)*size+j - q.length=i*size+j:=by rw[aox,Nat.one_mul,hq];omega
   rw[anE (by rw[aox,Nat.one_mul,hq];omega),e]
   exact ih (fun x hx=>hl x (anK _ hx)) i j r (by simpa using hi) hj
theorem Cj{size:Nat}:∀ (rows:List (List Value)),(∀r∈rows,r.length=size)→rows.flatten.length=rows.length*size:=by
 intro rows
 induction rows with
 |nil=>simp
 |cons q rows ih=>
  intro hl
  rw[an9,ank,ih fun x hx=>hl x (anK _ hx),hl q anZ,anw,aox,Nat.one_mul,Nat.add_comm]
theorem LI{a:Addr}{v:Value}(h:w.cell? a=some v):a.spot=none∧∃l,Hp.rd w.heap a.block=some l∧l[a.off]? =some v:=by
 unfold World.cell? at h
 unfold Hp.rd
 split at h
 ·rename_i c t fr hb
  split at h
  ·cases h
  ·rename_i hs
   refine⟨by simpa using hs,c.toList,by rw[hb],by simpa using h⟩
 ·cases h
theorem Oi{d cQ:Nat}{t e:TypeId}{ks:List Kd}{cs:List Value}{x:DataW H×List MemPlace}(hu:P.underlying t=some (.slice e))(hk:G5 P d e=some ks)(hl:ks.length=P.cellsOf e)(h0:ks.length≠0)
  (hx:DataW.trod enc P w base spare held cQ t cs=some x):∃v,cs=[v]∧P9 w.heap (.sl ks) v:=by
 rcases DataW.trod_slice hu hx with ⟨rfl,_⟩| ⟨a,len,cap,agN,rest,n,_,rfl,_,hb,mJ,hm,aV,T7,_,_⟩
 ·exact⟨_,rfl,[],⟨by simp,.inl ⟨rfl,none,0,rfl⟩⟩,(by intro r hr;cases hr),by simp,none,0,rfl,by simp⟩
 ·refine⟨_,rfl,?_⟩
  have each:∀i,i<len→∃r,mj LH ks r∧r.length=ks.length∧∀j,j<ks.length→w.cell? ((a.add (i*ks.length)).add j)=r[j]? :=by
   intro i hi
   have h1:=T7 i hi
   rw[am8 (by omega)]at h1
   obtain⟨r,hr,hy⟩:=Option.bind_eq_some_iff.1 h1
   have hf:=Oh d n e ks r _ hk hy
   obtain⟨_,h2,h3⟩:=World.cells?_some hr
   refine⟨r,hf,JK hf,fun j hj=>?_⟩
   rw[hl]
   exact h3 j (by omega)
  have Vd:∀m,m≤len→∃rows:List (List Value),rows.length=m∧∀i r,rows[i]? =some r→mj LH ks r∧r.length=ks.length∧∀j,j<ks.length→w.cell? ((a.add (i*ks.length)).add j)=r[j]? :=by
   intro m
   induction m with
   |zero=>intro _;exact⟨[],rfl,fun i r h=>by simp at h⟩
   |succ m ih=>
    intro hm'
    obtain⟨rows,h1,h2⟩:=ih (by omega)
    obtain⟨r,hr⟩:=each m (by omega)
    refine⟨rows++[r],by simp[h1],fun i q hq=>?_⟩
    by_cases hi:i<m
    ·rw[anq (by omega)]at hq
     exact h2 i q hq
    ·rw[anE (by omega)]at hq
     have:i - rows.length=0:=by
      rcases ao1 (i - rows.length)with h|h
      ·exact h
      ·rw[ans (by simp;omega)]at hq;cases hq
     rw[this]at hq
     simp only[anG,anl]at hq
     subst hq
     rw[show i=m by omega]
     exact hr
  obtain⟨rows,Ve,Ck⟩:=Vd len (ano _)
  have Qa:∀r∈rows,r.length=ks.length:=fun r hr=>by
   obtain⟨i,hi⟩:=anM hr
   exact(Ck i r hi).2.1
  refine⟨rows,?_,fun r hr=>?_,by omega,a,cap,by rw[Ve],by omega⟩
  ·refine⟨Cj rows Qa,?_⟩
   rw[Ve]
   by_cases hz:len=0
   ·subst hz
    exact .inl ⟨rfl,_,_,rfl⟩
   ·right
    have fP:0<ks.length:=Nat.pos_of_ne_zero h0
    obtain⟨r0,Vf⟩:∃r,rows[0]? =some r:=⟨_,am8 (by omega)⟩
    obtain⟨_,T9,jQ⟩:=Ck 0 r0 Vf
    have hc:=jQ 0 fP
    rw[am8 (by omega)]at hc
    obtain⟨hs,l,eG,_⟩:=LI hc
    have Zl:a.spot=none:=by
     simp only[anU]at hs
     simpa[Addr.add]using hs
    have Qb:∀i j,((a.add i).add j)=⟨a.block,a.off+i+j,none⟩:=fun i j=>by rw[D6 Zl,xS]
    rw[Qb]at eG
    have get:∀k,k<len*ks.length→l[a.off+k]? =rows.flatten[k]? :=by
     intro k JM
     obtain⟨r,hr⟩:∃r,rows[k / ks.length]? =some r:=⟨_,am8 (by
      rw[Ve];exact Nat.div_lt_of_lt_mul (by rw[Nat.mul_comm];exact JM))⟩
     obtain⟨_,qP,ue⟩:=Ck _ r hr
     have Sx:=Nat.mod_lt k fP
     have D7:=ue (k%ks.length) Sx
     rw[am8 (by omega)]at D7
     rw[Qb]at D7
     have XO:=mi (w:=w) (a:=⟨a.block,a.off+k / ks.length*ks.length+k%ks.length,none⟩) rfl eG
     have hf:=JL fP rows Qa _ _ r hr Sx
     have ek:k / ks.length*ks.length+k%ks.length=k:=by rw[Nat.mul_comm];exact Nat.div_add_mod k ks.length
     rw[ek]at hf
     have aea:=XO.symm.trans D7
     rw[hf]
     refine Eq.trans ?_ (aea.trans (am8 (by omega)).symm)
     exact anx (fun z=>l[z]?) (by show a.off+k=a.off+k / ks.length*ks.length+k%ks.length;omega)
    have hfl:=Cj rows Qa
    have iP:=get (len*ks.length - 1) (by
     have:0<len*ks.length:=Nat.mul_pos (Nat.pos_of_ne_zero hz) fP
     omega)
    have agO:0<len*ks.length:=Nat.mul_pos (Nat.pos_of_ne_zero hz) fP
    have ny:a.off+(len*ks.length - 1)<l.length:=by
     rcases aow (a.off+(len*ks.length - 1)) l.length with h'|h'
     ·exact h'
     ·rw[ans h',am8 (by rw[hfl,Ve];omega)]at iP;cases iP
    refine⟨a.block,a.off,cap,l,?_,eG,by omega,?_⟩
    ·cases a;simp_all
    ·apply an5
     intro k
     rw[anP]
     split
     ·rename_i JM
      rw[anQ]
      exact get k JM
     ·rw[ans (by rw[hfl,Ve];omega)]
  ·obtain⟨i,hi⟩:=anM hr
   exact(Ck i r hi).1
theorem JN:∀ (d:Nat) (cQ:Nat) (t:TypeId) (ps:List Pc) (cs:List Value) (x:DataW H×List MemPlace),Ge P d t=some ps→DataW.trod enc P w base spare held cQ t cs=some x→mj (P9 w.heap) ps cs:=by
 intro d
 induction d with
 |zero=>intro cQ t ks cs x h;cases h
 |succ d ih=>
  intro cQ t ks cs x h hx
  unfold Ge at h
  split at h
  ·rename_i k hu
   injection h with h;subst h
   obtain⟨n,rfl,_,hw⟩:=DataW.trod_int hu hx
   exact⟨_,[],rfl,⟨n,rfl,hw⟩,rfl⟩
  ·rename_i hu
   injection h with h;subst h
   obtain⟨b,rfl,_⟩:=DataW.trod_bool hu hx
   exact⟨_,[],rfl,⟨b,rfl⟩,rfl⟩
  ·rename_i hu
   injection h with h;subst h
   obtain⟨s,rfl,_,hw⟩:=DataW.trod_string hu hx
   exact⟨_,[],rfl,⟨s,rfl,hw⟩,rfl⟩
  ·rename_i e hu
   split at h
   ·rename_i ks1 hk
    split at h
    ·rename_i hc
     injection h with h;subst h
     obtain⟨v,rfl,hv⟩:=Oi hu hk hc.1 hc.2 hx
     exact⟨v,[],rfl,hv,rfl⟩
    ·cases h
   ·cases h
  ·rename_i fs hu
   obtain⟨xs,m,_,_,wA,aV,hf⟩:=DataW.trod_struct hu hx
   have:=Nf (enc:=enc) (w:=w) (base:=base) (spare:=spare) (held:=held) (n:=m) (φ:=P9 w.heap) (fun t ks cs x h1 h2=>ih m t ks cs x h1 h2) wA fs.toList 0 ks h (fun f Nh=>by
    obtain⟨i,hi⟩:=anM Nh
    have ly:fs[i]? =some f:=by simpa using hi
    have aK:i<fs.size:=(aoa.1 ly).1
    exact⟨_,(hf i f ly).trans (am8 (by omega))⟩)
   simpa using this
  ·rename_i n e hu
   obtain⟨xs,m,_,_,wA,aV,hf⟩:=DataW.trod_array hu hx
   exact Ng (enc:=enc) (w:=w) (base:=base) (spare:=spare) (held:=held) (m:=m) (fun t ks cs x h1 h2=>ih m t ks cs x h1 h2) h wA (fun i hi=>⟨_,(hf i hi).trans (am8 (by omega))⟩)
  ·cases h
def Vg(P:Program)(t:TypeId):Option (Bool×List Pc):=
 match P.underlying t with
 |some (.struct _)|some (.array _ _)=>(Ge P 8 t).map (true,·)
 |some (.int _)|some .bool|some .string|some (.slice _)=>(Ge P 8 t).map (false,·)
 |_=>none
def Gf(Hh:Hp):Bool×List Pc→Value→Prop
 | (true,ps),v=>∃cs:List Value,v= .agg cs.toArray∧mj (P9 Hh) ps cs
 | (false,ps),v=>mj (P9 Hh) ps [v]
def G6(P:Program):List TypeId→Option (List (Bool×List Pc))
 | []=>some []
 |t::ts=>match Vg P t with
  |some a=>(G6 P ts).map (a:: ·)
  |none=>none
theorem Qc{r:Reach}{b0:Nat}{t:TypeId}{v:Value}{d:DataW H}{ps:List MemPlace}{a:Bool×List Pc}(ha:Vg P t=some a)(sr:Value.okWide P w r b0 t v)(h:DataW.Trod enc P w base spare held t v d ps):Gf w.heap a v:=by
 obtain⟨cQ,hf⟩:=h
 unfold Vg at ha
 cases hu:P.underlying t with
 |none=>rw[hu]at ha;cases ha
 |some ty=>
  rw[hu]at ha
  have agg:(∃cs,v= .agg cs∧cs.size=P.cellsOf t∧Row.okWide P w r b0 t cs)→(Ge P 8 t).map (true,·)=some a→Gf w.heap a v:=by
   rintro⟨cs,rfl,_⟩ ha
   cases hp:Ge P 8 t with
   |none=>rw[hp]at ha;cases ha
   |some ps=>
    rw[hp]at ha
    simp only[Option.map_some,anl]at ha
    subst ha
    exact⟨cs.toList,rfl,JN 8 cQ t ps _ _ hp hf⟩
  have one:v.cells.toList=[v]→(Ge P 8 t).map (false,·)=some a→Gf w.heap a v:=by
   intro hv ha
   cases hp:Ge P 8 t with
   |none=>rw[hp]at ha;cases ha
   |some ps=>
    rw[hp]at ha
    simp only[Option.map_some,anl]at ha
    subst ha
    rw[hv]at hf
    exact JN 8 cQ t ps _ _ hp hf
  cases ty with
  |struct fs=>unfold Value.okWide at sr;rw[hu]at sr;exact agg sr ha
  |array n e=>unfold Value.okWide at sr;rw[hu]at sr;exact agg sr ha
  |int k=>obtain⟨n,rfl⟩:=okWide_int hu sr;exact one rfl ha
  |bool=>obtain⟨n,rfl⟩:=okWide_bool hu sr;exact one rfl ha
  |string=>obtain⟨n,rfl⟩:=okWide_string hu sr;exact one rfl ha
  |slice e=>obtain⟨x,y,z,rfl⟩:=okWide_slice hu sr;exact one rfl ha
  |_=>cases ha
theorem Oj{r:Reach}{b0:Nat}:∀ {ts:List TypeId} {vs:List Value} {ds:List (DataW H)} {ps:List MemPlace} {Sy:List (Bool×List Pc)},G6 P ts=some Sy→
  (∀ (j:Nat) t v,ts[j]? =some t→vs[j]? =some v→Value.okWide P w r b0 t v)→DataW.TrodAll enc P w base spare held ts vs ds ps→mj (Gf w.heap) Sy vs:=by
 intro ts
 induction ts with
 |nil=>
  intro vs ds ps Sy ha _ h
  obtain⟨rfl,rfl,rfl⟩:=trodAll_nil h
  simp only[G6,anl]at ha
  subst ha
  rfl
 |cons t ts ih=>
  intro vs ds ps Sy ha sr h
  obtain⟨v,vs',d,ds',p,q,rfl,rfl,rfl,h1,h2⟩:=trodAll_cons h
  unfold G6 at ha
  split at ha
  ·rename_i a Pt
   cases hr:G6 P ts with
   |none=>rw[hr]at ha;cases ha
   |some aiZ=>
    rw[hr]at ha
    simp only[Option.map_some,anl]at ha
    subst ha
    exact⟨v,vs',rfl,Qc Pt (sr 0 t v rfl rfl) h1,ih hr (fun j t' v' hj hv=>sr (j+1) t' v' (by simpa using hj) (by simpa using hv)) h2⟩
  ·cases ha
theorem JO:∀ {ts:List TypeId} {vs:List Value} {ds:List (DataW H)} {ps:List MemPlace},DataW.TrodAll enc P w base spare held ts vs ds ps→ds.length=ts.length:=by
 intro ts
 induction ts with
 |nil=>intro vs ds ps h;obtain⟨rfl,rfl,rfl⟩:=trodAll_nil h;rfl
 |cons t ts ih=>intro vs ds ps h;obtain⟨v,vs',d,ds',p,q,rfl,rfl,rfl,h1,h2⟩:=trodAll_cons h;simp[ih h2]
theorem Gg(hl:laidOutB P=true):∀ {ts:List TypeId} {vs:List Value} {ds:List (DataW H)} {ps:List MemPlace} {W W':World} {sp':Nat→Bool},(∀t∈ts,P.readableRec t=true∧t<P.types.size)→
  DataW.TrodAll enc P W base (fun _=>true) true ts vs ds ps→(∀p∈ps,W.sameAt W' p)→(∀p∈ps,sp' p.block=true)→DataW.TrodAll enc P W' base sp' true ts vs ds ps:=by
 intro ts
 induction ts with
 |nil=>intro vs ds ps W W' sp' _ h _ _;obtain⟨rfl,rfl,rfl⟩:=trodAll_nil h;rfl
 |cons t ts ih=>
  intro vs ds ps W W' sp' ht h h1 h2
  obtain⟨v,vs',d,ds',p,q,rfl,rfl,rfl,g1,g2⟩:=trodAll_cons h
  exact trodAll_cons_mk (WideElems.Trod_stays hl (ht t anZ).1 (ht t anZ).2 g1 (fun x hx=>h1 x (anr _ hx)) (fun x hx=>h2 x (anr _ hx)))
   (ih (fun t' Sz=>ht t' (anK _ Sz)) g2 (fun x hx=>h1 x (aob _ hx)) (fun x hx=>h2 x (aob _ hx)))
theorem Gh{W W':World}(hf:ah W.heap W'.heap){p:MemPlace}(hp:p.block<W.heap.size):W.sameAt W' p:=by
 cases p with
 |cell b o=>exact World.cell?_of_block (w:=W) (hf.aI b hp (fun h=>h))
 |map b=>exact hf.aI b hp (fun h=>h)
end
theorem Ie{C:Checked}{f:FuncId}{fn:Func}{s:ChangeSpec}{shs:List (Bool×List Pc)}{tb:TypeId}{H:Type}{enc:TypeId×Value→H}(hT:G6 C.prog fn.params.toList=some shs)(Jm:s.vars=[])
  (Zm:∀ds:List (DataW H),ds.length=fn.params.size→s.fn H ds={results:=[.lit (.bool true)],args:=ds})(DO:fn.resultTypes= #[tb])(Ua:C.prog.underlying tb=some .bool)(laid:laidOutB C.prog=true)
  (Zn:(fn.params.toList.all fun t=>C.prog.readableRec t && decide (t<C.prog.types.size))=true)
  (walk:∀ (args:List Value) (Hh:Hp),mj (Gf Hh) shs args→af C.prog f args Hh fun v H'=>ar (v= .bool true∧ah Hh H'))
  {W:World}{base:Nat}{args:Array Value}{ds gs:List (DataW H)}{before:List MemPlace}(Qd:∀ (j:Nat) t v,fn.params[j]? =some t→args[j]? =some v→Value.okWide C.prog W .any base t v)
  (hW:DataW.Whole enc C.prog fn.params.toList s.vars false W args.toList ds gs before):
  Calls C.prog f args W fun e W'=>∃v,e= .returned v∧s.post enc C.prog fn false true false false W args v W':=by
 have hW':=hW
 obtain⟨p,q,hA,hV,rfl,hfz,fW⟩:=hW
 have hV':=hV
 rw[Jm]at hV'
 obtain⟨rfl,rfl⟩:=trodVars_none hV'
 have aec:=Oj (b0:=base) (r:=.any) hT (fun j t v hj hv=>Qd j t v (by simpa using hj) (by simpa using hv)) hA
 have aV:=JO hA
 have aK:=hW'.lt
 have hc:=af.law (walk args.toList W.heap aec)
 rw[aoP]at hc
 refine hc.mono fun e W' ⟨he,hs,Vh⟩=>?_
 subst he
 have AE:s.fn H (ds++[])={results:=[.lit (.bool true)],args:=ds}:=by rw[an7];exact Zm ds (by simpa using aV)
 have Vi:∀t∈fn.params.toList,C.prog.readableRec t=true∧t<C.prog.types.size:=fun t ht=>by
  have:=(aok.1 Zn) t ht
  simpa using this
 refine⟨_,rfl,FH (pa:=p) (pv:=[]) hW' (fun b sp hd=>?_) (fun sp Zo=>?_) (fun sp Zo=>by rw[Jm,AE];rfl) rfl hs Vh ?_⟩
 ·rw[AE,DO]
  exact trodAll_cons_mk (shut_bool Ua _) trodAll_mk0
 ·rw[AE]
  exact Gg laid Vi hA (fun x hx=>Gh Vh (aK x (anr _ hx))) (fun x hx=>Zo x (anr _ hx))
 ·exact ok_one DO rfl (okWide_bool_mk Ua _)
end Go.Vc
