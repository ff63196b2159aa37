/- Texts put behind each other. -/
import Derived.Test.YtjlnnljohemifaaGreatK98
import Derived.Test.YtjlnnljohemifaaGreatK10
import Derived.WideKeyArgs
import Derived.OpenShut
import Derived.ChangeArms
import Derived.ChangeOld
import Derived.Handed
import Derived.RowKit
import Derived.DataReads
set_option linter.unusedVariables false
namespace Go.Vc
open Go.ChangeShapes Go.WideShapes Go.RowKit
theorem ax.then{S:Nat→Prop}{A B C:Hp}(h:ax A B)(k:ai S B C)(hs:∀z,S z→A.size≤z):ax A C:=
 h.ut k fun z hz OO=>absurd (hs z OO) (by omega)
theorem ai.then{S:Nat→Prop}{A B C:Hp}(h:ai (fun _=>False) A B)(k:ai S B C)(hs:∀z,S z→A.size≤z):ax A C:=ax.then h k hs
inductive Kd where
 |i(k:IntKind)|b|s
 deriving Inhabited
def Ly:Kd→Value→Prop
 | .i k,v=>∃n,v= .int k n∧(Lit.int k n).wf=true
 | .b,v=>∃b,v= .bool b
 | .s,v=>∃s:ByteArray,v= .string s∧s.size≤maxLen
def pK{α:Type}(φ:α→Value→Prop):List α→List Value→Prop
 | [],cs=>cs=[]
 |k::ks,cs=>∃v r,cs=v::r∧φ k v∧pK φ ks r
theorem Lz{α:Type}{φ:α→Value→Prop}:∀ {ks:List α} {cs:List Value},pK φ ks cs→cs.length=ks.length:=by
 intro ks
 induction ks with
 |nil=>intro cs h;simp[pK]at h;simp[h]
 |cons k ks ih=>intro cs h;obtain⟨v,r,rfl,_,h⟩:=h;simp[ih h]
theorem EI{α:Type}{φ:α→Value→Prop}:∀ {ks ks':List α} {cs ZX:List Value},pK φ ks cs→pK φ ks' ZX→pK φ (ks++ks') (cs++ZX):=by
 intro ks
 induction ks with
 |nil=>intro ks' cs ZX h h';simp[pK]at h;subst h;simpa using h'
 |cons k ks ih=>intro ks' cs ZX h h';obtain⟨v,r,rfl,h1,h⟩:=h;exact⟨v,r++ZX,rfl,h1,ih h h'⟩
inductive Pc where
 |k(x:Kd)
 |sl(ks:List Kd)
 deriving Inhabited
def RL(H:Hp):Pc→Value→Prop
 | .k x,v=>Ly x v
 | .sl ks,v=>∃rows:List (List Value),ep H ks.length v rows.length rows.flatten∧(∀r∈rows,pK Ly ks r)∧rows.length≤maxLen∧∃a c,v= .slice a rows.length c∧rows.length≤c
def Wd{α:Type}(P:Program)(go:TypeId→Option (List α))(total:Nat):Nat→List Field→Option (List α)
 |off,[]=>if off=total then some []else none
 |off,f::fs=>match go f.type with
  |some ks=>if f.offset=off∧ks.length=P.cellsOf f.type then(Wd P go total (off+P.cellsOf f.type) fs).map (ks++ ·)else none
  |none=>none
def arT{α:Type}(P:Program)(go:TypeId→Option (List α))(t:TypeId)(n:Nat)(e:TypeId):Option (List α):=
 match go e with
 |some ks=>if ks.length=P.cellsOf e∧P.cellsOf t=n*P.cellsOf e then some (List.replicate n ks).flatten else none
 |none=>none
def Jr(P:Program):Nat→TypeId→Option (List Kd)
 |0,_=>none
 |d+1,t=>match P.underlying t with
  |some (.int k)=>some [.i k]
  |some .bool=>some [.b]
  |some .string=>some [.s]
  |some (.struct fs)=>Wd P (Jr P d) (P.cellsOf t) 0 fs.toList
  |some (.array n e)=>arT P (Jr P d) t n e
  |_=>none
def IC(P:Program):Nat→TypeId→Option (List Pc)
 |0,_=>none
 |d+1,t=>match P.underlying t with
  |some (.int k)=>some [.k (.i k)]
  |some .bool=>some [.k .b]
  |some .string=>some [.k .s]
  |some (.slice e)=>match Jr P d e with
   |some ks=>if ks.length=P.cellsOf e∧ks.length≠0 then some [.sl ks]else none
   |none=>none
  |some (.struct fs)=>Wd P (IC P d) (P.cellsOf t) 0 fs.toList
  |some (.array n e)=>arT P (IC P d) t n e
  |_=>none
section
variable {H : Type} {enc : TypeId × Value → H} {P : Program} {w : World} {base : Nat} {spare : Nat → Bool} {held : Bool}
theorem OP{α:Type}{φ:α→Value→Prop}{go:TypeId→Option (List α)}{total n:Nat}{cs:List Value}(We:∀t ks cs x,go t=some ks→DataW.trod enc P w base spare held n t cs=some x→pK φ ks cs)(zF:cs.length=total):
  ∀ (fs:List Field) (off:Nat) (ks:List α),Wd P go total off fs=some ks→(∀f∈fs,∃y,DataW.trod enc P w base spare held n f.type ((cs.drop f.offset).take (P.cellsOf f.type))=some y)→pK φ ks (cs.drop off):=by
 intro fs
 induction fs with
 |nil=>
  intro off ks h _
  unfold Wd at h
  split at h
  ·rename_i e
   injection h with h
   subst h
   show cs.drop off=[]
   rw[e,←zF];simp
  ·cases h
 |cons f fs ih=>
  intro off ks h hf
  unfold Wd at h
  split at h
  ·rename_i ks1 hk
   split at h
   ·rename_i hc
    cases hr:Wd P go total (off+P.cellsOf f.type) fs with
    |none=>rw[hr]at h;cases h
    |some ks2=>
     rw[hr]at h
     simp only[Option.map_some,ame]at h
     subst h
     obtain⟨y,hy⟩:=hf f amZ
     have h1:=We _ _ _ _ hk hy
     have h2:=ih _ _ hr fun g hg=>hf g (amK _ hg)
     rw[hc.1]at h1
     have h3:=EI h1 h2
     rw[show cs.drop (off+P.cellsOf f.type)=(cs.drop off).drop (P.cellsOf f.type) by rw[aoh],anK]at h3
     exact h3
   ·cases h
  ·cases h
theorem OQ{α:Type}{φ:α→Value→Prop}{go:TypeId→Option (List α)}{n m:Nat}{t e:TypeId}{cs:List Value}{ks:List α}(We:∀t ks cs x,go t=some ks→DataW.trod enc P w base spare held m t cs=some x→pK φ ks cs)
  (h:arT P go t n e=some ks)(zF:cs.length=P.cellsOf t)(hx:∀i,i<n→∃y,DataW.trod enc P w base spare held m e ((cs.drop (i*P.cellsOf e)).take (P.cellsOf e))=some y):pK φ ks cs:=by
 unfold arT at h
 split at h
 ·rename_i ks1 hk
  split at h
  ·rename_i hc
   injection h with h
   subst h
   have key:∀j,j≤n→pK φ (List.replicate j ks1).flatten (cs.drop ((n - j)*P.cellsOf e)):=by
    intro j
    induction j with
    |zero=>
     intro _
     show cs.drop _=[]
     rw[Nat.sub_zero,←hc.2,←zF];simp
    |succ j ih=>
     intro hj
     obtain⟨y,hy⟩:=hx (n - (j+1)) (by omega)
     have h1:=We _ _ _ _ hk hy
     have h3:=EI h1 (ih (by omega))
     have e1:(n - j)*P.cellsOf e=(n - (j+1))*P.cellsOf e+P.cellsOf e:=by
      rw[show n - j=(n - (j+1))+1 by omega,am6,aok]
     rw[e1,←aoh,anK]at h3
     rw[amR,am7]
     exact h3
   have:=key n (ami _)
   simpa using this
  ·cases h
 ·cases h
theorem PG:∀ (d:Nat) (cW:Nat) (t:TypeId) (ks:List Kd) (cs:List Value) (x:DataW H×List MemPlace),Jr P d t=some ks→DataW.trod enc P w base spare held cW t cs=some x→pK Ly ks cs:=by
 intro d
 induction d with
 |zero=>intro cW t ks cs x h;cases h
 |succ d ih=>
  intro cW t ks cs x h hx
  unfold Jr at h
  split at h
  ·rename_i k hu
   injection h with h;subst h
   obtain⟨n,rfl,_,hw⟩:=DataW.trod_int hu hx
   exact⟨_,[],rfl,⟨n,rfl,hw⟩,rfl⟩
  ·rename_i hu
   injection h with h;subst h
   obtain⟨b,rfl,_⟩:=DataW.trod_bool hu hx
   exact⟨_,[],rfl,⟨b,rfl⟩,rfl⟩
  ·rename_i hu
   injection h with h;subst h
   obtain⟨s,rfl,_,hw⟩:=DataW.trod_string hu hx
   exact⟨_,[],rfl,⟨s,rfl,hw⟩,rfl⟩
  ·rename_i fs hu
   obtain⟨xs,m,_,_,zF,bm,hf⟩:=DataW.trod_struct hu hx
   have:=OP (enc:=enc) (w:=w) (base:=base) (spare:=spare) (held:=held) (n:=m) (φ:=Ly) (fun t ks cs x h1 h2=>ih m t ks cs x h1 h2) zF fs.toList 0 ks h (fun f Q1=>by
    obtain⟨i,hi⟩:=amy Q1
    have oq:fs[i]? =some f:=by simpa using hi
    have aR:i<fs.size:=(am0.1 oq).1
    exact⟨_,(hf i f oq).trans (al5 (by omega))⟩)
   simpa using this
  ·rename_i n e hu
   obtain⟨xs,m,_,_,zF,bm,hf⟩:=DataW.trod_array hu hx
   exact OQ (enc:=enc) (w:=w) (base:=base) (spare:=spare) (held:=held) (m:=m) (fun t ks cs x h1 h2=>ih m t ks cs x h1 h2) h zF (fun i hi=>⟨_,(hf i hi).trans (al5 (by omega))⟩)
  ·cases h
theorem LA{size:Nat}(hs:0<size):∀ (rows:List (List Value)),(∀r∈rows,r.length=size)→∀ (i j:Nat) (r:List Value),rows[i]? =some r→j<size→rows.flatten[i*size+j]? =r[j]? :=by
 intro rows
 induction rows with
 |nil=>intro _ i j r h;simp at h
 |cons q rows ih=>
  intro hl i j r hi hj
  have hq:=hl q amZ
  rw[am7]
  cases i with
  |zero=>
   simp only[amz,ame]at hi
   subst hi
   rw[amH,al6,amn (by omega)]
  |succ i=>
   have e:(i+1)*size+j - q.length=i*size+j:=by rw[am6,aok,hq];omega
   rw[amw (by rw[am6,aok,hq];omega),e]
   exact ih (fun x hx=>hl x (amK _ hx)) i j r (by simpa using hi) hj
theorem EJ{size:Nat}:∀ (rows:List (List Value)),(∀r∈rows,r.length=size)→rows.flatten.length=rows.length*size:=by
 intro rows
 induction rows with
 |nil=>simp
 |cons q rows ih=>
  intro hl
  rw[am7,amh,ih fun x hx=>hl x (amK _ hx),hl q amZ,ams,am6,aok,Nat.add_comm]
theorem Nj{a:Addr}{v:Value}(h:w.cell? a=some v):a.spot=none∧∃l,Hp.rd w.heap a.block=some l∧l[a.off]? =some v:=by
 unfold World.cell? at h
 unfold Hp.rd
 split at h
 ·rename_i c t fr hb
  split at h
  ·cases h
  ·rename_i hs
   refine⟨by simpa using hs,c.toList,by rw[hb],by simpa using h⟩
 ·cases h
theorem PH{d cW:Nat}{t e:TypeId}{ks:List Kd}{cs:List Value}{x:DataW H×List MemPlace}(hu:P.underlying t=some (.slice e))(hk:Jr P d e=some ks)(hl:ks.length=P.cellsOf e)(h0:ks.length≠0)
  (hx:DataW.trod enc P w base spare held cW t cs=some x):∃v,cs=[v]∧RL w.heap (.sl ks) v:=by
 rcases DataW.trod_slice hu hx with ⟨rfl,_⟩| ⟨a,len,cap,agD,rest,n,_,rfl,_,hb,zU,hm,bm,hel,_,_⟩
 ·exact⟨_,rfl,[],⟨by simp,.inl ⟨rfl,none,0,rfl⟩⟩,(by intro r hr;cases hr),by simp,none,0,rfl,by simp⟩
 ·refine⟨_,rfl,?_⟩
  have each:∀i,i<len→∃r,pK Ly ks r∧r.length=ks.length∧∀j,j<ks.length→w.cell? ((a.add (i*ks.length)).add j)=r[j]? :=by
   intro i hi
   have h1:=hel i hi
   rw[al5 (by omega)]at h1
   obtain⟨r,hr,hy⟩:=Option.bind_eq_some_iff.1 h1
   have hf:=PG d n e ks r _ hk hy
   obtain⟨_,h2,h3⟩:=World.cells?_some hr
   refine⟨r,hf,Lz hf,fun j hj=>?_⟩
   rw[hl]
   exact h3 j (by omega)
  have Wf:∀m,m≤len→∃rows:List (List Value),rows.length=m∧∀i r,rows[i]? =some r→pK Ly ks r∧r.length=ks.length∧∀j,j<ks.length→w.cell? ((a.add (i*ks.length)).add j)=r[j]? :=by
   intro m
   induction m with
   |zero=>intro _;exact⟨[],rfl,fun i r h=>by simp at h⟩
   |succ m ih=>
    intro hm'
    obtain⟨rows,h1,h2⟩:=ih (by omega)
    obtain⟨r,hr⟩:=each m (by omega)
    refine⟨rows++[r],by simp[h1],fun i q hq=>?_⟩
    by_cases hi:i<m
    ·rw[amn (by omega)]at hq
     exact h2 i q hq
    ·rw[amw (by omega)]at hq
     have:i - rows.length=0:=by
      rcases anu (i - rows.length)with h|h
      ·exact h
      ·rw[amk (by simp;omega)]at hq;cases hq
     rw[this]at hq
     simp only[amz,ame]at hq
     subst hq
     rw[show i=m by omega]
     exact hr
  obtain⟨rows,Wg,Js⟩:=Wf len (ami _)
  have RM:∀r∈rows,r.length=ks.length:=fun r hr=>by
   obtain⟨i,hi⟩:=amy hr
   exact(Js i r hi).2.1
  refine⟨rows,?_,fun r hr=>?_,by omega,a,cap,by rw[Wg],by omega⟩
  ·refine⟨EJ rows RM,?_⟩
   rw[Wg]
   by_cases hz:len=0
   ·subst hz
    exact .inl ⟨rfl,_,_,rfl⟩
   ·right
    have gD:0<ks.length:=Nat.pos_of_ne_zero h0
    obtain⟨r0,hr0⟩:∃r,rows[0]? =some r:=⟨_,al5 (by omega)⟩
    obtain⟨_,Yy,rl⟩:=Js 0 r0 hr0
    have hc:=rl 0 gD
    rw[al5 (by omega)]at hc
    obtain⟨hs,l,mu,_⟩:=Nj hc
    have ZY:a.spot=none:=by
     simp only[amH]at hs
     simpa[Addr.add]using hs
    have RN:∀i j,((a.add i).add j)=⟨a.block,a.off+i+j,none⟩:=fun i j=>by rw[Gz ZY,AY]
    rw[RN]at mu
    have get:∀k,k<len*ks.length→l[a.off+k]? =rows.flatten[k]? :=by
     intro k PI
     obtain⟨r,hr⟩:∃r,rows[k / ks.length]? =some r:=⟨_,al5 (by
      rw[Wg];exact Nat.div_lt_of_lt_mul (by rw[anI];exact PI))⟩
     obtain⟨_,vw,De⟩:=Js _ r hr
     have TY:=Nat.mod_lt k gD
     have Jt:=De (k%ks.length) TY
     rw[al5 (by omega)]at Jt
     rw[RN]at Jt
     have Yv:=qw (w:=w) (a:=⟨a.block,a.off+k / ks.length*ks.length+k%ks.length,none⟩) rfl mu
     have hf:=LA gD rows RM _ _ r hr TY
     have ek:k / ks.length*ks.length+k%ks.length=k:=by rw[anI];exact Nat.div_add_mod k ks.length
     rw[ek]at hf
     have aee:=Yv.symm.trans Jt
     rw[hf]
     refine Eq.trans ?_ (aee.trans (al5 (by omega)).symm)
     exact amt (fun z=>l[z]?) (by show a.off+k=a.off+k / ks.length*ks.length+k%ks.length;omega)
    have hfl:=EJ rows RM
    have nN:=get (len*ks.length - 1) (by
     have:0<len*ks.length:=Nat.mul_pos (Nat.pos_of_ne_zero hz) gD
     omega)
    have agE:0<len*ks.length:=Nat.mul_pos (Nat.pos_of_ne_zero hz) gD
    have pJ:a.off+(len*ks.length - 1)<l.length:=by
     rcases anh (a.off+(len*ks.length - 1)) l.length with h'|h'
     ·exact h'
     ·rw[amk h',al5 (by rw[hfl,Wg];omega)]at nN;cases nN
    refine⟨a.block,a.off,cap,l,?_,mu,by omega,?_⟩
    ·cases a;simp_all
    ·apply amN
     intro k
     rw[amE]
     split
     ·rename_i PI
      rw[amF]
      exact get k PI
     ·rw[amk (by rw[hfl,Wg];omega)]
  ·obtain⟨i,hi⟩:=amy hr
   exact(Js i r hi).1
theorem LC:∀ (d:Nat) (cW:Nat) (t:TypeId) (ps:List Pc) (cs:List Value) (x:DataW H×List MemPlace),IC P d t=some ps→DataW.trod enc P w base spare held cW t cs=some x→pK (RL w.heap) ps cs:=by
 intro d
 induction d with
 |zero=>intro cW t ks cs x h;cases h
 |succ d ih=>
  intro cW t ks cs x h hx
  unfold IC at h
  split at h
  ·rename_i k hu
   injection h with h;subst h
   obtain⟨n,rfl,_,hw⟩:=DataW.trod_int hu hx
   exact⟨_,[],rfl,⟨n,rfl,hw⟩,rfl⟩
  ·rename_i hu
   injection h with h;subst h
   obtain⟨b,rfl,_⟩:=DataW.trod_bool hu hx
   exact⟨_,[],rfl,⟨b,rfl⟩,rfl⟩
  ·rename_i hu
   injection h with h;subst h
   obtain⟨s,rfl,_,hw⟩:=DataW.trod_string hu hx
   exact⟨_,[],rfl,⟨s,rfl,hw⟩,rfl⟩
  ·rename_i e hu
   split at h
   ·rename_i ks1 hk
    split at h
    ·rename_i hc
     injection h with h;subst h
     obtain⟨v,rfl,hv⟩:=PH hu hk hc.1 hc.2 hx
     exact⟨v,[],rfl,hv,rfl⟩
    ·cases h
   ·cases h
  ·rename_i fs hu
   obtain⟨xs,m,_,_,zF,bm,hf⟩:=DataW.trod_struct hu hx
   have:=OP (enc:=enc) (w:=w) (base:=base) (spare:=spare) (held:=held) (n:=m) (φ:=RL w.heap) (fun t ks cs x h1 h2=>ih m t ks cs x h1 h2) zF fs.toList 0 ks h (fun f Q1=>by
    obtain⟨i,hi⟩:=amy Q1
    have oq:fs[i]? =some f:=by simpa using hi
    have aR:i<fs.size:=(am0.1 oq).1
    exact⟨_,(hf i f oq).trans (al5 (by omega))⟩)
   simpa using this
  ·rename_i n e hu
   obtain⟨xs,m,_,_,zF,bm,hf⟩:=DataW.trod_array hu hx
   exact OQ (enc:=enc) (w:=w) (base:=base) (spare:=spare) (held:=held) (m:=m) (fun t ks cs x h1 h2=>ih m t ks cs x h1 h2) h zF (fun i hi=>⟨_,(hf i hi).trans (al5 (by omega))⟩)
  ·cases h
def Wh(P:Program)(t:TypeId):Option (Bool×List Pc):=
 match P.underlying t with
 |some (.struct _)|some (.array _ _)=>(IC P 8 t).map (true,·)
 |some (.int _)|some .bool|some .string|some (.slice _)=>(IC P 8 t).map (false,·)
 |_=>none
def Fq(Hh:Hp):Bool×List Pc→Value→Prop
 | (true,ps),v=>∃cs:List Value,v= .agg cs.toArray∧pK (RL Hh) ps cs
 | (false,ps),v=>pK (RL Hh) ps [v]
def Ju(P:Program):List TypeId→Option (List (Bool×List Pc))
 | []=>some []
 |t::ts=>match Wh P t with
  |some a=>(Ju P ts).map (a:: ·)
  |none=>none
theorem RO{r:Reach}{b0:Nat}{t:TypeId}{v:Value}{d:DataW H}{ps:List MemPlace}{a:Bool×List Pc}(ha:Wh P t=some a)(uX:Value.okWide P w r b0 t v)(h:DataW.Trod enc P w base spare held t v d ps):Fq w.heap a v:=by
 obtain⟨cW,hf⟩:=h
 unfold Wh at ha
 cases hu:P.underlying t with
 |none=>rw[hu]at ha;cases ha
 |some ty=>
  rw[hu]at ha
  have agg:(∃cs,v= .agg cs∧cs.size=P.cellsOf t∧Row.okWide P w r b0 t cs)→(IC P 8 t).map (true,·)=some a→Fq w.heap a v:=by
   rintro⟨cs,rfl,_⟩ ha
   cases hp:IC P 8 t with
   |none=>rw[hp]at ha;cases ha
   |some ps=>
    rw[hp]at ha
    simp only[Option.map_some,ame]at ha
    subst ha
    exact⟨cs.toList,rfl,LC 8 cW t ps _ _ hp hf⟩
  have one:v.cells.toList=[v]→(IC P 8 t).map (false,·)=some a→Fq w.heap a v:=by
   intro hv ha
   cases hp:IC P 8 t with
   |none=>rw[hp]at ha;cases ha
   |some ps=>
    rw[hp]at ha
    simp only[Option.map_some,ame]at ha
    subst ha
    rw[hv]at hf
    exact LC 8 cW t ps _ _ hp hf
  cases ty with
  |struct fs=>unfold Value.okWide at uX;rw[hu]at uX;exact agg uX ha
  |array n e=>unfold Value.okWide at uX;rw[hu]at uX;exact agg uX ha
  |int k=>obtain⟨n,rfl⟩:=okWide_int hu uX;exact one rfl ha
  |bool=>obtain⟨n,rfl⟩:=okWide_bool hu uX;exact one rfl ha
  |string=>obtain⟨n,rfl⟩:=okWide_string hu uX;exact one rfl ha
  |slice e=>obtain⟨x,y,z,rfl⟩:=okWide_slice hu uX;exact one rfl ha
  |_=>cases ha
theorem PJ{r:Reach}{b0:Nat}:∀ {ts:List TypeId} {vs:List Value} {ds:List (DataW H)} {ps:List MemPlace} {TZ:List (Bool×List Pc)},Ju P ts=some TZ→
  (∀ (j:Nat) t v,ts[j]? =some t→vs[j]? =some v→Value.okWide P w r b0 t v)→DataW.TrodAll enc P w base spare held ts vs ds ps→pK (Fq w.heap) TZ vs:=by
 intro ts
 induction ts with
 |nil=>
  intro vs ds ps TZ ha _ h
  obtain⟨rfl,rfl,rfl⟩:=trodAll_nil h
  simp only[Ju,ame]at ha
  subst ha
  rfl
 |cons t ts ih=>
  intro vs ds ps TZ ha uX h
  obtain⟨v,vs',d,ds',p,q,rfl,rfl,rfl,h1,h2⟩:=trodAll_cons h
  unfold Ju at ha
  split at ha
  ·rename_i a Vf
   cases hr:Ju P ts with
   |none=>rw[hr]at ha;cases ha
   |some aij=>
    rw[hr]at ha
    simp only[Option.map_some,ame]at ha
    subst ha
    exact⟨v,vs',rfl,RO Vf (uX 0 t v rfl rfl) h1,ih hr (fun j t' v' hj hv=>uX (j+1) t' v' (by simpa using hj) (by simpa using hv)) h2⟩
  ·cases ha
theorem LD:∀ {ts:List TypeId} {vs:List Value} {ds:List (DataW H)} {ps:List MemPlace},DataW.TrodAll enc P w base spare held ts vs ds ps→ds.length=ts.length:=by
 intro ts
 induction ts with
 |nil=>intro vs ds ps h;obtain⟨rfl,rfl,rfl⟩:=trodAll_nil h;rfl
 |cons t ts ih=>intro vs ds ps h;obtain⟨v,vs',d,ds',p,q,rfl,rfl,rfl,h1,h2⟩:=trodAll_cons h;simp[ih h2]
theorem ID(hl:laidOutB P=true):∀ {ts:List TypeId} {vs:List Value} {ds:List (DataW H)} {ps:List MemPlace} {W W':World} {sp':Nat→Bool},(∀t∈ts,P.readableRec t=true∧t<P.types.size)→
  DataW.TrodAll enc P W base (fun _=>true) true ts vs ds ps→(∀p∈ps,W.sameAt W' p)→(∀p∈ps,sp' p.block=true)→DataW.TrodAll enc P W' base sp' true ts vs ds ps:=by
 intro ts
 induction ts with
 |nil=>intro vs ds ps W W' sp' _ h _ _;obtain⟨rfl,rfl,rfl⟩:=trodAll_nil h;rfl
 |cons t ts ih=>
  intro vs ds ps W W' sp' ht h h1 h2
  obtain⟨v,vs',d,ds',p,q,rfl,rfl,rfl,g1,g2⟩:=trodAll_cons h
  exact trodAll_cons_mk (WideElems.Trod_stays hl (ht t amZ).1 (ht t amZ).2 g1 (fun x hx=>h1 x (amI _ hx)) (fun x hx=>h2 x (amI _ hx)))
   (ih (fun t' T0=>ht t' (amK _ T0)) g2 (fun x hx=>h1 x (am4 _ hx)) (fun x hx=>h2 x (am4 _ hx)))
theorem IE{W W':World}(hf:ax W.heap W'.heap){p:MemPlace}(hp:p.block<W.heap.size):W.sameAt W' p:=by
 cases p with
 |cell b o=>exact World.cell?_of_block (w:=W) (hf.aN b hp (fun h=>h))
 |map b=>exact hf.aN b hp (fun h=>h)
end
theorem J9{C:Checked}{f:FuncId}{fn:Func}{s:ChangeSpec}{shs:List (Bool×List Pc)}{tb:TypeId}{H:Type}{enc:TypeId×Value→H}(hT:Ju C.prog fn.params.toList=some shs)(Lh:s.vars=[])
  (ZZ:∀ds:List (DataW H),ds.length=fn.params.size→s.fn H ds={results:=[.lit (.bool true)],args:=ds})(Gh:fn.resultTypes= #[tb])(Vg:C.prog.underlying tb=some .bool)(laid:laidOutB C.prog=true)
  (Z0:(fn.params.toList.all fun t=>C.prog.readableRec t && decide (t<C.prog.types.size))=true)
  (walk:∀ (args:List Value) (Hh:Hp),pK (Fq Hh) shs args→ah C.prog f args Hh fun v H'=>ay (v= .bool true∧ax Hh H'))
  {W:World}{base:Nat}{args:Array Value}{ds gs:List (DataW H)}{before:List MemPlace}(RP:∀ (j:Nat) t v,fn.params[j]? =some t→args[j]? =some v→Value.okWide C.prog W .any base t v)
  (hW:DataW.Whole enc C.prog fn.params.toList s.vars false W args.toList ds gs before):
  Calls C.prog f args W fun e W'=>∃v,e= .returned v∧s.post enc C.prog fn false true false false W args v W':=by
 have hW':=hW
 obtain⟨p,q,hA,hV,rfl,hfz,kU⟩:=hW
 have hV':=hV
 rw[Lh]at hV'
 obtain⟨rfl,rfl⟩:=trodVars_none hV'
 have aeg:=PJ (b0:=base) (r:=.any) hT (fun j t v hj hv=>RP j t v (by simpa using hj) (by simpa using hv)) hA
 have bm:=LD hA
 have aR:=hW'.lt
 have hc:=ah.law (walk args.toList W.heap aeg)
 rw[anB]at hc
 refine hc.mono fun e W' ⟨he,hs,RQ⟩=>?_
 subst he
 have T3:s.fn H (ds++[])={results:=[.lit (.bool true)],args:=ds}:=by rw[amW];exact ZZ ds (by simpa using bm)
 have Wi:∀t∈fn.params.toList,C.prog.readableRec t=true∧t<C.prog.types.size:=fun t ht=>by
  have:=(anl.1 Z0) t ht
  simpa using this
 refine⟨_,rfl,Ib (pa:=p) (pv:=[]) hW' (fun b sp hd=>?_) (fun sp Z1=>?_) (fun sp Z1=>by rw[Lh,T3];rfl) rfl hs RQ ?_⟩
 ·rw[T3,Gh]
  exact trodAll_cons_mk (shut_bool Vg _) trodAll_mk0
 ·rw[T3]
  exact ID laid Wi hA (fun x hx=>IE RQ (aR x (amI _ hx))) (fun x hx=>Z1 x (amI _ hx))
 ·exact ok_one Gh rfl (okWide_bool_mk Vg _)
theorem RR{H:Hp}{v:Value}{ks:List Kd}(h:Fq H (false,[.sl ks]) v):∃rows:List (List Value),ep H ks.length v rows.length rows.flatten∧(∀r∈rows,pK Ly ks r)∧rows.length≤maxLen∧∃a c,v= .slice a rows.length c∧rows.length≤c:=by
 obtain⟨_,_,e,h,rfl⟩:=h
 injection e with e _
 subst e
 exact h
theorem PK{k:IntKind}:∀ {rows:List (List Value)},(∀r∈rows,pK Ly [.i k] r)→∃xs:List Int,rows.flatten=xs.map (Value.int k)∧xs.length=rows.length∧∀x∈xs,(Lit.int k x).wf=true:=by
 intro rows
 induction rows with
 |nil=>intro _;exact⟨[],rfl,rfl,fun x hx=>by cases hx⟩
 |cons r rows ih=>
  intro h
  obtain⟨xs,e1,e2,e3⟩:=ih fun q hq=>h q (amK _ hq)
  obtain⟨_,_,rfl,⟨n,rfl,hw⟩,rfl⟩:=h r amZ
  refine⟨n::xs,by simp[e1],by simp[e2],fun x hx=>?_⟩
  rcases amf.1 hx with rfl|hx
  ·exact hw
  ·exact e3 x hx
end Go.Vc
