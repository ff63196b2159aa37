/- Texts put behind each other. -/
import Derived.Test.YthpjfeolagohkaaGreatK98
import Derived.Test.YthpjfeolagohkaaGreatK13
import Derived.WideKeyArgs
import Derived.OpenShut
import Derived.ChangeArms
import Derived.ChangeOld
import Derived.Handed
import Derived.RowKit
import Derived.DataReads
set_option maxRecDepth 100000
set_option maxHeartbeats 8000000
set_option linter.unusedVariables false
namespace Go.Vc
open Go.ChangeShapes Go.WideShapes Go.RowKit
theorem am.then{S:Nat→Prop}{A B C:Hp}(h:am A B)(k:ag S B C)(hs:∀z,S z→A.size≤z):am A C:=
 h.k9 k fun z hz OG=>absurd (hs z OG) (by omega)
theorem ag.then{S:Nat→Prop}{A B C:Hp}(h:ag (fun _=>False) A B)(k:ag S B C)(hs:∀z,S z→A.size≤z):am A C:=am.then h k hs
inductive Kd where
 |i(k:IntKind)|b|s
 deriving Inhabited
def LI:Kd→Value→Prop
 | .i k,v=>∃n,v= .int k n∧(Lit.int k n).wf=true
 | .b,v=>∃b,v= .bool b
 | .s,v=>∃s:ByteArray,v= .string s∧s.size≤maxLen
def lZ{α:Type}(φ:α→Value→Prop):List α→List Value→Prop
 | [],cs=>cs=[]
 |k::ks,cs=>∃v r,cs=v::r∧φ k v∧lZ φ ks r
theorem LJ{α:Type}{φ:α→Value→Prop}:∀ {ks:List α} {cs:List Value},lZ φ ks cs→cs.length=ks.length:=by
 intro ks
 induction ks with
 |nil=>intro cs h;simp[lZ]at h;simp[h]
 |cons k ks ih=>intro cs h;obtain⟨v,r,rfl,_,h⟩:=h;simp[ih h]
theorem DC{α:Type}{φ:α→Value→Prop}:∀ {ks ks':List α} {cs cs':List Value},lZ φ ks cs→lZ φ ks' cs'→lZ φ (ks++ks') (cs++cs'):=by
 intro ks
 induction ks with
 |nil=>intro ks' cs cs' h h';simp[lZ]at h;subst h;simpa using h'
 |cons k ks ih=>intro ks' cs cs' h h';obtain⟨v,r,rfl,h1,h⟩:=h;exact⟨v,r++cs',rfl,h1,ih h h'⟩
inductive Pc where
 |k(x:Kd)
 |sl(ks:List Kd)
 deriving Inhabited
def Sk(H:Hp):Pc→Value→Prop
 | .k x,v=>LI x v
 | .sl ks,v=>∃rows:List (List Value),cK H ks.length v rows.length rows.flatten∧(∀r∈rows,lZ LI ks r)∧rows.length≤maxLen∧∃a c,v= .slice a rows.length c∧rows.length≤c
def XI{α:Type}(P:Program)(go:TypeId→Option (List α))(total:Nat):Nat→List Field→Option (List α)
 |off,[]=>if off=total then some []else none
 |off,f::fs=>match go f.type with
  |some ks=>if f.offset=off∧ks.length=P.cellsOf f.type then(XI P go total (off+P.cellsOf f.type) fs).map (ks++ ·)else none
  |none=>none
def arT{α:Type}(P:Program)(go:TypeId→Option (List α))(t:TypeId)(n:Nat)(e:TypeId):Option (List α):=
 match go e with
 |some ks=>if ks.length=P.cellsOf e∧P.cellsOf t=n*P.cellsOf e then some (List.replicate n ks).flatten else none
 |none=>none
def IM(P:Program):Nat→TypeId→Option (List Kd)
 |0,_=>none
 |d+1,t=>match P.underlying t with
  |some (.int k)=>some [.i k]
  |some .bool=>some [.b]
  |some .string=>some [.s]
  |some (.struct fs)=>XI P (IM P d) (P.cellsOf t) 0 fs.toList
  |some (.array n e)=>arT P (IM P d) t n e
  |_=>none
def HJ(P:Program):Nat→TypeId→Option (List Pc)
 |0,_=>none
 |d+1,t=>match P.underlying t with
  |some (.int k)=>some [.k (.i k)]
  |some .bool=>some [.k .b]
  |some .string=>some [.k .s]
  |some (.slice e)=>match IM P d e with
   |some ks=>if ks.length=P.cellsOf e∧ks.length≠0 then some [.sl ks]else none
   |none=>none
  |some (.struct fs)=>XI P (HJ P d) (P.cellsOf t) 0 fs.toList
  |some (.array n e)=>arT P (HJ P d) t n e
  |_=>none
section
variable {H : Type} {enc : TypeId × Value → H} {P : Program} {w : World} {base : Nat} {spare : Nat → Bool} {held : Bool}
theorem OR{α:Type}{φ:α→Value→Prop}{go:TypeId→Option (List α)}{total n:Nat}{cs:List Value}(XJ:∀t ks cs x,go t=some ks→DataW.trod enc P w base spare held n t cs=some x→lZ φ ks cs)(xp:cs.length=total):
  ∀ (fs:List Field) (off:Nat) (ks:List α),XI P go total off fs=some ks→(∀f∈fs,∃y,DataW.trod enc P w base spare held n f.type ((cs.drop f.offset).take (P.cellsOf f.type))=some y)→lZ φ ks (cs.drop off):=by
 intro fs
 induction fs with
 |nil=>
  intro off ks h _
  unfold XI at h
  split at h
  ·rename_i e
   injection h with h
   subst h
   show cs.drop off=[]
   rw[e,←xp];simp
  ·cases h
 |cons f fs ih=>
  intro off ks h hf
  unfold XI at h
  split at h
  ·rename_i ks1 hk
   split at h
   ·rename_i hc
    cases hr:XI P go total (off+P.cellsOf f.type) fs with
    |none=>rw[hr]at h;cases h
    |some ks2=>
     rw[hr]at h
     simp only[Option.map_some,aoz]at h
     subst h
     obtain⟨y,hy⟩:=hf f apC
     have h1:=XJ _ _ _ _ hk hy
     have h2:=ih _ _ hr fun g hg=>hf g (apd _ hg)
     rw[hc.1]at h1
     have h3:=DC h1 h2
     rw[show cs.drop (off+P.cellsOf f.type)=(cs.drop off).drop (P.cellsOf f.type) by rw[aqs],apt]at h3
     exact h3
   ·cases h
  ·cases h
theorem OS{α:Type}{φ:α→Value→Prop}{go:TypeId→Option (List α)}{n m:Nat}{t e:TypeId}{cs:List Value}{ks:List α}(XJ:∀t ks cs x,go t=some ks→DataW.trod enc P w base spare held m t cs=some x→lZ φ ks cs)
  (h:arT P go t n e=some ks)(xp:cs.length=P.cellsOf t)(hx:∀i,i<n→∃y,DataW.trod enc P w base spare held m e ((cs.drop (i*P.cellsOf e)).take (P.cellsOf e))=some y):lZ φ ks cs:=by
 unfold arT at h
 split at h
 ·rename_i ks1 hk
  split at h
  ·rename_i hc
   injection h with h
   subst h
   have key:∀j,j≤n→lZ φ (List.replicate j ks1).flatten (cs.drop ((n - j)*P.cellsOf e)):=by
    intro j
    induction j with
    |zero=>
     intro _
     show cs.drop _=[]
     rw[Nat.sub_zero,←hc.2,←xp];simp
    |succ j ih=>
     intro hj
     obtain⟨y,hy⟩:=hx (n - (j+1)) (by omega)
     have h1:=XJ _ _ _ _ hk hy
     have h3:=DC h1 (ih (by omega))
     have e1:(n - j)*P.cellsOf e=(n - (j+1))*P.cellsOf e+P.cellsOf e:=by
      rw[show n - j=(n - (j+1))+1 by omega,apy,aqp]
     rw[e1,←aqs,apt]at h3
     rw[aoZ,apr]
     exact h3
   have:=key n (aoB _)
   simpa using this
  ·cases h
 ·cases h
theorem Qd:∀ (d:Nat) (cS:Nat) (t:TypeId) (ks:List Kd) (cs:List Value) (x:DataW H×List MemPlace),IM P d t=some ks→DataW.trod enc P w base spare held cS t cs=some x→lZ LI ks cs:=by
 intro d
 induction d with
 |zero=>intro cS t ks cs x h;cases h
 |succ d ih=>
  intro cS t ks cs x h hx
  unfold IM at h
  split at h
  ·rename_i k hu
   injection h with h;subst h
   obtain⟨n,rfl,_,hw⟩:=DataW.trod_int hu hx
   exact⟨_,[],rfl,⟨n,rfl,hw⟩,rfl⟩
  ·rename_i hu
   injection h with h;subst h
   obtain⟨b,rfl,_⟩:=DataW.trod_bool hu hx
   exact⟨_,[],rfl,⟨b,rfl⟩,rfl⟩
  ·rename_i hu
   injection h with h;subst h
   obtain⟨s,rfl,_,hw⟩:=DataW.trod_string hu hx
   exact⟨_,[],rfl,⟨s,rfl,hw⟩,rfl⟩
  ·rename_i fs hu
   obtain⟨xs,m,_,_,xp,aR,hf⟩:=DataW.trod_struct hu hx
   have:=OR (enc:=enc) (w:=w) (base:=base) (spare:=spare) (held:=held) (n:=m) (φ:=LI) (fun t ks cs x h1 h2=>ih m t ks cs x h1 h2) xp fs.toList 0 ks h (fun f MF=>by
    obtain⟨i,hi⟩:=aoN MF
    have jB:fs[i]? =some f:=by simpa using hi
    have aK:i<fs.size:=(aps.1 jB).1
    exact⟨_,(hf i f jB).trans (aop (by omega))⟩)
   simpa using this
  ·rename_i n e hu
   obtain⟨xs,m,_,_,xp,aR,hf⟩:=DataW.trod_array hu hx
   exact OS (enc:=enc) (w:=w) (base:=base) (spare:=spare) (held:=held) (m:=m) (fun t ks cs x h1 h2=>ih m t ks cs x h1 h2) h xp (fun i hi=>⟨_,(hf i hi).trans (aop (by omega))⟩)
  ·cases h
theorem LK{size:Nat}(hs:0<size):∀ (rows:List (List Value)),(∀r∈rows,r.length=size)→∀ (i j:Nat) (r:List Value),rows[i]? =some r→j<size→rows.flatten[i*size+j]? =r[j]? :=by
 intro rows
 induction rows with
 |nil=>intro _ i j r h;simp at h
 |cons q rows ih=>
  intro hl i j r hi hj
  have hq:=hl q apC
  rw[apr]
  cases i with
  |zero=>
   simp only[ao2,aoz]at hi
   subst hi
   rw[ao6,aor,aoF (by omega)]
  |succ i=>
   have e:(i+1)*size+j - q.length=i*size+j:=by rw[apy,aqp,hq];omega
   rw[aoP (by rw[apy,aqp,hq];omega),e]
   exact ih (fun x hx=>hl x (apd _ hx)) i j r (by simpa using hi) hj
theorem DD{size:Nat}:∀ (rows:List (List Value)),(∀r∈rows,r.length=size)→rows.flatten.length=rows.length*size:=by
 intro rows
 induction rows with
 |nil=>simp
 |cons q rows ih=>
  intro hl
  rw[apr,aoy,ih fun x hx=>hl x (apd _ hx),hl q apC,aoI,apy,aqp,Nat.add_comm]
theorem NF{a:Addr}{v:Value}(h:w.cell? a=some v):a.spot=none∧∃l,Hp.rd w.heap a.block=some l∧l[a.off]? =some v:=by
 unfold World.cell? at h
 unfold Hp.rd
 split at h
 ·rename_i c t fr hb
  split at h
  ·cases h
  ·rename_i hs
   refine⟨by simpa using hs,c.toList,by rw[hb],by simpa using h⟩
 ·cases h
theorem Qe{d cS:Nat}{t e:TypeId}{ks:List Kd}{cs:List Value}{x:DataW H×List MemPlace}(hu:P.underlying t=some (.slice e))(hk:IM P d e=some ks)(hl:ks.length=P.cellsOf e)(h0:ks.length≠0)
  (hx:DataW.trod enc P w base spare held cS t cs=some x):∃v,cs=[v]∧Sk w.heap (.sl ks) v:=by
 rcases DataW.trod_slice hu hx with ⟨rfl,_⟩| ⟨a,len,cap,ah3,rest,n,_,rfl,_,hb,rS,hm,aR,hel,_,_⟩
 ·exact⟨_,rfl,[],⟨by simp,.inl ⟨rfl,none,0,rfl⟩⟩,(by intro r hr;cases hr),by simp,none,0,rfl,by simp⟩
 ·refine⟨_,rfl,?_⟩
  have each:∀i,i<len→∃r,lZ LI ks r∧r.length=ks.length∧∀j,j<ks.length→w.cell? ((a.add (i*ks.length)).add j)=r[j]? :=by
   intro i hi
   have h1:=hel i hi
   rw[aop (by omega)]at h1
   obtain⟨r,hr,hy⟩:=Option.bind_eq_some_iff.1 h1
   have hf:=Qd d n e ks r _ hk hy
   obtain⟨_,h2,h3⟩:=World.cells?_some hr
   refine⟨r,hf,LJ hf,fun j hj=>?_⟩
   rw[hl]
   exact h3 j (by omega)
  have XK:∀m,m≤len→∃rows:List (List Value),rows.length=m∧∀i r,rows[i]? =some r→lZ LI ks r∧r.length=ks.length∧∀j,j<ks.length→w.cell? ((a.add (i*ks.length)).add j)=r[j]? :=by
   intro m
   induction m with
   |zero=>intro _;exact⟨[],rfl,fun i r h=>by simp at h⟩
   |succ m ih=>
    intro hm'
    obtain⟨rows,h1,h2⟩:=ih (by omega)
    obtain⟨r,hr⟩:=each m (by omega)
    refine⟨rows++[r],by simp[h1],fun i q hq=>?_⟩
    by_cases hi:i<m
    ·rw[aoF (by omega)]at hq
     exact h2 i q hq
    ·rw[aoP (by omega)]at hq
     have:i - rows.length=0:=by
      rcases aqb (i - rows.length)with h|h
      ·exact h
      ·rw[aoC (by simp;omega)]at hq;cases hq
     rw[this]at hq
     simp only[ao2,aoz]at hq
     subst hq
     rw[show i=m by omega]
     exact hr
  obtain⟨rows,UG,IN⟩:=XK len (aoB _)
  have Sm:∀r∈rows,r.length=ks.length:=fun r hr=>by
   obtain⟨i,hi⟩:=aoN hr
   exact(IN i r hi).2.1
  refine⟨rows,?_,fun r hr=>?_,by omega,a,cap,by rw[UG],by omega⟩
  ·refine⟨DD rows Sm,?_⟩
   rw[UG]
   by_cases hz:len=0
   ·subst hz
    exact .inl ⟨rfl,_,_,rfl⟩
   ·right
    have fC:0<ks.length:=Nat.pos_of_ne_zero h0
    obtain⟨r0,hr0⟩:∃r,rows[0]? =some r:=⟨_,aop (by omega)⟩
    obtain⟨_,ZA,nE⟩:=IN 0 r0 hr0
    have hc:=nE 0 fC
    rw[aop (by omega)]at hc
    obtain⟨hs,l,fw,_⟩:=NF hc
    have abA:a.spot=none:=by
     simp only[ao6]at hs
     simpa[Addr.add]using hs
    have Sp:∀i j,((a.add i).add j)=⟨a.block,a.off+i+j,none⟩:=fun i j=>by rw[FQ abA,xN]
    rw[Sp]at fw
    have get:∀k,k<len*ks.length→l[a.off+k]? =rows.flatten[k]? :=by
     intro k Qf
     obtain⟨r,hr⟩:∃r,rows[k / ks.length]? =some r:=⟨_,aop (by
      rw[UG];exact Nat.div_lt_of_lt_mul (by rw[aqA];exact Qf))⟩
     obtain⟨_,rQ,AW⟩:=IN _ r hr
     have Qg:=Nat.mod_lt k fC
     have IP:=AW (k%ks.length) Qg
     rw[aop (by omega)]at IP
     rw[Sp]at IP
     have hcr:=fK (w:=w) (a:=⟨a.block,a.off+k / ks.length*ks.length+k%ks.length,none⟩) rfl fw
     have hf:=LK fC rows Sm _ _ r hr Qg
     have ek:k / ks.length*ks.length+k%ks.length=k:=by rw[aqA];exact Nat.div_add_mod k ks.length
     rw[ek]at hf
     have afC:=hcr.symm.trans IP
     rw[hf]
     refine Eq.trans ?_ (afC.trans (aop (by omega)).symm)
     exact aoD (fun z=>l[z]?) (by show a.off+k=a.off+k / ks.length*ks.length+k%ks.length;omega)
    have ZB:=DD rows Sm
    have eT:=get (len*ks.length - 1) (by
     have:0<len*ks.length:=Nat.mul_pos (Nat.pos_of_ne_zero hz) fC
     omega)
    have ah4:0<len*ks.length:=Nat.mul_pos (Nat.pos_of_ne_zero hz) fC
    have jx:a.off+(len*ks.length - 1)<l.length:=by
     rcases apK (a.off+(len*ks.length - 1)) l.length with h'|h'
     ·exact h'
     ·rw[aoC h',aop (by rw[ZB,UG];omega)]at eT;cases eT
    refine⟨a.block,a.off,cap,l,?_,fw,by omega,?_⟩
    ·cases a;simp_all
    ·apply ao7
     intro k
     rw[aoU]
     split
     ·rename_i Qf
      rw[aoX]
      exact get k Qf
     ·rw[aoC (by rw[ZB,UG];omega)]
  ·obtain⟨i,hi⟩:=aoN hr
   exact(IN i r hi).1
theorem LL:∀ (d:Nat) (cS:Nat) (t:TypeId) (ps:List Pc) (cs:List Value) (x:DataW H×List MemPlace),HJ P d t=some ps→DataW.trod enc P w base spare held cS t cs=some x→lZ (Sk w.heap) ps cs:=by
 intro d
 induction d with
 |zero=>intro cS t ks cs x h;cases h
 |succ d ih=>
  intro cS t ks cs x h hx
  unfold HJ at h
  split at h
  ·rename_i k hu
   injection h with h;subst h
   obtain⟨n,rfl,_,hw⟩:=DataW.trod_int hu hx
   exact⟨_,[],rfl,⟨n,rfl,hw⟩,rfl⟩
  ·rename_i hu
   injection h with h;subst h
   obtain⟨b,rfl,_⟩:=DataW.trod_bool hu hx
   exact⟨_,[],rfl,⟨b,rfl⟩,rfl⟩
  ·rename_i hu
   injection h with h;subst h
   obtain⟨s,rfl,_,hw⟩:=DataW.trod_string hu hx
   exact⟨_,[],rfl,⟨s,rfl,hw⟩,rfl⟩
  ·rename_i e hu
   split at h
   ·rename_i ks1 hk
    split at h
    ·rename_i hc
     injection h with h;subst h
     obtain⟨v,rfl,hv⟩:=Qe hu hk hc.1 hc.2 hx
     exact⟨v,[],rfl,hv,rfl⟩
    ·cases h
   ·cases h
  ·rename_i fs hu
   obtain⟨xs,m,_,_,xp,aR,hf⟩:=DataW.trod_struct hu hx
   have:=OR (enc:=enc) (w:=w) (base:=base) (spare:=spare) (held:=held) (n:=m) (φ:=Sk w.heap) (fun t ks cs x h1 h2=>ih m t ks cs x h1 h2) xp fs.toList 0 ks h (fun f MF=>by
    obtain⟨i,hi⟩:=aoN MF
    have jB:fs[i]? =some f:=by simpa using hi
    have aK:i<fs.size:=(aps.1 jB).1
    exact⟨_,(hf i f jB).trans (aop (by omega))⟩)
   simpa using this
  ·rename_i n e hu
   obtain⟨xs,m,_,_,xp,aR,hf⟩:=DataW.trod_array hu hx
   exact OS (enc:=enc) (w:=w) (base:=base) (spare:=spare) (held:=held) (m:=m) (fun t ks cs x h1 h2=>ih m t ks cs x h1 h2) h xp (fun i hi=>⟨_,(hf i hi).trans (aop (by omega))⟩)
  ·cases h
def XL(P:Program)(t:TypeId):Option (Bool×List Pc):=
 match P.underlying t with
 |some (.struct _)|some (.array _ _)=>(HJ P 8 t).map (true,·)
 |some (.int _)|some .bool|some .string|some (.slice _)=>(HJ P 8 t).map (false,·)
 |_=>none
def DR(Hh:Hp):Bool×List Pc→Value→Prop
 | (true,ps),v=>∃cs:List Value,v= .agg cs.toArray∧lZ (Sk Hh) ps cs
 | (false,ps),v=>lZ (Sk Hh) ps [v]
def IQ(P:Program):List TypeId→Option (List (Bool×List Pc))
 | []=>some []
 |t::ts=>match XL P t with
  |some a=>(IQ P ts).map (a:: ·)
  |none=>none
theorem Sq{r:Reach}{b0:Nat}{t:TypeId}{v:Value}{d:DataW H}{ps:List MemPlace}{a:Bool×List Pc}(ha:XL P t=some a)(tR:Value.okWide P w r b0 t v)(h:DataW.Trod enc P w base spare held t v d ps):DR w.heap a v:=by
 obtain⟨cS,hf⟩:=h
 unfold XL at ha
 cases hu:P.underlying t with
 |none=>rw[hu]at ha;cases ha
 |some ty=>
  rw[hu]at ha
  have agg:(∃cs,v= .agg cs∧cs.size=P.cellsOf t∧Row.okWide P w r b0 t cs)→(HJ P 8 t).map (true,·)=some a→DR w.heap a v:=by
   rintro⟨cs,rfl,_⟩ ha
   cases hp:HJ P 8 t with
   |none=>rw[hp]at ha;cases ha
   |some ps=>
    rw[hp]at ha
    simp only[Option.map_some,aoz]at ha
    subst ha
    exact⟨cs.toList,rfl,LL 8 cS t ps _ _ hp hf⟩
  have one:v.cells.toList=[v]→(HJ P 8 t).map (false,·)=some a→DR w.heap a v:=by
   intro hv ha
   cases hp:HJ P 8 t with
   |none=>rw[hp]at ha;cases ha
   |some ps=>
    rw[hp]at ha
    simp only[Option.map_some,aoz]at ha
    subst ha
    rw[hv]at hf
    exact LL 8 cS t ps _ _ hp hf
  cases ty with
  |struct fs=>unfold Value.okWide at tR;rw[hu]at tR;exact agg tR ha
  |array n e=>unfold Value.okWide at tR;rw[hu]at tR;exact agg tR ha
  |int k=>obtain⟨n,rfl⟩:=okWide_int hu tR;exact one rfl ha
  |bool=>obtain⟨n,rfl⟩:=okWide_bool hu tR;exact one rfl ha
  |string=>obtain⟨n,rfl⟩:=okWide_string hu tR;exact one rfl ha
  |slice e=>obtain⟨x,y,z,rfl⟩:=okWide_slice hu tR;exact one rfl ha
  |_=>cases ha
theorem Qh{r:Reach}{b0:Nat}:∀ {ts:List TypeId} {vs:List Value} {ds:List (DataW H)} {ps:List MemPlace} {UH:List (Bool×List Pc)},IQ P ts=some UH→
  (∀ (j:Nat) t v,ts[j]? =some t→vs[j]? =some v→Value.okWide P w r b0 t v)→DataW.TrodAll enc P w base spare held ts vs ds ps→lZ (DR w.heap) UH vs:=by
 intro ts
 induction ts with
 |nil=>
  intro vs ds ps UH ha _ h
  obtain⟨rfl,rfl,rfl⟩:=trodAll_nil h
  simp only[IQ,aoz]at ha
  subst ha
  rfl
 |cons t ts ih=>
  intro vs ds ps UH ha tR h
  obtain⟨v,vs',d,ds',p,q,rfl,rfl,rfl,h1,h2⟩:=trodAll_cons h
  unfold IQ at ha
  split at ha
  ·rename_i a V9
   cases hr:IQ P ts with
   |none=>rw[hr]at ha;cases ha
   |some aj1=>
    rw[hr]at ha
    simp only[Option.map_some,aoz]at ha
    subst ha
    exact⟨v,vs',rfl,Sq V9 (tR 0 t v rfl rfl) h1,ih hr (fun j t' v' hj hv=>tR (j+1) t' v' (by simpa using hj) (by simpa using hv)) h2⟩
  ·cases ha
theorem LM:∀ {ts:List TypeId} {vs:List Value} {ds:List (DataW H)} {ps:List MemPlace},DataW.TrodAll enc P w base spare held ts vs ds ps→ds.length=ts.length:=by
 intro ts
 induction ts with
 |nil=>intro vs ds ps h;obtain⟨rfl,rfl,rfl⟩:=trodAll_nil h;rfl
 |cons t ts ih=>intro vs ds ps h;obtain⟨v,vs',d,ds',p,q,rfl,rfl,rfl,h1,h2⟩:=trodAll_cons h;simp[ih h2]
theorem HK(hl:laidOutB P=true):∀ {ts:List TypeId} {vs:List Value} {ds:List (DataW H)} {ps:List MemPlace} {W W':World} {sp':Nat→Bool},(∀t∈ts,P.readableRec t=true∧t<P.types.size)→
  DataW.TrodAll enc P W base (fun _=>true) true ts vs ds ps→(∀p∈ps,W.sameAt W' p)→(∀p∈ps,sp' p.block=true)→DataW.TrodAll enc P W' base sp' true ts vs ds ps:=by
 intro ts
 induction ts with
 |nil=>intro vs ds ps W W' sp' _ h _ _;obtain⟨rfl,rfl,rfl⟩:=trodAll_nil h;rfl
 |cons t ts ih=>
  intro vs ds ps W W' sp' ht h h1 h2
  obtain⟨v,vs',d,ds',p,q,rfl,rfl,rfl,g1,g2⟩:=trodAll_cons h
  exact trodAll_cons_mk (WideElems.Trod_stays hl (ht t apC).1 (ht t apC).2 g1 (fun x hx=>h1 x (ape _ hx)) (fun x hx=>h2 x (ape _ hx)))
   (ih (fun t' Un=>ht t' (apd _ Un)) g2 (fun x hx=>h1 x (apY _ hx)) (fun x hx=>h2 x (apY _ hx)))
theorem HL{W W':World}(hf:am W.heap W'.heap){p:MemPlace}(hp:p.block<W.heap.size):W.sameAt W' p:=by
 cases p with
 |cell b o=>exact World.cell?_of_block (w:=W) (hf.aG b hp (fun h=>h))
 |map b=>exact hf.aG b hp (fun h=>h)
end
theorem I7{C:Checked}{f:FuncId}{fn:Func}{s:ChangeSpec}{shs:List (Bool×List Pc)}{tb:TypeId}{H:Type}{enc:TypeId×Value→H}(hT:IQ C.prog fn.params.toList=some shs)(Lm:s.vars=[])
  (abB:∀ds:List (DataW H),ds.length=fn.params.size→s.fn H ds={results:=[.lit (.bool true)],args:=ds})(Fw:fn.resultTypes= #[tb])(UI:C.prog.underlying tb=some .bool)(laid:laidOutB C.prog=true)
  (abC:(fn.params.toList.all fun t=>C.prog.readableRec t && decide (t<C.prog.types.size))=true)
  (walk:∀ (args:List Value) (Hh:Hp),lZ (DR Hh) shs args→af C.prog f args Hh fun v H'=>ar (v= .bool true∧am Hh H'))
  {W:World}{base:Nat}{args:Array Value}{ds gs:List (DataW H)}{before:List MemPlace}(Rt:∀ (j:Nat) t v,fn.params[j]? =some t→args[j]? =some v→Value.okWide C.prog W .any base t v)
  (hW:DataW.Whole enc C.prog fn.params.toList s.vars false W args.toList ds gs before):
  Calls C.prog f args W fun e W'=>∃v,e= .returned v∧s.post enc C.prog fn false true false false W args v W':=by
 have hW':=hW
 obtain⟨p,q,hA,hV,rfl,hfz,gU⟩:=hW
 have hV':=hV
 rw[Lm]at hV'
 obtain⟨rfl,rfl⟩:=trodVars_none hV'
 have afE:=Qh (b0:=base) (r:=.any) hT (fun j t v hj hv=>Rt j t v (by simpa using hj) (by simpa using hv)) hA
 have aR:=LM hA
 have aK:=hW'.lt
 have hc:=af.law (walk args.toList W.heap afE)
 rw[ap5]at hc
 refine hc.mono fun e W' ⟨he,hs,Ss⟩=>?_
 subst he
 have UJ:s.fn H (ds++[])={results:=[.lit (.bool true)],args:=ds}:=by rw[ao3];exact abB ds (by simpa using aR)
 have XM:∀t∈fn.params.toList,C.prog.readableRec t=true∧t<C.prog.types.size:=fun t ht=>by
  have:=(apF.1 abC) t ht
  simpa using this
 refine⟨_,rfl,He (pa:=p) (pv:=[]) hW' (fun b sp hd=>?_) (fun sp abD=>?_) (fun sp abD=>by rw[Lm,UJ];rfl) rfl hs Ss ?_⟩
 ·rw[UJ,Fw]
  exact trodAll_cons_mk (shut_bool UI _) trodAll_mk0
 ·rw[UJ]
  exact HK laid XM hA (fun x hx=>HL Ss (aK x (ape _ hx))) (fun x hx=>abD x (ape _ hx))
 ·exact ok_one Fw rfl (okWide_bool_mk UI _)
theorem St{H:Hp}{v:Value}{ks:List Kd}(h:DR H (false,[.sl ks]) v):∃rows:List (List Value),cK H ks.length v rows.length rows.flatten∧(∀r∈rows,lZ LI ks r)∧rows.length≤maxLen∧∃a c,v= .slice a rows.length c∧rows.length≤c:=by
 obtain⟨_,_,e,h,rfl⟩:=h
 injection e with e _
 subst e
 exact h
theorem Qi{k:IntKind}:∀ {rows:List (List Value)},(∀r∈rows,lZ LI [.i k] r)→∃xs:List Int,rows.flatten=xs.map (Value.int k)∧xs.length=rows.length∧∀x∈xs,(Lit.int k x).wf=true:=by
 intro rows
 induction rows with
 |nil=>intro _;exact⟨[],rfl,rfl,fun x hx=>by cases hx⟩
 |cons r rows ih=>
  intro h
  obtain⟨xs,e1,e2,e3⟩:=ih fun q hq=>h q (apd _ hq)
  obtain⟨_,_,rfl,⟨n,rfl,hw⟩,rfl⟩:=h r apC
  refine⟨n::xs,by simp[e1],by simp[e2],fun x hx=>?_⟩
  rcases apa.1 hx with rfl|hx
  ·exact hw
  ·exact e3 x hx
end Go.Vc
