/- Texts put behind each other. -/
import Derived.Test.YtjlnnljohemifaaGreatK98
import Derived.Test.YtjlnnljohemifaaGreatK10
import Derived.WideKeyArgs
import Derived.OpenShut
import Derived.ChangeArms
import Derived.ChangeOld
import Derived.Handed
import Derived.RowKit
import Derived.DataReads
set_option linter.unusedVariables false
namespace Go.Vc
open Go.ChangeShapes Go.WideShapes Go.RowKit
theorem aq.then{S:Nat→Prop}{A B C:Hp}(h:aq A B)(k:ah S B C)(hs:∀z,S z→A.size≤z):aq A C:=
 h.uF k fun z hz Pp=>absurd (hs z Pp) (by omega)
theorem ah.then{S:Nat→Prop}{A B C:Hp}(h:ah (fun _=>False) A B)(k:ah S B C)(hs:∀z,S z→A.size≤z):aq A C:=aq.then h k hs
inductive Kd where
 |i(k:IntKind)|b|s
 deriving Inhabited
def LY:Kd→Value→Prop
 | .i k,v=>∃n,v= .int k n∧(Lit.int k n).wf=true
 | .b,v=>∃b,v= .bool b
 | .s,v=>∃s:ByteArray,v= .string s∧s.size≤maxLen
def pL{α:Type}(φ:α→Value→Prop):List α→List Value→Prop
 | [],cs=>cs=[]
 |k::ks,cs=>∃v r,cs=v::r∧φ k v∧pL φ ks r
theorem LZ{α:Type}{φ:α→Value→Prop}:∀ {ks:List α} {cs:List Value},pL φ ks cs→cs.length=ks.length:=by
 intro ks
 induction ks with
 |nil=>intro cs h;simp[pL]at h;simp[h]
 |cons k ks ih=>intro cs h;obtain⟨v,r,rfl,_,h⟩:=h;simp[ih h]
theorem EX{α:Type}{φ:α→Value→Prop}:∀ {ks ks':List α} {cs cs':List Value},pL φ ks cs→pL φ ks' cs'→pL φ (ks++ks') (cs++cs'):=by
 intro ks
 induction ks with
 |nil=>intro ks' cs cs' h h';simp[pL]at h;subst h;simpa using h'
 |cons k ks ih=>intro ks' cs cs' h h';obtain⟨v,r,rfl,h1,h⟩:=h;exact⟨v,r++cs',rfl,h1,ih h h'⟩
inductive Pc where
 |k(x:Kd)
 |sl(ks:List Kd)
 deriving Inhabited
def Si(H:Hp):Pc→Value→Prop
 | .k x,v=>LY x v
 | .sl ks,v=>∃rows:List (List Value),da H ks.length v rows.length rows.flatten∧(∀r∈rows,pL LY ks r)∧rows.length≤maxLen∧∃a c,v= .slice a rows.length c∧rows.length≤c
def WP{α:Type}(P:Program)(go:TypeId→Option (List α))(total:Nat):Nat→List Field→Option (List α)
 |off,[]=>if off=total then some []else none
 |off,f::fs=>match go f.type with
  |some ks=>if f.offset=off∧ks.length=P.cellsOf f.type then(WP P go total (off+P.cellsOf f.type) fs).map (ks++ ·)else none
  |none=>none
def arT{α:Type}(P:Program)(go:TypeId→Option (List α))(t:TypeId)(n:Nat)(e:TypeId):Option (List α):=
 match go e with
 |some ks=>if ks.length=P.cellsOf e∧P.cellsOf t=n*P.cellsOf e then some (List.replicate n ks).flatten else none
 |none=>none
def cH(P:Program):Nat→TypeId→Option (List Kd)
 |0,_=>none
 |d+1,t=>match P.underlying t with
  |some (.int k)=>some [.i k]
  |some .bool=>some [.b]
  |some .string=>some [.s]
  |some (.struct fs)=>WP P (cH P d) (P.cellsOf t) 0 fs.toList
  |some (.array n e)=>arT P (cH P d) t n e
  |_=>none
def IY(P:Program):Nat→TypeId→Option (List Pc)
 |0,_=>none
 |d+1,t=>match P.underlying t with
  |some (.int k)=>some [.k (.i k)]
  |some .bool=>some [.k .b]
  |some .string=>some [.k .s]
  |some (.slice e)=>match cH P d e with
   |some ks=>if ks.length=P.cellsOf e∧ks.length≠0 then some [.sl ks]else none
   |none=>none
  |some (.struct fs)=>WP P (IY P d) (P.cellsOf t) 0 fs.toList
  |some (.array n e)=>arT P (IY P d) t n e
  |_=>none
section
variable {H : Type} {enc : TypeId × Value → H} {P : Program} {w : World} {base : Nat} {spare : Nat → Bool} {held : Bool}
theorem Pq{α:Type}{φ:α→Value→Prop}{go:TypeId→Option (List α)}{total n:Nat}{cs:List Value}(WQ:∀t ks cs x,go t=some ks→DataW.trod enc P w base spare held n t cs=some x→pL φ ks cs)(zS:cs.length=total):
  ∀ (fs:List Field) (off:Nat) (ks:List α),WP P go total off fs=some ks→(∀f∈fs,∃y,DataW.trod enc P w base spare held n f.type ((cs.drop f.offset).take (P.cellsOf f.type))=some y)→pL φ ks (cs.drop off):=by
 intro fs
 induction fs with
 |nil=>
  intro off ks h _
  unfold WP at h
  split at h
  ·rename_i e
   injection h with h
   subst h
   show cs.drop off=[]
   rw[e,←zS];simp
  ·cases h
 |cons f fs ih=>
  intro off ks h hf
  unfold WP at h
  split at h
  ·rename_i ks1 hk
   split at h
   ·rename_i hc
    cases hr:WP P go total (off+P.cellsOf f.type) fs with
    |none=>rw[hr]at h;cases h
    |some ks2=>
     rw[hr]at h
     simp only[Option.map_some,anK]at h
     subst h
     obtain⟨y,hy⟩:=hf f aoA
     have h1:=WQ _ _ _ _ hk hy
     have h2:=ih _ _ hr fun g hg=>hf g (aom _ hg)
     rw[hc.1]at h1
     have h3:=EX h1 h2
     rw[show cs.drop (off+P.cellsOf f.type)=(cs.drop off).drop (P.cellsOf f.type) by rw[apw],apn]at h3
     exact h3
   ·cases h
  ·cases h
theorem Ps{α:Type}{φ:α→Value→Prop}{go:TypeId→Option (List α)}{n m:Nat}{t e:TypeId}{cs:List Value}{ks:List α}(WQ:∀t ks cs x,go t=some ks→DataW.trod enc P w base spare held m t cs=some x→pL φ ks cs)
  (h:arT P go t n e=some ks)(zS:cs.length=P.cellsOf t)(hx:∀i,i<n→∃y,DataW.trod enc P w base spare held m e ((cs.drop (i*P.cellsOf e)).take (P.cellsOf e))=some y):pL φ ks cs:=by
 unfold arT at h
 split at h
 ·rename_i ks1 hk
  split at h
  ·rename_i hc
   injection h with h
   subst h
   have key:∀j,j≤n→pL φ (List.replicate j ks1).flatten (cs.drop ((n - j)*P.cellsOf e)):=by
    intro j
    induction j with
    |zero=>
     intro _
     show cs.drop _=[]
     rw[Nat.sub_zero,←hc.2,←zS];simp
    |succ j ih=>
     intro hj
     obtain⟨y,hy⟩:=hx (n - (j+1)) (by omega)
     have h1:=WQ _ _ _ _ hk hy
     have h3:=EX h1 (ih (by omega))
     have e1:(n - j)*P.cellsOf e=(n - (j+1))*P.cellsOf e+P.cellsOf e:=by
      rw[show n - j=(n - (j+1))+1 by omega,aoR,Nat.one_mul]
     rw[e1,←apw,apn]at h3
     rw[aor,aoI]
     exact h3
   have:=key n (anO _)
   simpa using this
  ·cases h
 ·cases h
theorem Ql:∀ (d:Nat) (cX:Nat) (t:TypeId) (ks:List Kd) (cs:List Value) (x:DataW H×List MemPlace),cH P d t=some ks→DataW.trod enc P w base spare held cX t cs=some x→pL LY ks cs:=by
 intro d
 induction d with
 |zero=>intro cX t ks cs x h;cases h
 |succ d ih=>
  intro cX t ks cs x h hx
  unfold cH at h
  split at h
  ·rename_i k hu
   injection h with h;subst h
   obtain⟨n,rfl,_,hw⟩:=DataW.trod_int hu hx
   exact⟨_,[],rfl,⟨n,rfl,hw⟩,rfl⟩
  ·rename_i hu
   injection h with h;subst h
   obtain⟨b,rfl,_⟩:=DataW.trod_bool hu hx
   exact⟨_,[],rfl,⟨b,rfl⟩,rfl⟩
  ·rename_i hu
   injection h with h;subst h
   obtain⟨s,rfl,_,hw⟩:=DataW.trod_string hu hx
   exact⟨_,[],rfl,⟨s,rfl,hw⟩,rfl⟩
  ·rename_i fs hu
   obtain⟨xs,m,_,_,zS,bv,hf⟩:=DataW.trod_struct hu hx
   have:=Pq (enc:=enc) (w:=w) (base:=base) (spare:=spare) (held:=held) (n:=m) (φ:=LY) (fun t ks cs x h1 h2=>ih m t ks cs x h1 h2) zS fs.toList 0 ks h (fun f Nk=>by
    obtain⟨i,hi⟩:=an8 Nk
    have oq:fs[i]? =some f:=by simpa using hi
    have aR:i<fs.size:=(aoB.1 oq).1
    exact⟨_,(hf i f oq).trans (anx (by omega))⟩)
   simpa using this
  ·rename_i n e hu
   obtain⟨xs,m,_,_,zS,bv,hf⟩:=DataW.trod_array hu hx
   exact Ps (enc:=enc) (w:=w) (base:=base) (spare:=spare) (held:=held) (m:=m) (fun t ks cs x h1 h2=>ih m t ks cs x h1 h2) h zS (fun i hi=>⟨_,(hf i hi).trans (anx (by omega))⟩)
  ·cases h
theorem L0{size:Nat}(hs:0<size):∀ (rows:List (List Value)),(∀r∈rows,r.length=size)→∀ (i j:Nat) (r:List Value),rows[i]? =some r→j<size→rows.flatten[i*size+j]? =r[j]? :=by
 intro rows
 induction rows with
 |nil=>intro _ i j r h;simp at h
 |cons q rows ih=>
  intro hl i j r hi hj
  have hq:=hl q aoA
  rw[aoI]
  cases i with
  |zero=>
   simp only[an7,anK]at hi
   subst hi
   rw[aol,anB,anS (by omega)]
  |succ i=>
   have e:(i+1)*size+j - q.length=i*size+j:=by rw[aoR,Nat.one_mul,hq];omega
   rw[an5 (by rw[aoR,Nat.one_mul,hq];omega),e]
   exact ih (fun x hx=>hl x (aom _ hx)) i j r (by simpa using hi) hj
theorem EY{size:Nat}:∀ (rows:List (List Value)),(∀r∈rows,r.length=size)→rows.flatten.length=rows.length*size:=by
 intro rows
 induction rows with
 |nil=>simp
 |cons q rows ih=>
  intro hl
  rw[aoI,anL,ih fun x hx=>hl x (aom _ hx),hl q aoA,anY,aoR,Nat.one_mul,Nat.add_comm]
theorem NS{a:Addr}{v:Value}(h:w.cell? a=some v):a.spot=none∧∃l,Hp.rd w.heap a.block=some l∧l[a.off]? =some v:=by
 unfold World.cell? at h
 unfold Hp.rd
 split at h
 ·rename_i c t fr hb
  split at h
  ·cases h
  ·rename_i hs
   refine⟨by simpa using hs,c.toList,by rw[hb],by simpa using h⟩
 ·cases h
theorem Qm{d cX:Nat}{t e:TypeId}{ks:List Kd}{cs:List Value}{x:DataW H×List MemPlace}(hu:P.underlying t=some (.slice e))(hk:cH P d e=some ks)(hl:ks.length=P.cellsOf e)(h0:ks.length≠0)
  (hx:DataW.trod enc P w base spare held cX t cs=some x):∃v,cs=[v]∧Si w.heap (.sl ks) v:=by
 rcases DataW.trod_slice hu hx with ⟨rfl,_⟩| ⟨a,len,cap,ahp,rest,n,_,rfl,_,hb,vf,hm,bv,hel,_,_⟩
 ·exact⟨_,rfl,[],⟨by simp,.inl ⟨rfl,none,0,rfl⟩⟩,(by intro r hr;cases hr),by simp,none,0,rfl,by simp⟩
 ·refine⟨_,rfl,?_⟩
  have each:∀i,i<len→∃r,pL LY ks r∧r.length=ks.length∧∀j,j<ks.length→w.cell? ((a.add (i*ks.length)).add j)=r[j]? :=by
   intro i hi
   have h1:=hel i hi
   rw[anx (by omega)]at h1
   obtain⟨r,hr,hy⟩:=Option.bind_eq_some_iff.1 h1
   have hf:=Ql d n e ks r _ hk hy
   obtain⟨_,h2,h3⟩:=World.cells?_some hr
   refine⟨r,hf,LZ hf,fun j hj=>?_⟩
   rw[hl]
   exact h3 j (by omega)
  have WR:∀m,m≤len→∃rows:List (List Value),rows.length=m∧∀i r,rows[i]? =some r→pL LY ks r∧r.length=ks.length∧∀j,j<ks.length→w.cell? ((a.add (i*ks.length)).add j)=r[j]? :=by
   intro m
   induction m with
   |zero=>intro _;exact⟨[],rfl,fun i r h=>by simp at h⟩
   |succ m ih=>
    intro hm'
    obtain⟨rows,h1,h2⟩:=ih (by omega)
    obtain⟨r,hr⟩:=each m (by omega)
    refine⟨rows++[r],by simp[h1],fun i q hq=>?_⟩
    by_cases hi:i<m
    ·rw[anS (by omega)]at hq
     exact h2 i q hq
    ·rw[an5 (by omega)]at hq
     have:i - rows.length=0:=by
      rcases apl (i - rows.length)with h|h
      ·exact h
      ·rw[anP (by simp;omega)]at hq;cases hq
     rw[this]at hq
     simp only[an7,anK]at hq
     subst hq
     rw[show i=m by omega]
     exact hr
  obtain⟨rows,WS,JK⟩:=WR len (anO _)
  have Sj:∀r∈rows,r.length=ks.length:=fun r hr=>by
   obtain⟨i,hi⟩:=an8 hr
   exact(JK i r hi).2.1
  refine⟨rows,?_,fun r hr=>?_,by omega,a,cap,by rw[WS],by omega⟩
  ·refine⟨EY rows Sj,?_⟩
   rw[WS]
   by_cases hz:len=0
   ·subst hz
    exact .inl ⟨rfl,_,_,rfl⟩
   ·right
    have jj:0<ks.length:=Nat.pos_of_ne_zero h0
    obtain⟨r0,hr0⟩:∃r,rows[0]? =some r:=⟨_,anx (by omega)⟩
    obtain⟨_,Y9,rA⟩:=JK 0 r0 hr0
    have hc:=rA 0 jj
    rw[anx (by omega)]at hc
    obtain⟨hs,l,kG,_⟩:=NS hc
    have aaz:a.spot=none:=by
     simp only[aol]at hs
     simpa[Addr.add]using hs
    have Sk:∀i j,((a.add i).add j)=⟨a.block,a.off+i+j,none⟩:=fun i j=>by rw[GN aaz,Bf]
    rw[Sk]at kG
    have get:∀k,k<len*ks.length→l[a.off+k]? =rows.flatten[k]? :=by
     intro k Qn
     obtain⟨r,hr⟩:∃r,rows[k / ks.length]? =some r:=⟨_,anx (by
      rw[WS];exact Nat.div_lt_of_lt_mul (by rw[apR];exact Qn))⟩
     obtain⟨_,vF,Cz⟩:=JK _ r hr
     have UA:=Nat.mod_lt k jj
     have JL:=Cz (k%ks.length) UA
     rw[anx (by omega)]at JL
     rw[Sk]at JL
     have VR:=qv (w:=w) (a:=⟨a.block,a.off+k / ks.length*ks.length+k%ks.length,none⟩) rfl kG
     have hf:=L0 jj rows Sj _ _ r hr UA
     have ek:k / ks.length*ks.length+k%ks.length=k:=by rw[apR];exact Nat.div_add_mod k ks.length
     rw[ek]at hf
     have aeU:=VR.symm.trans JL
     rw[hf]
     refine Eq.trans ?_ (aeU.trans (anx (by omega)).symm)
     exact an4 (fun z=>l[z]?) (by show a.off+k=a.off+k / ks.length*ks.length+k%ks.length;omega)
    have hfl:=EY rows Sj
    have nK:=get (len*ks.length - 1) (by
     have:0<len*ks.length:=Nat.mul_pos (Nat.pos_of_ne_zero hz) jj
     omega)
    have ahq:0<len*ks.length:=Nat.mul_pos (Nat.pos_of_ne_zero hz) jj
    have ol:a.off+(len*ks.length - 1)<l.length:=by
     rcases aoN (a.off+(len*ks.length - 1)) l.length with h'|h'
     ·exact h'
     ·rw[anP h',anx (by rw[hfl,WS];omega)]at nK;cases nK
    refine⟨a.block,a.off,cap,l,?_,kG,by omega,?_⟩
    ·cases a;simp_all
    ·apply aoj
     intro k
     rw[aob]
     split
     ·rename_i Qn
      rw[aoc]
      exact get k Qn
     ·rw[anP (by rw[hfl,WS];omega)]
  ·obtain⟨i,hi⟩:=an8 hr
   exact(JK i r hi).1
theorem L8:∀ (d:Nat) (cX:Nat) (t:TypeId) (ps:List Pc) (cs:List Value) (x:DataW H×List MemPlace),IY P d t=some ps→DataW.trod enc P w base spare held cX t cs=some x→pL (Si w.heap) ps cs:=by
 intro d
 induction d with
 |zero=>intro cX t ks cs x h;cases h
 |succ d ih=>
  intro cX t ks cs x h hx
  unfold IY at h
  split at h
  ·rename_i k hu
   injection h with h;subst h
   obtain⟨n,rfl,_,hw⟩:=DataW.trod_int hu hx
   exact⟨_,[],rfl,⟨n,rfl,hw⟩,rfl⟩
  ·rename_i hu
   injection h with h;subst h
   obtain⟨b,rfl,_⟩:=DataW.trod_bool hu hx
   exact⟨_,[],rfl,⟨b,rfl⟩,rfl⟩
  ·rename_i hu
   injection h with h;subst h
   obtain⟨s,rfl,_,hw⟩:=DataW.trod_string hu hx
   exact⟨_,[],rfl,⟨s,rfl,hw⟩,rfl⟩
  ·rename_i e hu
   split at h
   ·rename_i ks1 hk
    split at h
    ·rename_i hc
     injection h with h;subst h
     obtain⟨v,rfl,hv⟩:=Qm hu hk hc.1 hc.2 hx
     exact⟨v,[],rfl,hv,rfl⟩
    ·cases h
   ·cases h
  ·rename_i fs hu
   obtain⟨xs,m,_,_,zS,bv,hf⟩:=DataW.trod_struct hu hx
   have:=Pq (enc:=enc) (w:=w) (base:=base) (spare:=spare) (held:=held) (n:=m) (φ:=Si w.heap) (fun t ks cs x h1 h2=>ih m t ks cs x h1 h2) zS fs.toList 0 ks h (fun f Nk=>by
    obtain⟨i,hi⟩:=an8 Nk
    have oq:fs[i]? =some f:=by simpa using hi
    have aR:i<fs.size:=(aoB.1 oq).1
    exact⟨_,(hf i f oq).trans (anx (by omega))⟩)
   simpa using this
  ·rename_i n e hu
   obtain⟨xs,m,_,_,zS,bv,hf⟩:=DataW.trod_array hu hx
   exact Ps (enc:=enc) (w:=w) (base:=base) (spare:=spare) (held:=held) (m:=m) (fun t ks cs x h1 h2=>ih m t ks cs x h1 h2) h zS (fun i hi=>⟨_,(hf i hi).trans (anx (by omega))⟩)
  ·cases h
def WT(P:Program)(t:TypeId):Option (Bool×List Pc):=
 match P.underlying t with
 |some (.struct _)|some (.array _ _)=>(IY P 8 t).map (true,·)
 |some (.int _)|some .bool|some .string|some (.slice _)=>(IY P 8 t).map (false,·)
 |_=>none
def GO(Hh:Hp):Bool×List Pc→Value→Prop
 | (true,ps),v=>∃cs:List Value,v= .agg cs.toArray∧pL (Si Hh) ps cs
 | (false,ps),v=>pL (Si Hh) ps [v]
def JM(P:Program):List TypeId→Option (List (Bool×List Pc))
 | []=>some []
 |t::ts=>match WT P t with
  |some a=>(JM P ts).map (a:: ·)
  |none=>none
theorem Sm{r:Reach}{b0:Nat}{t:TypeId}{v:Value}{d:DataW H}{ps:List MemPlace}{a:Bool×List Pc}(ha:WT P t=some a)(vh:Value.okWide P w r b0 t v)(h:DataW.Trod enc P w base spare held t v d ps):GO w.heap a v:=by
 obtain⟨cX,hf⟩:=h
 unfold WT at ha
 cases hu:P.underlying t with
 |none=>rw[hu]at ha;cases ha
 |some ty=>
  rw[hu]at ha
  have agg:(∃cs,v= .agg cs∧cs.size=P.cellsOf t∧Row.okWide P w r b0 t cs)→(IY P 8 t).map (true,·)=some a→GO w.heap a v:=by
   rintro⟨cs,rfl,_⟩ ha
   cases hp:IY P 8 t with
   |none=>rw[hp]at ha;cases ha
   |some ps=>
    rw[hp]at ha
    simp only[Option.map_some,anK]at ha
    subst ha
    exact⟨cs.toList,rfl,L8 8 cX t ps _ _ hp hf⟩
  have one:v.cells.toList=[v]→(IY P 8 t).map (false,·)=some a→GO w.heap a v:=by
   intro hv ha
   cases hp:IY P 8 t with
   |none=>rw[hp]at ha;cases ha
   |some ps=>
    rw[hp]at ha
    simp only[Option.map_some,anK]at ha
    subst ha
    rw[hv]at hf
    exact L8 8 cX t ps _ _ hp hf
  cases ty with
  |struct fs=>unfold Value.okWide at vh;rw[hu]at vh;exact agg vh ha
  |array n e=>unfold Value.okWide at vh;rw[hu]at vh;exact agg vh ha
  |int k=>obtain⟨n,rfl⟩:=okWide_int hu vh;exact one rfl ha
  |bool=>obtain⟨n,rfl⟩:=okWide_bool hu vh;exact one rfl ha
  |string=>obtain⟨n,rfl⟩:=okWide_string hu vh;exact one rfl ha
  |slice e=>obtain⟨x,y,z,rfl⟩:=okWide_slice hu vh;exact one rfl ha
  |_=>cases ha
theorem Qo{r:Reach}{b0:Nat}:∀ {ts:List TypeId} {vs:List Value} {ds:List (DataW H)} {ps:List MemPlace} {UB:List (Bool×List Pc)},JM P ts=some UB→
  (∀ (j:Nat) t v,ts[j]? =some t→vs[j]? =some v→Value.okWide P w r b0 t v)→DataW.TrodAll enc P w base spare held ts vs ds ps→pL (GO w.heap) UB vs:=by
 intro ts
 induction ts with
 |nil=>
  intro vs ds ps UB ha _ h
  obtain⟨rfl,rfl,rfl⟩:=trodAll_nil h
  simp only[JM,anK]at ha
  subst ha
  rfl
 |cons t ts ih=>
  intro vs ds ps UB ha vh h
  obtain⟨v,vs',d,ds',p,q,rfl,rfl,rfl,h1,h2⟩:=trodAll_cons h
  unfold JM at ha
  split at ha
  ·rename_i a VW
   cases hr:JM P ts with
   |none=>rw[hr]at ha;cases ha
   |some ajc=>
    rw[hr]at ha
    simp only[Option.map_some,anK]at ha
    subst ha
    exact⟨v,vs',rfl,Sm VW (vh 0 t v rfl rfl) h1,ih hr (fun j t' v' hj hv=>vh (j+1) t' v' (by simpa using hj) (by simpa using hv)) h2⟩
  ·cases ha
theorem L9:∀ {ts:List TypeId} {vs:List Value} {ds:List (DataW H)} {ps:List MemPlace},DataW.TrodAll enc P w base spare held ts vs ds ps→ds.length=ts.length:=by
 intro ts
 induction ts with
 |nil=>intro vs ds ps h;obtain⟨rfl,rfl,rfl⟩:=trodAll_nil h;rfl
 |cons t ts ih=>intro vs ds ps h;obtain⟨v,vs',d,ds',p,q,rfl,rfl,rfl,h1,h2⟩:=trodAll_cons h;simp[ih h2]
theorem IZ(hl:laidOutB P=true):∀ {ts:List TypeId} {vs:List Value} {ds:List (DataW H)} {ps:List MemPlace} {W W':World} {sp':Nat→Bool},(∀t∈ts,P.readableRec t=true∧t<P.types.size)→
  DataW.TrodAll enc P W base (fun _=>true) true ts vs ds ps→(∀p∈ps,W.sameAt W' p)→(∀p∈ps,sp' p.block=true)→DataW.TrodAll enc P W' base sp' true ts vs ds ps:=by
 intro ts
 induction ts with
 |nil=>intro vs ds ps W W' sp' _ h _ _;obtain⟨rfl,rfl,rfl⟩:=trodAll_nil h;rfl
 |cons t ts ih=>
  intro vs ds ps W W' sp' ht h h1 h2
  obtain⟨v,vs',d,ds',p,q,rfl,rfl,rfl,g1,g2⟩:=trodAll_cons h
  exact trodAll_cons_mk (WideElems.Trod_stays hl (ht t aoA).1 (ht t aoA).2 g1 (fun x hx=>h1 x (aoh _ hx)) (fun x hx=>h2 x (aoh _ hx)))
   (ih (fun t' UC=>ht t' (aom _ UC)) g2 (fun x hx=>h1 x (aoE _ hx)) (fun x hx=>h2 x (aoE _ hx)))
theorem I0{W W':World}(hf:aq W.heap W'.heap){p:MemPlace}(hp:p.block<W.heap.size):W.sameAt W' p:=by
 cases p with
 |cell b o=>exact World.cell?_of_block (w:=W) (hf.aP b hp (fun h=>h))
 |map b=>exact hf.aP b hp (fun h=>h)
end
theorem Kv{C:Checked}{f:FuncId}{fn:Func}{s:ChangeSpec}{shs:List (Bool×List Pc)}{tb:TypeId}{H:Type}{enc:TypeId×Value→H}(hT:JM C.prog fn.params.toList=some shs)(LH:s.vars=[])
  (aaA:∀ds:List (DataW H),ds.length=fn.params.size→s.fn H ds={results:=[.lit (.bool true)],args:=ds})(Gv:fn.resultTypes= #[tb])(Rx:C.prog.underlying tb=some .bool)(laid:laidOutB C.prog=true)
  (aaB:(fn.params.toList.all fun t=>C.prog.readableRec t && decide (t<C.prog.types.size))=true)
  (walk:∀ (args:List Value) (Hh:Hp),pL (GO Hh) shs args→ai C.prog f args Hh fun v H'=>ay (v= .bool true∧aq Hh H'))
  {W:World}{base:Nat}{args:Array Value}{ds gs:List (DataW H)}{before:List MemPlace}(Sp:∀ (j:Nat) t v,fn.params[j]? =some t→args[j]? =some v→Value.okWide C.prog W .any base t v)
  (hW:DataW.Whole enc C.prog fn.params.toList s.vars false W args.toList ds gs before):
  Calls C.prog f args W fun e W'=>∃v,e= .returned v∧s.post enc C.prog fn false true false false W args v W':=by
 have hW':=hW
 obtain⟨p,q,hA,hV,rfl,hfz,jd⟩:=hW
 have hV':=hV
 rw[LH]at hV'
 obtain⟨rfl,rfl⟩:=trodVars_none hV'
 have aeW:=Qo (b0:=base) (r:=.any) hT (fun j t v hj hv=>Sp j t v (by simpa using hj) (by simpa using hv)) hA
 have bv:=L9 hA
 have aR:=hW'.lt
 have hc:=ai.law (walk args.toList W.heap aeW)
 rw[apf]at hc
 refine hc.mono fun e W' ⟨he,hs,Ry⟩=>?_
 subst he
 have UD:s.fn H (ds++[])={results:=[.lit (.bool true)],args:=ds}:=by rw[aow];exact aaA ds (by simpa using bv)
 have WU:∀t∈fn.params.toList,C.prog.readableRec t=true∧t<C.prog.types.size:=fun t ht=>by
  have:=(aoV.1 aaB) t ht
  simpa using this
 refine⟨_,rfl,IA (pa:=p) (pv:=[]) hW' (fun b sp hd=>?_) (fun sp aaC=>?_) (fun sp aaC=>by rw[LH,UD];rfl) rfl hs Ry ?_⟩
 ·rw[UD,Gv]
  exact trodAll_cons_mk (shut_bool Rx _) trodAll_mk0
 ·rw[UD]
  exact IZ laid WU hA (fun x hx=>I0 Ry (aR x (aoh _ hx))) (fun x hx=>aaC x (aoh _ hx))
 ·exact ok_one Gv rfl (okWide_bool_mk Rx _)
theorem Sq{H:Hp}{v:Value}{ks:List Kd}(h:GO H (false,[.sl ks]) v):∃rows:List (List Value),da H ks.length v rows.length rows.flatten∧(∀r∈rows,pL LY ks r)∧rows.length≤maxLen∧∃a c,v= .slice a rows.length c∧rows.length≤c:=by
 obtain⟨_,_,e,h,rfl⟩:=h
 injection e with e _
 subst e
 exact h
theorem Qp{k:IntKind}:∀ {rows:List (List Value)},(∀r∈rows,pL LY [.i k] r)→∃xs:List Int,rows.flatten=xs.map (Value.int k)∧xs.length=rows.length∧∀x∈xs,(Lit.int k x).wf=true:=by
 intro rows
 induction rows with
 |nil=>intro _;exact⟨[],rfl,rfl,fun x hx=>by cases hx⟩
 |cons r rows ih=>
  intro h
  obtain⟨xs,e1,e2,e3⟩:=ih fun q hq=>h q (aom _ hq)
  obtain⟨_,_,rfl,⟨n,rfl,hw⟩,rfl⟩:=h r aoA
  refine⟨n::xs,by simp[e1],by simp[e2],fun x hx=>?_⟩
  rcases anN.1 hx with rfl|hx
  ·exact hw
  ·exact e3 x hx
end Go.Vc
