/- Texts put behind each other. -/
import Derived.Test.YtjlnnljohemifaaGreatK98
import Derived.Test.YtjlnnljohemifaaGreatK14
import Derived.WideKeyArgs
import Derived.OpenShut
import Derived.ChangeArms
import Derived.ChangeOld
import Derived.Handed
import Derived.RowKit
import Derived.DataReads
set_option maxRecDepth 100000
set_option maxHeartbeats 8000000
set_option linter.unusedVariables false
namespace Go.Vc
open Go.ChangeShapes Go.WideShapes Go.RowKit
theorem ai.then{S:Nat→Prop}{A B C:Hp}(h:ai A B)(k:ag S B C)(hs:∀z,S z→A.size≤z):ai A C:=
 h.oJ k fun z hz NT=>absurd (hs z NT) (by omega)
theorem ag.then{S:Nat→Prop}{A B C:Hp}(h:ag (fun _=>False) A B)(k:ag S B C)(hs:∀z,S z→A.size≤z):ai A C:=ai.then h k hs
inductive Kd where
 |i(k:IntKind)|b|s
 deriving Inhabited
def Jl:Kd→Value→Prop
 | .i k,v=>∃n,v= .int k n∧(Lit.int k n).wf=true
 | .b,v=>∃b,v= .bool b
 | .s,v=>∃s:ByteArray,v= .string s∧s.size≤maxLen
def lz{α:Type}(φ:α→Value→Prop):List α→List Value→Prop
 | [],cs=>cs=[]
 |k::ks,cs=>∃v r,cs=v::r∧φ k v∧lz φ ks r
theorem K8{α:Type}{φ:α→Value→Prop}:∀ {ks:List α} {cs:List Value},lz φ ks cs→cs.length=ks.length:=by
 intro ks
 induction ks with
 |nil=>intro cs h;simp[lz]at h;simp[h]
 |cons k ks ih=>intro cs h;obtain⟨v,r,rfl,_,h⟩:=h;simp[ih h]
theorem Dh{α:Type}{φ:α→Value→Prop}:∀ {ks ks':List α} {cs cs':List Value},lz φ ks cs→lz φ ks' cs'→lz φ (ks++ks') (cs++cs'):=by
 intro ks
 induction ks with
 |nil=>intro ks' cs cs' h h';simp[lz]at h;subst h;simpa using h'
 |cons k ks ih=>intro ks' cs cs' h h';obtain⟨v,r,rfl,h1,h⟩:=h;exact⟨v,r++cs',rfl,h1,ih h h'⟩
inductive Pc where
 |k(x:Kd)
 |sl(ks:List Kd)
 deriving Inhabited
def Rh(H:Hp):Pc→Value→Prop
 | .k x,v=>Jl x v
 | .sl ks,v=>∃rows:List (List Value),dc H ks.length v rows.length rows.flatten∧(∀r∈rows,lz Jl ks r)∧rows.length≤maxLen∧∃a c,v= .slice a rows.length c∧rows.length≤c
def Wf{α:Type}(P:Program)(go:TypeId→Option (List α))(total:Nat):Nat→List Field→Option (List α)
 |off,[]=>if off=total then some []else none
 |off,f::fs=>match go f.type with
  |some ks=>if f.offset=off∧ks.length=P.cellsOf f.type then(Wf P go total (off+P.cellsOf f.type) fs).map (ks++ ·)else none
  |none=>none
def arT{α:Type}(P:Program)(go:TypeId→Option (List α))(t:TypeId)(n:Nat)(e:TypeId):Option (List α):=
 match go e with
 |some ks=>if ks.length=P.cellsOf e∧P.cellsOf t=n*P.cellsOf e then some (List.replicate n ks).flatten else none
 |none=>none
def Il(P:Program):Nat→TypeId→Option (List Kd)
 |0,_=>none
 |d+1,t=>match P.underlying t with
  |some (.int k)=>some [.i k]
  |some .bool=>some [.b]
  |some .string=>some [.s]
  |some (.struct fs)=>Wf P (Il P d) (P.cellsOf t) 0 fs.toList
  |some (.array n e)=>arT P (Il P d) t n e
  |_=>none
def Hk(P:Program):Nat→TypeId→Option (List Pc)
 |0,_=>none
 |d+1,t=>match P.underlying t with
  |some (.int k)=>some [.k (.i k)]
  |some .bool=>some [.k .b]
  |some .string=>some [.k .s]
  |some (.slice e)=>match Il P d e with
   |some ks=>if ks.length=P.cellsOf e∧ks.length≠0 then some [.sl ks]else none
   |none=>none
  |some (.struct fs)=>Wf P (Hk P d) (P.cellsOf t) 0 fs.toList
  |some (.array n e)=>arT P (Hk P d) t n e
  |_=>none
section
variable {H : Type} {enc : TypeId × Value → H} {P : Program} {w : World} {base : Nat} {spare : Nat → Bool} {held : Bool}
theorem Oc{α:Type}{φ:α→Value→Prop}{go:TypeId→Option (List α)}{total n:Nat}{cs:List Value}(Wg:∀t ks cs x,go t=some ks→DataW.trod enc P w base spare held n t cs=some x→lz φ ks cs)(xE:cs.length=total):
  ∀ (fs:List Field) (off:Nat) (ks:List α),Wf P go total off fs=some ks→(∀f∈fs,∃y,DataW.trod enc P w base spare held n f.type ((cs.drop f.offset).take (P.cellsOf f.type))=some y)→lz φ ks (cs.drop off):=by
 intro fs
 induction fs with
 |nil=>
  intro off ks h _
  unfold Wf at h
  split at h
  ·rename_i e
   injection h with h
   subst h
   show cs.drop off=[]
   rw[e,←xE];simp
  ·cases h
 |cons f fs ih=>
  intro off ks h hf
  unfold Wf at h
  split at h
  ·rename_i ks1 hk
   split at h
   ·rename_i hc
    cases hr:Wf P go total (off+P.cellsOf f.type) fs with
    |none=>rw[hr]at h;cases h
    |some ks2=>
     rw[hr]at h
     simp only[Option.map_some,anE]at h
     subst h
     obtain⟨y,hy⟩:=hf f aok
     have h1:=Wg _ _ _ _ hk hy
     have h2:=ih _ _ hr fun g hg=>hf g (anZ _ hg)
     rw[hc.1]at h1
     have h3:=Dh h1 h2
     rw[show cs.drop (off+P.cellsOf f.type)=(cs.drop off).drop (P.cellsOf f.type) by rw[apm],List.take_append_drop]at h3
     exact h3
   ·cases h
  ·cases h
theorem Od{α:Type}{φ:α→Value→Prop}{go:TypeId→Option (List α)}{n m:Nat}{t e:TypeId}{cs:List Value}{ks:List α}(Wg:∀t ks cs x,go t=some ks→DataW.trod enc P w base spare held m t cs=some x→lz φ ks cs)
  (h:arT P go t n e=some ks)(xE:cs.length=P.cellsOf t)(hx:∀i,i<n→∃y,DataW.trod enc P w base spare held m e ((cs.drop (i*P.cellsOf e)).take (P.cellsOf e))=some y):lz φ ks cs:=by
 unfold arT at h
 split at h
 ·rename_i ks1 hk
  split at h
  ·rename_i hc
   injection h with h
   subst h
   have key:∀j,j≤n→lz φ (List.replicate j ks1).flatten (cs.drop ((n - j)*P.cellsOf e)):=by
    intro j
    induction j with
    |zero=>
     intro _
     show cs.drop _=[]
     rw[Nat.sub_zero,←hc.2,←xE];simp
    |succ j ih=>
     intro hj
     obtain⟨y,hy⟩:=hx (n - (j+1)) (by omega)
     have h1:=Wg _ _ _ _ hk hy
     have h3:=Dh h1 (ih (by omega))
     have e1:(n - j)*P.cellsOf e=(n - (j+1))*P.cellsOf e+P.cellsOf e:=by
      rw[show n - j=(n - (j+1))+1 by omega,aoM,Nat.one_mul]
     rw[e1,←apm,List.take_append_drop]at h3
     rw[aoc,aos]
     exact h3
   have:=key n (anG _)
   simpa using this
  ·cases h
 ·cases h
theorem Pq:∀ (d:Nat) (cS:Nat) (t:TypeId) (ks:List Kd) (cs:List Value) (x:DataW H×List MemPlace),Il P d t=some ks→DataW.trod enc P w base spare held cS t cs=some x→lz Jl ks cs:=by
 intro d
 induction d with
 |zero=>intro cS t ks cs x h;cases h
 |succ d ih=>
  intro cS t ks cs x h hx
  unfold Il at h
  split at h
  ·rename_i k hu
   injection h with h;subst h
   obtain⟨n,rfl,_,hw⟩:=DataW.trod_int hu hx
   exact⟨_,[],rfl,⟨n,rfl,hw⟩,rfl⟩
  ·rename_i hu
   injection h with h;subst h
   obtain⟨b,rfl,_⟩:=DataW.trod_bool hu hx
   exact⟨_,[],rfl,⟨b,rfl⟩,rfl⟩
  ·rename_i hu
   injection h with h;subst h
   obtain⟨s,rfl,_,hw⟩:=DataW.trod_string hu hx
   exact⟨_,[],rfl,⟨s,rfl,hw⟩,rfl⟩
  ·rename_i fs hu
   obtain⟨xs,m,_,_,xE,aX,hf⟩:=DataW.trod_struct hu hx
   have:=Oc (enc:=enc) (w:=w) (base:=base) (spare:=spare) (held:=held) (n:=m) (φ:=Jl) (fun t ks cs x h1 h2=>ih m t ks cs x h1 h2) xE fs.toList 0 ks h (fun f Oe=>by
    obtain⟨i,hi⟩:=an6 Oe
    have mI:fs[i]? =some f:=by simpa using hi
    have aO:i<fs.size:=(aot.1 mI).1
    exact⟨_,(hf i f mI).trans (ans (by omega))⟩)
   simpa using this
  ·rename_i n e hu
   obtain⟨xs,m,_,_,xE,aX,hf⟩:=DataW.trod_array hu hx
   exact Od (enc:=enc) (w:=w) (base:=base) (spare:=spare) (held:=held) (m:=m) (fun t ks cs x h1 h2=>ih m t ks cs x h1 h2) h xE (fun i hi=>⟨_,(hf i hi).trans (ans (by omega))⟩)
  ·cases h
theorem K9{size:Nat}(hs:0<size):∀ (rows:List (List Value)),(∀r∈rows,r.length=size)→∀ (i j:Nat) (r:List Value),rows[i]? =some r→j<size→rows.flatten[i*size+j]? =r[j]? :=by
 intro rows
 induction rows with
 |nil=>intro _ i j r h;simp at h
 |cons q rows ih=>
  intro hl i j r hi hj
  have hq:=hl q aok
  rw[aos]
  cases i with
  |zero=>
   simp only[anY,anE]at hi
   subst hi
   rw[aod,ant,anJ (by omega)]
  |succ i=>
   have e:(i+1)*size+j - q.length=i*size+j:=by rw[aoM,Nat.one_mul,hq];omega
   rw[anX (by rw[aoM,Nat.one_mul,hq];omega),e]
   exact ih (fun x hx=>hl x (anZ _ hx)) i j r (by simpa using hi) hj
theorem Di{size:Nat}:∀ (rows:List (List Value)),(∀r∈rows,r.length=size)→rows.flatten.length=rows.length*size:=by
 intro rows
 induction rows with
 |nil=>simp
 |cons q rows ih=>
  intro hl
  rw[aos,anD,ih fun x hx=>hl x (anZ _ hx),hl q aok,anO,aoM,Nat.one_mul,Nat.add_comm]
theorem M1{a:Addr}{v:Value}(h:w.cell? a=some v):a.spot=none∧∃l,Hp.rd w.heap a.block=some l∧l[a.off]? =some v:=by
 unfold World.cell? at h
 unfold Hp.rd
 split at h
 ·rename_i c t fr hb
  split at h
  ·cases h
  ·rename_i hs
   refine⟨by simpa using hs,c.toList,by rw[hb],by simpa using h⟩
 ·cases h
theorem Ps{d cS:Nat}{t e:TypeId}{ks:List Kd}{cs:List Value}{x:DataW H×List MemPlace}(hu:P.underlying t=some (.slice e))(hk:Il P d e=some ks)(hl:ks.length=P.cellsOf e)(h0:ks.length≠0)
  (hx:DataW.trod enc P w base spare held cS t cs=some x):∃v,cs=[v]∧Rh w.heap (.sl ks) v:=by
 rcases DataW.trod_slice hu hx with ⟨rfl,_⟩| ⟨a,len,cap,ahf,rest,n,_,rfl,_,hb,oY,hm,aX,Wh,_,_⟩
 ·exact⟨_,rfl,[],⟨by simp,.inl ⟨rfl,none,0,rfl⟩⟩,(by intro r hr;cases hr),by simp,none,0,rfl,by simp⟩
 ·refine⟨_,rfl,?_⟩
  have each:∀i,i<len→∃r,lz Jl ks r∧r.length=ks.length∧∀j,j<ks.length→w.cell? ((a.add (i*ks.length)).add j)=r[j]? :=by
   intro i hi
   have h1:=Wh i hi
   rw[ans (by omega)]at h1
   obtain⟨r,hr,hy⟩:=Option.bind_eq_some_iff.1 h1
   have hf:=Pq d n e ks r _ hk hy
   obtain⟨_,h2,h3⟩:=World.cells?_some hr
   refine⟨r,hf,K8 hf,fun j hj=>?_⟩
   rw[hl]
   exact h3 j (by omega)
  have Wi:∀m,m≤len→∃rows:List (List Value),rows.length=m∧∀i r,rows[i]? =some r→lz Jl ks r∧r.length=ks.length∧∀j,j<ks.length→w.cell? ((a.add (i*ks.length)).add j)=r[j]? :=by
   intro m
   induction m with
   |zero=>intro _;exact⟨[],rfl,fun i r h=>by simp at h⟩
   |succ m ih=>
    intro hm'
    obtain⟨rows,h1,h2⟩:=ih (by omega)
    obtain⟨r,hr⟩:=each m (by omega)
    refine⟨rows++[r],by simp[h1],fun i q hq=>?_⟩
    by_cases hi:i<m
    ·rw[anJ (by omega)]at hq
     exact h2 i q hq
    ·rw[anX (by omega)]at hq
     have:i - rows.length=0:=by
      rcases apc (i - rows.length)with h|h
      ·exact h
      ·rw[anK (by simp;omega)]at hq;cases hq
     rw[this]at hq
     simp only[anY,anE]at hq
     subst hq
     rw[show i=m by omega]
     exact hr
  obtain⟨rows,Wj,Dj⟩:=Wi len (anG _)
  have Ri:∀r∈rows,r.length=ks.length:=fun r hr=>by
   obtain⟨i,hi⟩:=an6 hr
   exact(Dj i r hi).2.1
  refine⟨rows,?_,fun r hr=>?_,by omega,a,cap,by rw[Wj],by omega⟩
  ·refine⟨Di rows Ri,?_⟩
   rw[Wj]
   by_cases hz:len=0
   ·subst hz
    exact .inl ⟨rfl,_,_,rfl⟩
   ·right
    have fY:0<ks.length:=Nat.pos_of_ne_zero h0
    obtain⟨r0,Wk⟩:∃r,rows[0]? =some r:=⟨_,ans (by omega)⟩
    obtain⟨_,UX,lu⟩:=Dj 0 r0 Wk
    have hc:=lu 0 fY
    rw[ans (by omega)]at hc
    obtain⟨hs,l,fA,_⟩:=M1 hc
    have aak:a.spot=none:=by
     simp only[aod]at hs
     simpa[Addr.add]using hs
    have Rj:∀i j,((a.add i).add j)=⟨a.block,a.off+i+j,none⟩:=fun i j=>by rw[Fw aak,xY]
    rw[Rj]at fA
    have get:∀k,k<len*ks.length→l[a.off+k]? =rows.flatten[k]? :=by
     intro k J9
     obtain⟨r,hr⟩:∃r,rows[k / ks.length]? =some r:=⟨_,ans (by
      rw[Wj];exact Nat.div_lt_of_lt_mul (by rw[Nat.mul_comm];exact J9))⟩
     obtain⟨_,sE,xF⟩:=Dj _ r hr
     have Ti:=Nat.mod_lt k fY
     have Fx:=xF (k%ks.length) Ti
     rw[ans (by omega)]at Fx
     rw[Rj]at Fx
     have YD:=nq (w:=w) (a:=⟨a.block,a.off+k / ks.length*ks.length+k%ks.length,none⟩) rfl fA
     have hf:=K9 fY rows Ri _ _ r hr Ti
     have ek:k / ks.length*ks.length+k%ks.length=k:=by rw[Nat.mul_comm];exact Nat.div_add_mod k ks.length
     rw[ek]at hf
     have aeH:=YD.symm.trans Fx
     rw[hf]
     refine Eq.trans ?_ (aeH.trans (ans (by omega)).symm)
     exact anP (fun z=>l[z]?) (by show a.off+k=a.off+k / ks.length*ks.length+k%ks.length;omega)
    have hfl:=Di rows Ri
    have iY:=get (len*ks.length - 1) (by
     have:0<len*ks.length:=Nat.mul_pos (Nat.pos_of_ne_zero hz) fY
     omega)
    have ahg:0<len*ks.length:=Nat.mul_pos (Nat.pos_of_ne_zero hz) fY
    have oK:a.off+(len*ks.length - 1)<l.length:=by
     rcases aoL (a.off+(len*ks.length - 1)) l.length with h'|h'
     ·exact h'
     ·rw[anK h',ans (by rw[hfl,Wj];omega)]at iY;cases iY
    refine⟨a.block,a.off,cap,l,?_,fA,by omega,?_⟩
    ·cases a;simp_all
    ·apply aoo
     intro k
     rw[an9]
     split
     ·rename_i J9
      rw[aob]
      exact get k J9
     ·rw[anK (by rw[hfl,Wj];omega)]
  ·obtain⟨i,hi⟩:=an6 hr
   exact(Dj i r hi).1
theorem La:∀ (d:Nat) (cS:Nat) (t:TypeId) (ps:List Pc) (cs:List Value) (x:DataW H×List MemPlace),Hk P d t=some ps→DataW.trod enc P w base spare held cS t cs=some x→lz (Rh w.heap) ps cs:=by
 intro d
 induction d with
 |zero=>intro cS t ks cs x h;cases h
 |succ d ih=>
  intro cS t ks cs x h hx
  unfold Hk at h
  split at h
  ·rename_i k hu
   injection h with h;subst h
   obtain⟨n,rfl,_,hw⟩:=DataW.trod_int hu hx
   exact⟨_,[],rfl,⟨n,rfl,hw⟩,rfl⟩
  ·rename_i hu
   injection h with h;subst h
   obtain⟨b,rfl,_⟩:=DataW.trod_bool hu hx
   exact⟨_,[],rfl,⟨b,rfl⟩,rfl⟩
  ·rename_i hu
   injection h with h;subst h
   obtain⟨s,rfl,_,hw⟩:=DataW.trod_string hu hx
   exact⟨_,[],rfl,⟨s,rfl,hw⟩,rfl⟩
  ·rename_i e hu
   split at h
   ·rename_i ks1 hk
    split at h
    ·rename_i hc
     injection h with h;subst h
     obtain⟨v,rfl,hv⟩:=Ps hu hk hc.1 hc.2 hx
     exact⟨v,[],rfl,hv,rfl⟩
    ·cases h
   ·cases h
  ·rename_i fs hu
   obtain⟨xs,m,_,_,xE,aX,hf⟩:=DataW.trod_struct hu hx
   have:=Oc (enc:=enc) (w:=w) (base:=base) (spare:=spare) (held:=held) (n:=m) (φ:=Rh w.heap) (fun t ks cs x h1 h2=>ih m t ks cs x h1 h2) xE fs.toList 0 ks h (fun f Oe=>by
    obtain⟨i,hi⟩:=an6 Oe
    have mI:fs[i]? =some f:=by simpa using hi
    have aO:i<fs.size:=(aot.1 mI).1
    exact⟨_,(hf i f mI).trans (ans (by omega))⟩)
   simpa using this
  ·rename_i n e hu
   obtain⟨xs,m,_,_,xE,aX,hf⟩:=DataW.trod_array hu hx
   exact Od (enc:=enc) (w:=w) (base:=base) (spare:=spare) (held:=held) (m:=m) (fun t ks cs x h1 h2=>ih m t ks cs x h1 h2) h xE (fun i hi=>⟨_,(hf i hi).trans (ans (by omega))⟩)
  ·cases h
def Wl(P:Program)(t:TypeId):Option (Bool×List Pc):=
 match P.underlying t with
 |some (.struct _)|some (.array _ _)=>(Hk P 8 t).map (true,·)
 |some (.int _)|some .bool|some .string|some (.slice _)=>(Hk P 8 t).map (false,·)
 |_=>none
def Cm(Hh:Hp):Bool×List Pc→Value→Prop
 | (true,ps),v=>∃cs:List Value,v= .agg cs.toArray∧lz (Rh Hh) ps cs
 | (false,ps),v=>lz (Rh Hh) ps [v]
def Im(P:Program):List TypeId→Option (List (Bool×List Pc))
 | []=>some []
 |t::ts=>match Wl P t with
  |some a=>(Im P ts).map (a:: ·)
  |none=>none
theorem Rk{r:Reach}{b0:Nat}{t:TypeId}{v:Value}{d:DataW H}{ps:List MemPlace}{a:Bool×List Pc}(ha:Wl P t=some a)(tS:Value.okWide P w r b0 t v)(h:DataW.Trod enc P w base spare held t v d ps):Cm w.heap a v:=by
 obtain⟨cS,hf⟩:=h
 unfold Wl at ha
 cases hu:P.underlying t with
 |none=>rw[hu]at ha;cases ha
 |some ty=>
  rw[hu]at ha
  have agg:(∃cs,v= .agg cs∧cs.size=P.cellsOf t∧Row.okWide P w r b0 t cs)→(Hk P 8 t).map (true,·)=some a→Cm w.heap a v:=by
   rintro⟨cs,rfl,_⟩ ha
   cases hp:Hk P 8 t with
   |none=>rw[hp]at ha;cases ha
   |some ps=>
    rw[hp]at ha
    simp only[Option.map_some,anE]at ha
    subst ha
    exact⟨cs.toList,rfl,La 8 cS t ps _ _ hp hf⟩
  have one:v.cells.toList=[v]→(Hk P 8 t).map (false,·)=some a→Cm w.heap a v:=by
   intro hv ha
   cases hp:Hk P 8 t with
   |none=>rw[hp]at ha;cases ha
   |some ps=>
    rw[hp]at ha
    simp only[Option.map_some,anE]at ha
    subst ha
    rw[hv]at hf
    exact La 8 cS t ps _ _ hp hf
  cases ty with
  |struct fs=>unfold Value.okWide at tS;rw[hu]at tS;exact agg tS ha
  |array n e=>unfold Value.okWide at tS;rw[hu]at tS;exact agg tS ha
  |int k=>obtain⟨n,rfl⟩:=okWide_int hu tS;exact one rfl ha
  |bool=>obtain⟨n,rfl⟩:=okWide_bool hu tS;exact one rfl ha
  |string=>obtain⟨n,rfl⟩:=okWide_string hu tS;exact one rfl ha
  |slice e=>obtain⟨x,y,z,rfl⟩:=okWide_slice hu tS;exact one rfl ha
  |_=>cases ha
theorem Pt{r:Reach}{b0:Nat}:∀ {ts:List TypeId} {vs:List Value} {ds:List (DataW H)} {ps:List MemPlace} {TG:List (Bool×List Pc)},Im P ts=some TG→
  (∀ (j:Nat) t v,ts[j]? =some t→vs[j]? =some v→Value.okWide P w r b0 t v)→DataW.TrodAll enc P w base spare held ts vs ds ps→lz (Cm w.heap) TG vs:=by
 intro ts
 induction ts with
 |nil=>
  intro vs ds ps TG ha _ h
  obtain⟨rfl,rfl,rfl⟩:=trodAll_nil h
  simp only[Im,anE]at ha
  subst ha
  rfl
 |cons t ts ih=>
  intro vs ds ps TG ha tS h
  obtain⟨v,vs',d,ds',p,q,rfl,rfl,rfl,h1,h2⟩:=trodAll_cons h
  unfold Im at ha
  split at ha
  ·rename_i a Qp
   cases hr:Im P ts with
   |none=>rw[hr]at ha;cases ha
   |some ajz=>
    rw[hr]at ha
    simp only[Option.map_some,anE]at ha
    subst ha
    exact⟨v,vs',rfl,Rk Qp (tS 0 t v rfl rfl) h1,ih hr (fun j t' v' hj hv=>tS (j+1) t' v' (by simpa using hj) (by simpa using hv)) h2⟩
  ·cases ha
theorem Lb:∀ {ts:List TypeId} {vs:List Value} {ds:List (DataW H)} {ps:List MemPlace},DataW.TrodAll enc P w base spare held ts vs ds ps→ds.length=ts.length:=by
 intro ts
 induction ts with
 |nil=>intro vs ds ps h;obtain⟨rfl,rfl,rfl⟩:=trodAll_nil h;rfl
 |cons t ts ih=>intro vs ds ps h;obtain⟨v,vs',d,ds',p,q,rfl,rfl,rfl,h1,h2⟩:=trodAll_cons h;simp[ih h2]
theorem Hl(hl:laidOutB P=true):∀ {ts:List TypeId} {vs:List Value} {ds:List (DataW H)} {ps:List MemPlace} {W W':World} {sp':Nat→Bool},(∀t∈ts,P.readableRec t=true∧t<P.types.size)→
  DataW.TrodAll enc P W base (fun _=>true) true ts vs ds ps→(∀p∈ps,W.sameAt W' p)→(∀p∈ps,sp' p.block=true)→DataW.TrodAll enc P W' base sp' true ts vs ds ps:=by
 intro ts
 induction ts with
 |nil=>intro vs ds ps W W' sp' _ h _ _;obtain⟨rfl,rfl,rfl⟩:=trodAll_nil h;rfl
 |cons t ts ih=>
  intro vs ds ps W W' sp' ht h h1 h2
  obtain⟨v,vs',d,ds',p,q,rfl,rfl,rfl,g1,g2⟩:=trodAll_cons h
  exact trodAll_cons_mk (WideElems.Trod_stays hl (ht t aok).1 (ht t aok).2 g1 (fun x hx=>h1 x (anL _ hx)) (fun x hx=>h2 x (anL _ hx)))
   (ih (fun t' Ts=>ht t' (anZ _ Ts)) g2 (fun x hx=>h1 x (aoq _ hx)) (fun x hx=>h2 x (aoq _ hx)))
theorem Hm{W W':World}(hf:ai W.heap W'.heap){p:MemPlace}(hp:p.block<W.heap.size):W.sameAt W' p:=by
 cases p with
 |cell b o=>exact World.cell?_of_block (w:=W) (hf.aM b hp (fun h=>h))
 |map b=>exact hf.aM b hp (fun h=>h)
end
theorem Jm{C:Checked}{f:FuncId}{fn:Func}{s:ChangeSpec}{shs:List (Bool×List Pc)}{tb:TypeId}{H:Type}{enc:TypeId×Value→H}(hT:Im C.prog fn.params.toList=some shs)(KK:s.vars=[])
  (aal:∀ds:List (DataW H),ds.length=fn.params.size→s.fn H ds={results:=[.lit (.bool true)],args:=ds})(Fg:fn.resultTypes= #[tb])(UY:C.prog.underlying tb=some .bool)(laid:laidOutB C.prog=true)
  (aam:(fn.params.toList.all fun t=>C.prog.readableRec t && decide (t<C.prog.types.size))=true)
  (walk:∀ (args:List Value) (Hh:Hp),lz (Cm Hh) shs args→af C.prog f args Hh fun v H'=>aw (v= .bool true∧ai Hh H'))
  {W:World}{base:Nat}{args:Array Value}{ds gs:List (DataW H)}{before:List MemPlace}(Rm:∀ (j:Nat) t v,fn.params[j]? =some t→args[j]? =some v→Value.okWide C.prog W .any base t v)
  (hW:DataW.Whole enc C.prog fn.params.toList s.vars false W args.toList ds gs before):
  Calls C.prog f args W fun e W'=>∃v,e= .returned v∧s.post enc C.prog fn false true false false W args v W':=by
 have hW':=hW
 obtain⟨p,q,hA,hV,rfl,hfz,gk⟩:=hW
 have hV':=hV
 rw[KK]at hV'
 obtain⟨rfl,rfl⟩:=trodVars_none hV'
 have aeJ:=Pt (b0:=base) (r:=.any) hT (fun j t v hj hv=>Rm j t v (by simpa using hj) (by simpa using hv)) hA
 have aX:=Lb hA
 have aO:=hW'.lt
 have hc:=af.law (walk args.toList W.heap aeJ)
 rw[ao3]at hc
 refine hc.mono fun e W' ⟨he,hs,Wm⟩=>?_
 subst he
 have Gw:s.fn H (ds++[])={results:=[.lit (.bool true)],args:=ds}:=by rw[aon];exact aal ds (by simpa using aX)
 have Wn:∀t∈fn.params.toList,C.prog.readableRec t=true∧t<C.prog.types.size:=fun t ht=>by
  have:=(aoA.1 aam) t ht
  simpa using this
 refine⟨_,rfl,GJ (pa:=p) (pv:=[]) hW' (fun b sp hd=>?_) (fun sp aan=>?_) (fun sp aan=>by rw[KK,Gw];rfl) rfl hs Wm ?_⟩
 ·rw[Gw,Fg]
  exact trodAll_cons_mk (shut_bool UY _) trodAll_mk0
 ·rw[Gw]
  exact Hl laid Wn hA (fun x hx=>Hm Wm (aO x (anL _ hx))) (fun x hx=>aan x (anL _ hx))
 ·exact ok_one Fg rfl (okWide_bool_mk UY _)
theorem Rn{H:Hp}{v:Value}{ks:List Kd}(h:Cm H (false,[.sl ks]) v):∃rows:List (List Value),dc H ks.length v rows.length rows.flatten∧(∀r∈rows,lz Jl ks r)∧rows.length≤maxLen∧∃a c,v= .slice a rows.length c∧rows.length≤c:=by
 obtain⟨_,_,e,h,rfl⟩:=h
 injection e with e _
 subst e
 exact h
theorem Pu{k:IntKind}:∀ {rows:List (List Value)},(∀r∈rows,lz Jl [.i k] r)→∃xs:List Int,rows.flatten=xs.map (Value.int k)∧xs.length=rows.length∧∀x∈xs,(Lit.int k x).wf=true:=by
 intro rows
 induction rows with
 |nil=>intro _;exact⟨[],rfl,rfl,fun x hx=>by cases hx⟩
 |cons r rows ih=>
  intro h
  obtain⟨xs,e1,e2,e3⟩:=ih fun q hq=>h q (anZ _ hq)
  obtain⟨_,_,rfl,⟨n,rfl,hw⟩,rfl⟩:=h r aok
  refine⟨n::xs,by simp[e1],by simp[e2],fun x hx=>?_⟩
  rcases anF.1 hx with rfl|hx
  ·exact hw
  ·exact e3 x hx
end Go.Vc
