/- Texts put behind each other. -/
import Derived.Test.YtjlnnljohemifaaGreatK98
import Derived.Test.YtjlnnljohemifaaGreatK10
import Derived.WideKeyArgs
import Derived.OpenShut
import Derived.ChangeArms
import Derived.ChangeOld
import Derived.Handed
import Derived.RowKit
import Derived.DataReads
set_option maxRecDepth 100000
set_option maxHeartbeats 8000000
set_option linter.unusedVariables false
namespace Go.Vc
open Go.ChangeShapes Go.WideShapes Go.RowKit
theorem ah.then{S:Nat→Prop}{A B C:Hp}(h:ah A B)(k:ag S B C)(hs:∀z,S z→A.size≤z):ah A C:=
 h.nu k fun z hz OI=>absurd (hs z OI) (by omega)
theorem ag.then{S:Nat→Prop}{A B C:Hp}(h:ag (fun _=>False) A B)(k:ag S B C)(hs:∀z,S z→A.size≤z):ah A C:=ah.then h k hs
inductive Kd where
 |i(k:IntKind)|b|s
 deriving Inhabited
def M8:Kd→Value→Prop
 | .i k,v=>∃n,v= .int k n∧(Lit.int k n).wf=true
 | .b,v=>∃b,v= .bool b
 | .s,v=>∃s:ByteArray,v= .string s∧s.size≤maxLen
def nB{α:Type}(φ:α→Value→Prop):List α→List Value→Prop
 | [],cs=>cs=[]
 |k::ks,cs=>∃v r,cs=v::r∧φ k v∧nB φ ks r
theorem La{α:Type}{φ:α→Value→Prop}:∀ {ks:List α} {cs:List Value},nB φ ks cs→cs.length=ks.length:=by
 intro ks
 induction ks with
 |nil=>intro cs h;simp[nB]at h;simp[h]
 |cons k ks ih=>intro cs h;obtain⟨v,r,rfl,_,h⟩:=h;simp[ih h]
theorem Dx{α:Type}{φ:α→Value→Prop}:∀ {ks ks':List α} {cs cs':List Value},nB φ ks cs→nB φ ks' cs'→nB φ (ks++ks') (cs++cs'):=by
 intro ks
 induction ks with
 |nil=>intro ks' cs cs' h h';simp[nB]at h;subst h;simpa using h'
 |cons k ks ih=>intro ks' cs cs' h h';obtain⟨v,r,rfl,h1,h⟩:=h;exact⟨v,r++cs',rfl,h1,ih h h'⟩
inductive Pc where
 |k(x:Kd)
 |sl(ks:List Kd)
 deriving Inhabited
def Ro(H:Hp):Pc→Value→Prop
 | .k x,v=>M8 x v
 | .sl ks,v=>∃rows:List (List Value),cO H ks.length v rows.length rows.flatten∧(∀r∈rows,nB M8 ks r)∧rows.length≤maxLen∧∃a c,v= .slice a rows.length c∧rows.length≤c
def Wp{α:Type}(P:Program)(go:TypeId→Option (List α))(total:Nat):Nat→List Field→Option (List α)
 |off,[]=>if off=total then some []else none
 |off,f::fs=>match go f.type with
  |some ks=>if f.offset=off∧ks.length=P.cellsOf f.type then(Wp P go total (off+P.cellsOf f.type) fs).map (ks++ ·)else none
  |none=>none
def arT{α:Type}(P:Program)(go:TypeId→Option (List α))(t:TypeId)(n:Nat)(e:TypeId):Option (List α):=
 match go e with
 |some ks=>if ks.length=P.cellsOf e∧P.cellsOf t=n*P.cellsOf e then some (List.replicate n ks).flatten else none
 |none=>none
def IC(P:Program):Nat→TypeId→Option (List Kd)
 |0,_=>none
 |d+1,t=>match P.underlying t with
  |some (.int k)=>some [.i k]
  |some .bool=>some [.b]
  |some .string=>some [.s]
  |some (.struct fs)=>Wp P (IC P d) (P.cellsOf t) 0 fs.toList
  |some (.array n e)=>arT P (IC P d) t n e
  |_=>none
def HD(P:Program):Nat→TypeId→Option (List Pc)
 |0,_=>none
 |d+1,t=>match P.underlying t with
  |some (.int k)=>some [.k (.i k)]
  |some .bool=>some [.k .b]
  |some .string=>some [.k .s]
  |some (.slice e)=>match IC P d e with
   |some ks=>if ks.length=P.cellsOf e∧ks.length≠0 then some [.sl ks]else none
   |none=>none
  |some (.struct fs)=>Wp P (HD P d) (P.cellsOf t) 0 fs.toList
  |some (.array n e)=>arT P (HD P d) t n e
  |_=>none
section
variable {H : Type} {enc : TypeId × Value → H} {P : Program} {w : World} {base : Nat} {spare : Nat → Bool} {held : Bool}
theorem OJ{α:Type}{φ:α→Value→Prop}{go:TypeId→Option (List α)}{total n:Nat}{cs:List Value}(Wq:∀t ks cs x,go t=some ks→DataW.trod enc P w base spare held n t cs=some x→nB φ ks cs)(yb:cs.length=total):
  ∀ (fs:List Field) (off:Nat) (ks:List α),Wp P go total off fs=some ks→(∀f∈fs,∃y,DataW.trod enc P w base spare held n f.type ((cs.drop f.offset).take (P.cellsOf f.type))=some y)→nB φ ks (cs.drop off):=by
 intro fs
 induction fs with
 |nil=>
  intro off ks h _
  unfold Wp at h
  split at h
  ·rename_i e
   injection h with h
   subst h
   show cs.drop off=[]
   rw[e,←yb];simp
  ·cases h
 |cons f fs ih=>
  intro off ks h hf
  unfold Wp at h
  split at h
  ·rename_i ks1 hk
   split at h
   ·rename_i hc
    cases hr:Wp P go total (off+P.cellsOf f.type) fs with
    |none=>rw[hr]at h;cases h
    |some ks2=>
     rw[hr]at h
     simp only[Option.map_some,aos]at h
     subst h
     obtain⟨y,hy⟩:=hf f ao5
     have h1:=Wq _ _ _ _ hk hy
     have h2:=ih _ _ hr fun g hg=>hf g (aoQ _ hg)
     rw[hc.1]at h1
     have h3:=Dx h1 h2
     rw[show cs.drop (off+P.cellsOf f.type)=(cs.drop off).drop (P.cellsOf f.type) by rw[aqd],apF]at h3
     exact h3
   ·cases h
  ·cases h
theorem OK{α:Type}{φ:α→Value→Prop}{go:TypeId→Option (List α)}{n m:Nat}{t e:TypeId}{cs:List Value}{ks:List α}(Wq:∀t ks cs x,go t=some ks→DataW.trod enc P w base spare held m t cs=some x→nB φ ks cs)
  (h:arT P go t n e=some ks)(yb:cs.length=P.cellsOf t)(hx:∀i,i<n→∃y,DataW.trod enc P w base spare held m e ((cs.drop (i*P.cellsOf e)).take (P.cellsOf e))=some y):nB φ ks cs:=by
 unfold arT at h
 split at h
 ·rename_i ks1 hk
  split at h
  ·rename_i hc
   injection h with h
   subst h
   have key:∀j,j≤n→nB φ (List.replicate j ks1).flatten (cs.drop ((n - j)*P.cellsOf e)):=by
    intro j
    induction j with
    |zero=>
     intro _
     show cs.drop _=[]
     rw[Nat.sub_zero,←hc.2,←yb];simp
    |succ j ih=>
     intro hj
     obtain⟨y,hy⟩:=hx (n - (j+1)) (by omega)
     have h1:=Wq _ _ _ _ hk hy
     have h3:=Dx h1 (ih (by omega))
     have e1:(n - j)*P.cellsOf e=(n - (j+1))*P.cellsOf e+P.cellsOf e:=by
      rw[show n - j=(n - (j+1))+1 by omega,apB,Nat.one_mul]
     rw[e1,←aqd,apF]at h3
     rw[aoY,apc]
     exact h3
   have:=key n (aov _)
   simpa using this
  ·cases h
 ·cases h
theorem PF:∀ (d:Nat) (cW:Nat) (t:TypeId) (ks:List Kd) (cs:List Value) (x:DataW H×List MemPlace),IC P d t=some ks→DataW.trod enc P w base spare held cW t cs=some x→nB M8 ks cs:=by
 intro d
 induction d with
 |zero=>intro cW t ks cs x h;cases h
 |succ d ih=>
  intro cW t ks cs x h hx
  unfold IC at h
  split at h
  ·rename_i k hu
   injection h with h;subst h
   obtain⟨n,rfl,_,hw⟩:=DataW.trod_int hu hx
   exact⟨_,[],rfl,⟨n,rfl,hw⟩,rfl⟩
  ·rename_i hu
   injection h with h;subst h
   obtain⟨b,rfl,_⟩:=DataW.trod_bool hu hx
   exact⟨_,[],rfl,⟨b,rfl⟩,rfl⟩
  ·rename_i hu
   injection h with h;subst h
   obtain⟨s,rfl,_,hw⟩:=DataW.trod_string hu hx
   exact⟨_,[],rfl,⟨s,rfl,hw⟩,rfl⟩
  ·rename_i fs hu
   obtain⟨xs,m,_,_,yb,aZ,hf⟩:=DataW.trod_struct hu hx
   have:=OJ (enc:=enc) (w:=w) (base:=base) (spare:=spare) (held:=held) (n:=m) (φ:=M8) (fun t ks cs x h1 h2=>ih m t ks cs x h1 h2) yb fs.toList 0 ks h (fun f OL=>by
    obtain⟨i,hi⟩:=aoS OL
    have my:fs[i]? =some f:=by simpa using hi
    have aO:i<fs.size:=(apd.1 my).1
    exact⟨_,(hf i f my).trans (aoh (by omega))⟩)
   simpa using this
  ·rename_i n e hu
   obtain⟨xs,m,_,_,yb,aZ,hf⟩:=DataW.trod_array hu hx
   exact OK (enc:=enc) (w:=w) (base:=base) (spare:=spare) (held:=held) (m:=m) (fun t ks cs x h1 h2=>ih m t ks cs x h1 h2) h yb (fun i hi=>⟨_,(hf i hi).trans (aoh (by omega))⟩)
  ·cases h
theorem Lb{size:Nat}(hs:0<size):∀ (rows:List (List Value)),(∀r∈rows,r.length=size)→∀ (i j:Nat) (r:List Value),rows[i]? =some r→j<size→rows.flatten[i*size+j]? =r[j]? :=by
 intro rows
 induction rows with
 |nil=>intro _ i j r h;simp at h
 |cons q rows ih=>
  intro hl i j r hi hj
  have hq:=hl q ao5
  rw[apc]
  cases i with
  |zero=>
   simp only[aoM,aos]at hi
   subst hi
   rw[ao0,aoi,aox (by omega)]
  |succ i=>
   have e:(i+1)*size+j - q.length=i*size+j:=by rw[apB,Nat.one_mul,hq];omega
   rw[aoK (by rw[apB,Nat.one_mul,hq];omega),e]
   exact ih (fun x hx=>hl x (aoQ _ hx)) i j r (by simpa using hi) hj
theorem Dy{size:Nat}:∀ (rows:List (List Value)),(∀r∈rows,r.length=size)→rows.flatten.length=rows.length*size:=by
 intro rows
 induction rows with
 |nil=>simp
 |cons q rows ih=>
  intro hl
  rw[apc,aor,ih fun x hx=>hl x (aoQ _ hx),hl q ao5,aoD,apB,Nat.one_mul,Nat.add_comm]
theorem M9{a:Addr}{v:Value}(h:w.cell? a=some v):a.spot=none∧∃l,Hp.rd w.heap a.block=some l∧l[a.off]? =some v:=by
 unfold World.cell? at h
 unfold Hp.rd
 split at h
 ·rename_i c t fr hb
  split at h
  ·cases h
  ·rename_i hs
   refine⟨by simpa using hs,c.toList,by rw[hb],by simpa using h⟩
 ·cases h
theorem PG{d cW:Nat}{t e:TypeId}{ks:List Kd}{cs:List Value}{x:DataW H×List MemPlace}(hu:P.underlying t=some (.slice e))(hk:IC P d e=some ks)(hl:ks.length=P.cellsOf e)(h0:ks.length≠0)
  (hx:DataW.trod enc P w base spare held cW t cs=some x):∃v,cs=[v]∧Ro w.heap (.sl ks) v:=by
 rcases DataW.trod_slice hu hx with ⟨rfl,_⟩| ⟨a,len,cap,ahR,rest,n,_,rfl,_,hb,nT,hm,aZ,Vm,_,_⟩
 ·exact⟨_,rfl,[],⟨by simp,.inl ⟨rfl,none,0,rfl⟩⟩,(by intro r hr;cases hr),by simp,none,0,rfl,by simp⟩
 ·refine⟨_,rfl,?_⟩
  have each:∀i,i<len→∃r,nB M8 ks r∧r.length=ks.length∧∀j,j<ks.length→w.cell? ((a.add (i*ks.length)).add j)=r[j]? :=by
   intro i hi
   have h1:=Vm i hi
   rw[aoh (by omega)]at h1
   obtain⟨r,hr,hy⟩:=Option.bind_eq_some_iff.1 h1
   have hf:=PF d n e ks r _ hk hy
   obtain⟨_,h2,h3⟩:=World.cells?_some hr
   refine⟨r,hf,La hf,fun j hj=>?_⟩
   rw[hl]
   exact h3 j (by omega)
  have Wr:∀m,m≤len→∃rows:List (List Value),rows.length=m∧∀i r,rows[i]? =some r→nB M8 ks r∧r.length=ks.length∧∀j,j<ks.length→w.cell? ((a.add (i*ks.length)).add j)=r[j]? :=by
   intro m
   induction m with
   |zero=>intro _;exact⟨[],rfl,fun i r h=>by simp at h⟩
   |succ m ih=>
    intro hm'
    obtain⟨rows,h1,h2⟩:=ih (by omega)
    obtain⟨r,hr⟩:=each m (by omega)
    refine⟨rows++[r],by simp[h1],fun i q hq=>?_⟩
    by_cases hi:i<m
    ·rw[aox (by omega)]at hq
     exact h2 i q hq
    ·rw[aoK (by omega)]at hq
     have:i - rows.length=0:=by
      rcases ap5 (i - rows.length)with h|h
      ·exact h
      ·rw[aoz (by simp;omega)]at hq;cases hq
     rw[this]at hq
     simp only[aoM,aos]at hq
     subst hq
     rw[show i=m by omega]
     exact hr
  obtain⟨rows,Ws,Dz⟩:=Wr len (aov _)
  have Rp:∀r∈rows,r.length=ks.length:=fun r hr=>by
   obtain⟨i,hi⟩:=aoS hr
   exact(Dz i r hi).2.1
  refine⟨rows,?_,fun r hr=>?_,by omega,a,cap,by rw[Ws],by omega⟩
  ·refine⟨Dy rows Rp,?_⟩
   rw[Ws]
   by_cases hz:len=0
   ·subst hz
    exact .inl ⟨rfl,_,_,rfl⟩
   ·right
    have gh:0<ks.length:=Nat.pos_of_ne_zero h0
    obtain⟨r0,Wt⟩:∃r,rows[0]? =some r:=⟨_,aoh (by omega)⟩
    obtain⟨_,Vn,kE⟩:=Dz 0 r0 Wt
    have hc:=kE 0 gh
    rw[aoh (by omega)]at hc
    obtain⟨hs,l,eW,_⟩:=M9 hc
    have aaw:a.spot=none:=by
     simp only[ao0]at hs
     simpa[Addr.add]using hs
    have Rq:∀i j,((a.add i).add j)=⟨a.block,a.off+i+j,none⟩:=fun i j=>by rw[Fu aaw,zw]
    rw[Rq]at eW
    have get:∀k,k<len*ks.length→l[a.off+k]? =rows.flatten[k]? :=by
     intro k Lc
     obtain⟨r,hr⟩:∃r,rows[k / ks.length]? =some r:=⟨_,aoh (by
      rw[Ws];exact Nat.div_lt_of_lt_mul (by rw[Nat.mul_comm];exact Lc))⟩
     obtain⟨_,sG,vC⟩:=Dz _ r hr
     have TQ:=Nat.mod_lt k gh
     have Fv:=vC (k%ks.length) TQ
     rw[aoh (by omega)]at Fv
     rw[Rq]at Fv
     have YY:=nA (w:=w) (a:=⟨a.block,a.off+k / ks.length*ks.length+k%ks.length,none⟩) rfl eW
     have hf:=Lb gh rows Rp _ _ r hr TQ
     have ek:k / ks.length*ks.length+k%ks.length=k:=by rw[Nat.mul_comm];exact Nat.div_add_mod k ks.length
     rw[ek]at hf
     have afd:=YY.symm.trans Fv
     rw[hf]
     refine Eq.trans ?_ (afd.trans (aoh (by omega)).symm)
     exact aoE (fun z=>l[z]?) (by show a.off+k=a.off+k / ks.length*ks.length+k%ks.length;omega)
    have hfl:=Dy rows Rp
    have jf:=get (len*ks.length - 1) (by
     have:0<len*ks.length:=Nat.mul_pos (Nat.pos_of_ne_zero hz) gh
     omega)
    have ahS:0<len*ks.length:=Nat.mul_pos (Nat.pos_of_ne_zero hz) gh
    have oQ:a.off+(len*ks.length - 1)<l.length:=by
     rcases apA (a.off+(len*ks.length - 1)) l.length with h'|h'
     ·exact h'
     ·rw[aoz h',aoh (by rw[hfl,Ws];omega)]at jf;cases jf
    refine⟨a.block,a.off,cap,l,?_,eW,by omega,?_⟩
    ·cases a;simp_all
    ·apply ao8
     intro k
     rw[aoV]
     split
     ·rename_i Lc
      rw[aoW]
      exact get k Lc
     ·rw[aoz (by rw[hfl,Ws];omega)]
  ·obtain⟨i,hi⟩:=aoS hr
   exact(Dz i r hi).1
theorem Ld:∀ (d:Nat) (cW:Nat) (t:TypeId) (ps:List Pc) (cs:List Value) (x:DataW H×List MemPlace),HD P d t=some ps→DataW.trod enc P w base spare held cW t cs=some x→nB (Ro w.heap) ps cs:=by
 intro d
 induction d with
 |zero=>intro cW t ks cs x h;cases h
 |succ d ih=>
  intro cW t ks cs x h hx
  unfold HD at h
  split at h
  ·rename_i k hu
   injection h with h;subst h
   obtain⟨n,rfl,_,hw⟩:=DataW.trod_int hu hx
   exact⟨_,[],rfl,⟨n,rfl,hw⟩,rfl⟩
  ·rename_i hu
   injection h with h;subst h
   obtain⟨b,rfl,_⟩:=DataW.trod_bool hu hx
   exact⟨_,[],rfl,⟨b,rfl⟩,rfl⟩
  ·rename_i hu
   injection h with h;subst h
   obtain⟨s,rfl,_,hw⟩:=DataW.trod_string hu hx
   exact⟨_,[],rfl,⟨s,rfl,hw⟩,rfl⟩
  ·rename_i e hu
   split at h
   ·rename_i ks1 hk
    split at h
    ·rename_i hc
     injection h with h;subst h
     obtain⟨v,rfl,hv⟩:=PG hu hk hc.1 hc.2 hx
     exact⟨v,[],rfl,hv,rfl⟩
    ·cases h
   ·cases h
  ·rename_i fs hu
   obtain⟨xs,m,_,_,yb,aZ,hf⟩:=DataW.trod_struct hu hx
   have:=OJ (enc:=enc) (w:=w) (base:=base) (spare:=spare) (held:=held) (n:=m) (φ:=Ro w.heap) (fun t ks cs x h1 h2=>ih m t ks cs x h1 h2) yb fs.toList 0 ks h (fun f OL=>by
    obtain⟨i,hi⟩:=aoS OL
    have my:fs[i]? =some f:=by simpa using hi
    have aO:i<fs.size:=(apd.1 my).1
    exact⟨_,(hf i f my).trans (aoh (by omega))⟩)
   simpa using this
  ·rename_i n e hu
   obtain⟨xs,m,_,_,yb,aZ,hf⟩:=DataW.trod_array hu hx
   exact OK (enc:=enc) (w:=w) (base:=base) (spare:=spare) (held:=held) (m:=m) (fun t ks cs x h1 h2=>ih m t ks cs x h1 h2) h yb (fun i hi=>⟨_,(hf i hi).trans (aoh (by omega))⟩)
  ·cases h
def Wu(P:Program)(t:TypeId):Option (Bool×List Pc):=
 match P.underlying t with
 |some (.struct _)|some (.array _ _)=>(HD P 8 t).map (true,·)
 |some (.int _)|some .bool|some .string|some (.slice _)=>(HD P 8 t).map (false,·)
 |_=>none
def HE(Hh:Hp):Bool×List Pc→Value→Prop
 | (true,ps),v=>∃cs:List Value,v= .agg cs.toArray∧nB (Ro Hh) ps cs
 | (false,ps),v=>nB (Ro Hh) ps [v]
def ID(P:Program):List TypeId→Option (List (Bool×List Pc))
 | []=>some []
 |t::ts=>match Wu P t with
  |some a=>(ID P ts).map (a:: ·)
  |none=>none
theorem Rr{r:Reach}{b0:Nat}{t:TypeId}{v:Value}{d:DataW H}{ps:List MemPlace}{a:Bool×List Pc}(ha:Wu P t=some a)(tW:Value.okWide P w r b0 t v)(h:DataW.Trod enc P w base spare held t v d ps):HE w.heap a v:=by
 obtain⟨cW,hf⟩:=h
 unfold Wu at ha
 cases hu:P.underlying t with
 |none=>rw[hu]at ha;cases ha
 |some ty=>
  rw[hu]at ha
  have agg:(∃cs,v= .agg cs∧cs.size=P.cellsOf t∧Row.okWide P w r b0 t cs)→(HD P 8 t).map (true,·)=some a→HE w.heap a v:=by
   rintro⟨cs,rfl,_⟩ ha
   cases hp:HD P 8 t with
   |none=>rw[hp]at ha;cases ha
   |some ps=>
    rw[hp]at ha
    simp only[Option.map_some,aos]at ha
    subst ha
    exact⟨cs.toList,rfl,Ld 8 cW t ps _ _ hp hf⟩
  have one:v.cells.toList=[v]→(HD P 8 t).map (false,·)=some a→HE w.heap a v:=by
   intro hv ha
   cases hp:HD P 8 t with
   |none=>rw[hp]at ha;cases ha
   |some ps=>
    rw[hp]at ha
    simp only[Option.map_some,aos]at ha
    subst ha
    rw[hv]at hf
    exact Ld 8 cW t ps _ _ hp hf
  cases ty with
  |struct fs=>unfold Value.okWide at tW;rw[hu]at tW;exact agg tW ha
  |array n e=>unfold Value.okWide at tW;rw[hu]at tW;exact agg tW ha
  |int k=>obtain⟨n,rfl⟩:=okWide_int hu tW;exact one rfl ha
  |bool=>obtain⟨n,rfl⟩:=okWide_bool hu tW;exact one rfl ha
  |string=>obtain⟨n,rfl⟩:=okWide_string hu tW;exact one rfl ha
  |slice e=>obtain⟨x,y,z,rfl⟩:=okWide_slice hu tW;exact one rfl ha
  |_=>cases ha
theorem PH{r:Reach}{b0:Nat}:∀ {ts:List TypeId} {vs:List Value} {ds:List (DataW H)} {ps:List MemPlace} {TR:List (Bool×List Pc)},ID P ts=some TR→
  (∀ (j:Nat) t v,ts[j]? =some t→vs[j]? =some v→Value.okWide P w r b0 t v)→DataW.TrodAll enc P w base spare held ts vs ds ps→nB (HE w.heap) TR vs:=by
 intro ts
 induction ts with
 |nil=>
  intro vs ds ps TR ha _ h
  obtain⟨rfl,rfl,rfl⟩:=trodAll_nil h
  simp only[ID,aos]at ha
  subst ha
  rfl
 |cons t ts ih=>
  intro vs ds ps TR ha tW h
  obtain⟨v,vs',d,ds',p,q,rfl,rfl,rfl,h1,h2⟩:=trodAll_cons h
  unfold ID at ha
  split at ha
  ·rename_i a QQ
   cases hr:ID P ts with
   |none=>rw[hr]at ha;cases ha
   |some aj3=>
    rw[hr]at ha
    simp only[Option.map_some,aos]at ha
    subst ha
    exact⟨v,vs',rfl,Rr QQ (tW 0 t v rfl rfl) h1,ih hr (fun j t' v' hj hv=>tW (j+1) t' v' (by simpa using hj) (by simpa using hv)) h2⟩
  ·cases ha
theorem Le:∀ {ts:List TypeId} {vs:List Value} {ds:List (DataW H)} {ps:List MemPlace},DataW.TrodAll enc P w base spare held ts vs ds ps→ds.length=ts.length:=by
 intro ts
 induction ts with
 |nil=>intro vs ds ps h;obtain⟨rfl,rfl,rfl⟩:=trodAll_nil h;rfl
 |cons t ts ih=>intro vs ds ps h;obtain⟨v,vs',d,ds',p,q,rfl,rfl,rfl,h1,h2⟩:=trodAll_cons h;simp[ih h2]
theorem HF(hl:laidOutB P=true):∀ {ts:List TypeId} {vs:List Value} {ds:List (DataW H)} {ps:List MemPlace} {W W':World} {sp':Nat→Bool},(∀t∈ts,P.readableRec t=true∧t<P.types.size)→
  DataW.TrodAll enc P W base (fun _=>true) true ts vs ds ps→(∀p∈ps,W.sameAt W' p)→(∀p∈ps,sp' p.block=true)→DataW.TrodAll enc P W' base sp' true ts vs ds ps:=by
 intro ts
 induction ts with
 |nil=>intro vs ds ps W W' sp' _ h _ _;obtain⟨rfl,rfl,rfl⟩:=trodAll_nil h;rfl
 |cons t ts ih=>
  intro vs ds ps W W' sp' ht h h1 h2
  obtain⟨v,vs',d,ds',p,q,rfl,rfl,rfl,g1,g2⟩:=trodAll_cons h
  exact trodAll_cons_mk (WideElems.Trod_stays hl (ht t ao5).1 (ht t ao5).2 g1 (fun x hx=>h1 x (aoy _ hx)) (fun x hx=>h2 x (aoy _ hx)))
   (ih (fun t' TS=>ht t' (aoQ _ TS)) g2 (fun x hx=>h1 x (ape _ hx)) (fun x hx=>h2 x (ape _ hx)))
theorem HG{W W':World}(hf:ah W.heap W'.heap){p:MemPlace}(hp:p.block<W.heap.size):W.sameAt W' p:=by
 cases p with
 |cell b o=>exact World.cell?_of_block (w:=W) (hf.aM b hp (fun h=>h))
 |map b=>exact hf.aM b hp (fun h=>h)
end
theorem Jw{C:Checked}{f:FuncId}{fn:Func}{s:ChangeSpec}{shs:List (Bool×List Pc)}{tb:TypeId}{H:Type}{enc:TypeId×Value→H}(hT:ID C.prog fn.params.toList=some shs)(KI:s.vars=[])
  (aax:∀ds:List (DataW H),ds.length=fn.params.size→s.fn H ds={results:=[.lit (.bool true)],args:=ds})(E8:fn.resultTypes= #[tb])(Vo:C.prog.underlying tb=some .bool)(laid:laidOutB C.prog=true)
  (aay:(fn.params.toList.all fun t=>C.prog.readableRec t && decide (t<C.prog.types.size))=true)
  (walk:∀ (args:List Value) (Hh:Hp),nB (HE Hh) shs args→af C.prog f args Hh fun v H'=>aw (v= .bool true∧ah Hh H'))
  {W:World}{base:Nat}{args:Array Value}{ds gs:List (DataW H)}{before:List MemPlace}(Rs:∀ (j:Nat) t v,fn.params[j]? =some t→args[j]? =some v→Value.okWide C.prog W .any base t v)
  (hW:DataW.Whole enc C.prog fn.params.toList s.vars false W args.toList ds gs before):
  Calls C.prog f args W fun e W'=>∃v,e= .returned v∧s.post enc C.prog fn false true false false W args v W':=by
 have hW':=hW
 obtain⟨p,q,hA,hV,rfl,hfz,gA⟩:=hW
 have hV':=hV
 rw[KI]at hV'
 obtain⟨rfl,rfl⟩:=trodVars_none hV'
 have aff:=PH (b0:=base) (r:=.any) hT (fun j t v hj hv=>Rs j t v (by simpa using hj) (by simpa using hv)) hA
 have aZ:=Le hA
 have aO:=hW'.lt
 have hc:=af.law (walk args.toList W.heap aff)
 rw[apT]at hc
 refine hc.mono fun e W' ⟨he,hs,Wv⟩=>?_
 subst he
 have B1:s.fn H (ds++[])={results:=[.lit (.bool true)],args:=ds}:=by rw[apa];exact aax ds (by simpa using aZ)
 have Ww:∀t∈fn.params.toList,C.prog.readableRec t=true∧t<C.prog.types.size:=fun t ht=>by
  have:=(apn.1 aay) t ht
  simpa using this
 refine⟨_,rfl,G1 (pa:=p) (pv:=[]) hW' (fun b sp hd=>?_) (fun sp aaz=>?_) (fun sp aaz=>by rw[KI,B1];rfl) rfl hs Wv ?_⟩
 ·rw[B1,E8]
  exact trodAll_cons_mk (shut_bool Vo _) trodAll_mk0
 ·rw[B1]
  exact HF laid Ww hA (fun x hx=>HG Wv (aO x (aoy _ hx))) (fun x hx=>aaz x (aoy _ hx))
 ·exact ok_one E8 rfl (okWide_bool_mk Vo _)
end Go.Vc
