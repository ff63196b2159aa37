/- Texts put behind each other. -/
import Derived.Test.YthpjfeolagohkaaGreatK98
import Derived.Test.YthpjfeolagohkaaGreatK13
import Derived.WideKeyArgs
import Derived.OpenShut
import Derived.ChangeArms
import Derived.ChangeOld
import Derived.Handed
import Derived.RowKit
import Derived.DataReads
set_option maxRecDepth 100000
set_option maxHeartbeats 8000000
set_option linter.unusedVariables false
namespace Go.Vc
open Go.ChangeShapes Go.WideShapes Go.RowKit
theorem ah.then{S:Nat→Prop}{A B C:Hp}(h:ah A B)(k:ag S B C)(hs:∀z,S z→A.size≤z):ah A C:=
 h.pL k fun z hz Ps=>absurd (hs z Ps) (by omega)
theorem ag.then{S:Nat→Prop}{A B C:Hp}(h:ag (fun _=>False) A B)(k:ag S B C)(hs:∀z,S z→A.size≤z):ah A C:=ah.then h k hs
inductive Kd where
 |i(k:IntKind)|b|s
 deriving Inhabited
def Om:Kd→Value→Prop
 | .i k,v=>∃n,v= .int k n∧(Lit.int k n).wf=true
 | .b,v=>∃b,v= .bool b
 | .s,v=>∃s:ByteArray,v= .string s∧s.size≤maxLen
def nk{α:Type}(φ:α→Value→Prop):List α→List Value→Prop
 | [],cs=>cs=[]
 |k::ks,cs=>∃v r,cs=v::r∧φ k v∧nk φ ks r
theorem MA{α:Type}{φ:α→Value→Prop}:∀ {ks:List α} {cs:List Value},nk φ ks cs→cs.length=ks.length:=by
 intro ks
 induction ks with
 |nil=>intro cs h;simp[nk]at h;simp[h]
 |cons k ks ih=>intro cs h;obtain⟨v,r,rfl,_,h⟩:=h;simp[ih h]
theorem Eu{α:Type}{φ:α→Value→Prop}:∀ {ks wk:List α} {cs cs':List Value},nk φ ks cs→nk φ wk cs'→nk φ (ks++wk) (cs++cs'):=by
 intro ks
 induction ks with
 |nil=>intro wk cs cs' h h';simp[nk]at h;subst h;simpa using h'
 |cons k ks ih=>intro wk cs cs' h h';obtain⟨v,r,rfl,h1,h⟩:=h;exact⟨v,r++cs',rfl,h1,ih h h'⟩
inductive Pc where
 |k(x:Kd)
 |sl(ks:List Kd)
 deriving Inhabited
def Sw(H:Hp):Pc→Value→Prop
 | .k x,v=>Om x v
 | .sl ks,v=>∃rows:List (List Value),db H ks.length v rows.length rows.flatten∧(∀r∈rows,nk Om ks r)∧rows.length≤maxLen∧∃a c,v= .slice a rows.length c∧rows.length≤c
def X3{α:Type}(P:Program)(go:TypeId→Option (List α))(total:Nat):Nat→List Field→Option (List α)
 |off,[]=>if off=total then some []else none
 |off,f::fs=>match go f.type with
  |some ks=>if f.offset=off∧ks.length=P.cellsOf f.type then(X3 P go total (off+P.cellsOf f.type) fs).map (ks++ ·)else none
  |none=>none
def arT{α:Type}(P:Program)(go:TypeId→Option (List α))(t:TypeId)(n:Nat)(e:TypeId):Option (List α):=
 match go e with
 |some ks=>if ks.length=P.cellsOf e∧P.cellsOf t=n*P.cellsOf e then some (List.replicate n ks).flatten else none
 |none=>none
def Jx(P:Program):Nat→TypeId→Option (List Kd)
 |0,_=>none
 |d+1,t=>match P.underlying t with
  |some (.int k)=>some [.i k]
  |some .bool=>some [.b]
  |some .string=>some [.s]
  |some (.struct fs)=>X3 P (Jx P d) (P.cellsOf t) 0 fs.toList
  |some (.array n e)=>arT P (Jx P d) t n e
  |_=>none
def IG(P:Program):Nat→TypeId→Option (List Pc)
 |0,_=>none
 |d+1,t=>match P.underlying t with
  |some (.int k)=>some [.k (.i k)]
  |some .bool=>some [.k .b]
  |some .string=>some [.k .s]
  |some (.slice e)=>match Jx P d e with
   |some ks=>if ks.length=P.cellsOf e∧ks.length≠0 then some [.sl ks]else none
   |none=>none
  |some (.struct fs)=>X3 P (IG P d) (P.cellsOf t) 0 fs.toList
  |some (.array n e)=>arT P (IG P d) t n e
  |_=>none
section
variable {H : Type} {enc : TypeId × Value → H} {P : Program} {w : World} {base : Nat} {spare : Nat → Bool} {held : Bool}
theorem PC{α:Type}{φ:α→Value→Prop}{go:TypeId→Option (List α)}{total n:Nat}{cs:List Value}(X4:∀t ks cs x,go t=some ks→DataW.trod enc P w base spare held n t cs=some x→nk φ ks cs)(yJ:cs.length=total):
  ∀ (fs:List Field) (off:Nat) (ks:List α),X3 P go total off fs=some ks→(∀f∈fs,∃y,DataW.trod enc P w base spare held n f.type ((cs.drop f.offset).take (P.cellsOf f.type))=some y)→nk φ ks (cs.drop off):=by
 intro fs
 induction fs with
 |nil=>
  intro off ks h _
  unfold X3 at h
  split at h
  ·rename_i e
   injection h with h
   subst h
   show cs.drop off=[]
   rw[e,←yJ];simp
  ·cases h
 |cons f fs ih=>
  intro off ks h hf
  unfold X3 at h
  split at h
  ·rename_i ks1 hk
   split at h
   ·rename_i hc
    cases hr:X3 P go total (off+P.cellsOf f.type) fs with
    |none=>rw[hr]at h;cases h
    |some ks2=>
     rw[hr]at h
     simp only[Option.map_some,aqk]at h
     subst h
     obtain⟨y,hy⟩:=hf f aq9
     have h1:=X4 _ _ _ _ hk hy
     have h2:=ih _ _ hr fun g hg=>hf g (aq1 _ hg)
     rw[hc.1]at h1
     have h3:=Eu h1 h2
     rw[show cs.drop (off+P.cellsOf f.type)=(cs.drop off).drop (P.cellsOf f.type) by rw[ar3],arF]at h3
     exact h3
   ·cases h
  ·cases h
theorem PD{α:Type}{φ:α→Value→Prop}{go:TypeId→Option (List α)}{n m:Nat}{t e:TypeId}{cs:List Value}{ks:List α}(X4:∀t ks cs x,go t=some ks→DataW.trod enc P w base spare held m t cs=some x→nk φ ks cs)
  (h:arT P go t n e=some ks)(yJ:cs.length=P.cellsOf t)(hx:∀i,i<n→∃y,DataW.trod enc P w base spare held m e ((cs.drop (i*P.cellsOf e)).take (P.cellsOf e))=some y):nk φ ks cs:=by
 unfold arT at h
 split at h
 ·rename_i ks1 hk
  split at h
  ·rename_i hc
   injection h with h
   subst h
   have key:∀j,j≤n→nk φ (List.replicate j ks1).flatten (cs.drop ((n - j)*P.cellsOf e)):=by
    intro j
    induction j with
    |zero=>
     intro _
     show cs.drop _=[]
     rw[Nat.sub_zero,←hc.2,←yJ];simp
    |succ j ih=>
     intro hj
     obtain⟨y,hy⟩:=hx (n - (j+1)) (by omega)
     have h1:=X4 _ _ _ _ hk hy
     have h3:=Eu h1 (ih (by omega))
     have e1:(n - j)*P.cellsOf e=(n - (j+1))*P.cellsOf e+P.cellsOf e:=by
      rw[show n - j=(n - (j+1))+1 by omega,arn,Nat.one_mul]
     rw[e1,←ar3,arF]at h3
     rw[aqQ,aq4]
     exact h3
   have:=key n (aqm _)
   simpa using this
  ·cases h
 ·cases h
theorem QK:∀ (d:Nat) (c9:Nat) (t:TypeId) (ks:List Kd) (cs:List Value) (x:DataW H×List MemPlace),Jx P d t=some ks→DataW.trod enc P w base spare held c9 t cs=some x→nk Om ks cs:=by
 intro d
 induction d with
 |zero=>intro c9 t ks cs x h;cases h
 |succ d ih=>
  intro c9 t ks cs x h hx
  unfold Jx at h
  split at h
  ·rename_i k hu
   injection h with h;subst h
   obtain⟨n,rfl,_,hw⟩:=DataW.trod_int hu hx
   exact⟨_,[],rfl,⟨n,rfl,hw⟩,rfl⟩
  ·rename_i hu
   injection h with h;subst h
   obtain⟨b,rfl,_⟩:=DataW.trod_bool hu hx
   exact⟨_,[],rfl,⟨b,rfl⟩,rfl⟩
  ·rename_i hu
   injection h with h;subst h
   obtain⟨s,rfl,_,hw⟩:=DataW.trod_string hu hx
   exact⟨_,[],rfl,⟨s,rfl,hw⟩,rfl⟩
  ·rename_i fs hu
   obtain⟨xs,m,_,_,yJ,bf,hf⟩:=DataW.trod_struct hu hx
   have:=PC (enc:=enc) (w:=w) (base:=base) (spare:=spare) (held:=held) (n:=m) (φ:=Om) (fun t ks cs x h1 h2=>ih m t ks cs x h1 h2) yJ fs.toList 0 ks h (fun f Lm=>by
    obtain⟨i,hi⟩:=aqB Lm
    have ni:fs[i]? =some f:=by simpa using hi
    have aN:i<fs.size:=(aq5.1 ni).1
    exact⟨_,(hf i f ni).trans (aqb (by omega))⟩)
   simpa using this
  ·rename_i n e hu
   obtain⟨xs,m,_,_,yJ,bf,hf⟩:=DataW.trod_array hu hx
   exact PD (enc:=enc) (w:=w) (base:=base) (spare:=spare) (held:=held) (m:=m) (fun t ks cs x h1 h2=>ih m t ks cs x h1 h2) h yJ (fun i hi=>⟨_,(hf i hi).trans (aqb (by omega))⟩)
  ·cases h
theorem MB{size:Nat}(hs:0<size):∀ (rows:List (List Value)),(∀r∈rows,r.length=size)→∀ (i j:Nat) (r:List Value),rows[i]? =some r→j<size→rows.flatten[i*size+j]? =r[j]? :=by
 intro rows
 induction rows with
 |nil=>intro _ i j r h;simp at h
 |cons q rows ih=>
  intro hl i j r hi hj
  have hq:=hl q aq9
  rw[aq4]
  cases i with
  |zero=>
   simp only[aqE,aqk]at hi
   subst hi
   rw[aqT,aqa,aqs (by omega)]
  |succ i=>
   have e:(i+1)*size+j - q.length=i*size+j:=by rw[arn,Nat.one_mul,hq];omega
   rw[aqD (by rw[arn,Nat.one_mul,hq];omega),e]
   exact ih (fun x hx=>hl x (aq1 _ hx)) i j r (by simpa using hi) hj
theorem Ew{size:Nat}:∀ (rows:List (List Value)),(∀r∈rows,r.length=size)→rows.flatten.length=rows.length*size:=by
 intro rows
 induction rows with
 |nil=>simp
 |cons q rows ih=>
  intro hl
  rw[aq4,aqj,ih fun x hx=>hl x (aq1 _ hx),hl q aq9,aqx,arn,Nat.one_mul,Nat.add_comm]
theorem On{a:Addr}{v:Value}(h:w.cell? a=some v):a.spot=none∧∃l,Hp.rd w.heap a.block=some l∧l[a.off]? =some v:=by
 unfold World.cell? at h
 unfold Hp.rd
 split at h
 ·rename_i c t fr hb
  split at h
  ·cases h
  ·rename_i hs
   refine⟨by simpa using hs,c.toList,by rw[hb],by simpa using h⟩
 ·cases h
theorem QL{d c9:Nat}{t e:TypeId}{ks:List Kd}{cs:List Value}{x:DataW H×List MemPlace}(hu:P.underlying t=some (.slice e))(hk:Jx P d e=some ks)(hl:ks.length=P.cellsOf e)(h0:ks.length≠0)
  (hx:DataW.trod enc P w base spare held c9 t cs=some x):∃v,cs=[v]∧Sw w.heap (.sl ks) v:=by
 rcases DataW.trod_slice hu hx with ⟨rfl,_⟩| ⟨a,len,cap,ajo,rest,n,_,rfl,_,hb,oP,hm,bf,hel,_,_⟩
 ·exact⟨_,rfl,[],⟨by simp,.inl ⟨rfl,none,0,rfl⟩⟩,(by intro r hr;cases hr),by simp,none,0,rfl,by simp⟩
 ·refine⟨_,rfl,?_⟩
  have each:∀i,i<len→∃r,nk Om ks r∧r.length=ks.length∧∀j,j<ks.length→w.cell? ((a.add (i*ks.length)).add j)=r[j]? :=by
   intro i hi
   have h1:=hel i hi
   rw[aqb (by omega)]at h1
   obtain⟨r,hr,hy⟩:=Option.bind_eq_some_iff.1 h1
   have hf:=QK d n e ks r _ hk hy
   obtain⟨_,h2,h3⟩:=World.cells?_some hr
   refine⟨r,hf,MA hf,fun j hj=>?_⟩
   rw[hl]
   exact h3 j (by omega)
  have X5:∀m,m≤len→∃rows:List (List Value),rows.length=m∧∀i r,rows[i]? =some r→nk Om ks r∧r.length=ks.length∧∀j,j<ks.length→w.cell? ((a.add (i*ks.length)).add j)=r[j]? :=by
   intro m
   induction m with
   |zero=>intro _;exact⟨[],rfl,fun i r h=>by simp at h⟩
   |succ m ih=>
    intro hm'
    obtain⟨rows,h1,h2⟩:=ih (by omega)
    obtain⟨r,hr⟩:=each m (by omega)
    refine⟨rows++[r],by simp[h1],fun i q hq=>?_⟩
    by_cases hi:i<m
    ·rw[aqs (by omega)]at hq
     exact h2 i q hq
    ·rw[aqD (by omega)]at hq
     have:i - rows.length=0:=by
      rcases arH (i - rows.length)with h|h
      ·exact h
      ·rw[aqo (by simp;omega)]at hq;cases hq
     rw[this]at hq
     simp only[aqE,aqk]at hq
     subst hq
     rw[show i=m by omega]
     exact hr
  obtain⟨rows,X6,Ex⟩:=X5 len (aqm _)
  have Sx:∀r∈rows,r.length=ks.length:=fun r hr=>by
   obtain⟨i,hi⟩:=aqB hr
   exact(Ex i r hi).2.1
  refine⟨rows,?_,fun r hr=>?_,by omega,a,cap,by rw[X6],by omega⟩
  ·refine⟨Ew rows Sx,?_⟩
   rw[X6]
   by_cases hz:len=0
   ·subst hz
    exact .inl ⟨rfl,_,_,rfl⟩
   ·right
    have gA:0<ks.length:=Nat.pos_of_ne_zero h0
    obtain⟨r0,X7⟩:∃r,rows[0]? =some r:=⟨_,aqb (by omega)⟩
    obtain⟨_,Ww,jW⟩:=Ex 0 r0 X7
    have hc:=jW 0 gA
    rw[aqb (by omega)]at hc
    obtain⟨hs,l,fU,_⟩:=On hc
    have acb:a.spot=none:=by
     simp only[aqT]at hs
     simpa[Addr.add]using hs
    have Sy:∀i j,((a.add i).add j)=⟨a.block,a.off+i+j,none⟩:=fun i j=>by rw[GG acb,zc]
    rw[Sy]at fU
    have get:∀k,k<len*ks.length→l[a.off+k]? =rows.flatten[k]? :=by
     intro k MC
     obtain⟨r,hr⟩:∃r,rows[k / ks.length]? =some r:=⟨_,aqb (by
      rw[X6];exact Nat.div_lt_of_lt_mul (by rw[Nat.mul_comm];exact MC))⟩
     obtain⟨_,uF,sI⟩:=Ex _ r hr
     have U9:=Nat.mod_lt k gA
     have GH:=sI (k%ks.length) U9
     rw[aqb (by omega)]at GH
     rw[Sy]at GH
     have hcr:=nS (w:=w) (a:=⟨a.block,a.off+k / ks.length*ks.length+k%ks.length,none⟩) rfl fU
     have hf:=MB gA rows Sx _ _ r hr U9
     have ek:k / ks.length*ks.length+k%ks.length=k:=by rw[Nat.mul_comm];exact Nat.div_add_mod k ks.length
     rw[ek]at hf
     have agI:=hcr.symm.trans GH
     rw[hf]
     refine Eq.trans ?_ (agI.trans (aqb (by omega)).symm)
     exact aqv (fun z=>l[z]?) (by show a.off+k=a.off+k / ks.length*ks.length+k%ks.length;omega)
    have Wx:=Ew rows Sx
    have jk:=get (len*ks.length - 1) (by
     have:0<len*ks.length:=Nat.mul_pos (Nat.pos_of_ne_zero hz) gA
     omega)
    have ajp:0<len*ks.length:=Nat.mul_pos (Nat.pos_of_ne_zero hz) gA
    have o8:a.off+(len*ks.length - 1)<l.length:=by
     rcases arm (a.off+(len*ks.length - 1)) l.length with h'|h'
     ·exact h'
     ·rw[aqo h',aqb (by rw[Wx,X6];omega)]at jk;cases jk
    refine⟨a.block,a.off,cap,l,?_,fU,by omega,?_⟩
    ·cases a;simp_all
    ·apply aqX
     intro k
     rw[aqG]
     split
     ·rename_i MC
      rw[aqJ]
      exact get k MC
     ·rw[aqo (by rw[Wx,X6];omega)]
  ·obtain⟨i,hi⟩:=aqB hr
   exact(Ex i r hi).1
theorem MD:∀ (d:Nat) (c9:Nat) (t:TypeId) (ps:List Pc) (cs:List Value) (x:DataW H×List MemPlace),IG P d t=some ps→DataW.trod enc P w base spare held c9 t cs=some x→nk (Sw w.heap) ps cs:=by
 intro d
 induction d with
 |zero=>intro c9 t ks cs x h;cases h
 |succ d ih=>
  intro c9 t ks cs x h hx
  unfold IG at h
  split at h
  ·rename_i k hu
   injection h with h;subst h
   obtain⟨n,rfl,_,hw⟩:=DataW.trod_int hu hx
   exact⟨_,[],rfl,⟨n,rfl,hw⟩,rfl⟩
  ·rename_i hu
   injection h with h;subst h
   obtain⟨b,rfl,_⟩:=DataW.trod_bool hu hx
   exact⟨_,[],rfl,⟨b,rfl⟩,rfl⟩
  ·rename_i hu
   injection h with h;subst h
   obtain⟨s,rfl,_,hw⟩:=DataW.trod_string hu hx
   exact⟨_,[],rfl,⟨s,rfl,hw⟩,rfl⟩
  ·rename_i e hu
   split at h
   ·rename_i ks1 hk
    split at h
    ·rename_i hc
     injection h with h;subst h
     obtain⟨v,rfl,hv⟩:=QL hu hk hc.1 hc.2 hx
     exact⟨v,[],rfl,hv,rfl⟩
    ·cases h
   ·cases h
  ·rename_i fs hu
   obtain⟨xs,m,_,_,yJ,bf,hf⟩:=DataW.trod_struct hu hx
   have:=PC (enc:=enc) (w:=w) (base:=base) (spare:=spare) (held:=held) (n:=m) (φ:=Sw w.heap) (fun t ks cs x h1 h2=>ih m t ks cs x h1 h2) yJ fs.toList 0 ks h (fun f Lm=>by
    obtain⟨i,hi⟩:=aqB Lm
    have ni:fs[i]? =some f:=by simpa using hi
    have aN:i<fs.size:=(aq5.1 ni).1
    exact⟨_,(hf i f ni).trans (aqb (by omega))⟩)
   simpa using this
  ·rename_i n e hu
   obtain⟨xs,m,_,_,yJ,bf,hf⟩:=DataW.trod_array hu hx
   exact PD (enc:=enc) (w:=w) (base:=base) (spare:=spare) (held:=held) (m:=m) (fun t ks cs x h1 h2=>ih m t ks cs x h1 h2) h yJ (fun i hi=>⟨_,(hf i hi).trans (aqb (by omega))⟩)
  ·cases h
def X8(P:Program)(t:TypeId):Option (Bool×List Pc):=
 match P.underlying t with
 |some (.struct _)|some (.array _ _)=>(IG P 8 t).map (true,·)
 |some (.int _)|some .bool|some .string|some (.slice _)=>(IG P 8 t).map (false,·)
 |_=>none
def EG(Hh:Hp):Bool×List Pc→Value→Prop
 | (true,ps),v=>∃cs:List Value,v= .agg cs.toArray∧nk (Sw Hh) ps cs
 | (false,ps),v=>nk (Sw Hh) ps [v]
def Jy(P:Program):List TypeId→Option (List (Bool×List Pc))
 | []=>some []
 |t::ts=>match X8 P t with
  |some a=>(Jy P ts).map (a:: ·)
  |none=>none
theorem Sz{r:Reach}{b0:Nat}{t:TypeId}{v:Value}{d:DataW H}{ps:List MemPlace}{a:Bool×List Pc}(ha:X8 P t=some a)(tU:Value.okWide P w r b0 t v)(h:DataW.Trod enc P w base spare held t v d ps):EG w.heap a v:=by
 obtain⟨c9,hf⟩:=h
 unfold X8 at ha
 cases hu:P.underlying t with
 |none=>rw[hu]at ha;cases ha
 |some ty=>
  rw[hu]at ha
  have agg:(∃cs,v= .agg cs∧cs.size=P.cellsOf t∧Row.okWide P w r b0 t cs)→(IG P 8 t).map (true,·)=some a→EG w.heap a v:=by
   rintro⟨cs,rfl,_⟩ ha
   cases hp:IG P 8 t with
   |none=>rw[hp]at ha;cases ha
   |some ps=>
    rw[hp]at ha
    simp only[Option.map_some,aqk]at ha
    subst ha
    exact⟨cs.toList,rfl,MD 8 c9 t ps _ _ hp hf⟩
  have one:v.cells.toList=[v]→(IG P 8 t).map (false,·)=some a→EG w.heap a v:=by
   intro hv ha
   cases hp:IG P 8 t with
   |none=>rw[hp]at ha;cases ha
   |some ps=>
    rw[hp]at ha
    simp only[Option.map_some,aqk]at ha
    subst ha
    rw[hv]at hf
    exact MD 8 c9 t ps _ _ hp hf
  cases ty with
  |struct fs=>unfold Value.okWide at tU;rw[hu]at tU;exact agg tU ha
  |array n e=>unfold Value.okWide at tU;rw[hu]at tU;exact agg tU ha
  |int k=>obtain⟨n,rfl⟩:=okWide_int hu tU;exact one rfl ha
  |bool=>obtain⟨n,rfl⟩:=okWide_bool hu tU;exact one rfl ha
  |string=>obtain⟨n,rfl⟩:=okWide_string hu tU;exact one rfl ha
  |slice e=>obtain⟨x,y,z,rfl⟩:=okWide_slice hu tU;exact one rfl ha
  |_=>cases ha
theorem QM{r:Reach}{b0:Nat}:∀ {ts:List TypeId} {vs:List Value} {ds:List (DataW H)} {ps:List MemPlace} {Va:List (Bool×List Pc)},Jy P ts=some Va→
  (∀ (j:Nat) t v,ts[j]? =some t→vs[j]? =some v→Value.okWide P w r b0 t v)→DataW.TrodAll enc P w base spare held ts vs ds ps→nk (EG w.heap) Va vs:=by
 intro ts
 induction ts with
 |nil=>
  intro vs ds ps Va ha _ h
  obtain⟨rfl,rfl,rfl⟩:=trodAll_nil h
  simp only[Jy,aqk]at ha
  subst ha
  rfl
 |cons t ts ih=>
  intro vs ds ps Va ha tU h
  obtain⟨v,vs',d,ds',p,q,rfl,rfl,rfl,h1,h2⟩:=trodAll_cons h
  unfold Jy at ha
  split at ha
  ·rename_i a R1
   cases hr:Jy P ts with
   |none=>rw[hr]at ha;cases ha
   |some alS=>
    rw[hr]at ha
    simp only[Option.map_some,aqk]at ha
    subst ha
    exact⟨v,vs',rfl,Sz R1 (tU 0 t v rfl rfl) h1,ih hr (fun j t' v' hj hv=>tU (j+1) t' v' (by simpa using hj) (by simpa using hv)) h2⟩
  ·cases ha
theorem ME:∀ {ts:List TypeId} {vs:List Value} {ds:List (DataW H)} {ps:List MemPlace},DataW.TrodAll enc P w base spare held ts vs ds ps→ds.length=ts.length:=by
 intro ts
 induction ts with
 |nil=>intro vs ds ps h;obtain⟨rfl,rfl,rfl⟩:=trodAll_nil h;rfl
 |cons t ts ih=>intro vs ds ps h;obtain⟨v,vs',d,ds',p,q,rfl,rfl,rfl,h1,h2⟩:=trodAll_cons h;simp[ih h2]
theorem IH(hl:laidOutB P=true):∀ {ts:List TypeId} {vs:List Value} {ds:List (DataW H)} {ps:List MemPlace} {W W':World} {sp':Nat→Bool},(∀t∈ts,P.readableRec t=true∧t<P.types.size)→
  DataW.TrodAll enc P W base (fun _=>true) true ts vs ds ps→(∀p∈ps,W.sameAt W' p)→(∀p∈ps,sp' p.block=true)→DataW.TrodAll enc P W' base sp' true ts vs ds ps:=by
 intro ts
 induction ts with
 |nil=>intro vs ds ps W W' sp' _ h _ _;obtain⟨rfl,rfl,rfl⟩:=trodAll_nil h;rfl
 |cons t ts ih=>
  intro vs ds ps W W' sp' ht h h1 h2
  obtain⟨v,vs',d,ds',p,q,rfl,rfl,rfl,g1,g2⟩:=trodAll_cons h
  exact trodAll_cons_mk (WideElems.Trod_stays hl (ht t aq9).1 (ht t aq9).2 g1 (fun x hx=>h1 x (aqH _ hx)) (fun x hx=>h2 x (aqH _ hx)))
   (ih (fun t' UR=>ht t' (aq1 _ UR)) g2 (fun x hx=>h1 x (arG _ hx)) (fun x hx=>h2 x (arG _ hx)))
theorem II{W W':World}(hf:ah W.heap W'.heap){p:MemPlace}(hp:p.block<W.heap.size):W.sameAt W' p:=by
 cases p with
 |cell b o=>exact World.cell?_of_block (w:=W) (hf.aM b hp (fun h=>h))
 |map b=>exact hf.aM b hp (fun h=>h)
end
theorem JW{C:Checked}{f:FuncId}{fn:Func}{s:ChangeSpec}{shs:List (Bool×List Pc)}{tb:TypeId}{H:Type}{enc:TypeId×Value→H}(hT:Jy C.prog fn.params.toList=some shs)(Me:s.vars=[])
  (acc:∀ds:List (DataW H),ds.length=fn.params.size→s.fn H ds={results:=[.lit (.bool true)],args:=ds})(CU:fn.resultTypes= #[tb])(Wy:C.prog.underlying tb=some .bool)(laid:laidOutB C.prog=true)
  (acd:(fn.params.toList.all fun t=>C.prog.readableRec t && decide (t<C.prog.types.size))=true)
  (walk:∀ (args:List Value) (Hh:Hp),nk (EG Hh) shs args→af C.prog f args Hh fun v H'=>ax (v= .bool true∧ah Hh H'))
  {W:World}{base:Nat}{args:Array Value}{ds gs:List (DataW H)}{before:List MemPlace}(RU:∀ (j:Nat) t v,fn.params[j]? =some t→args[j]? =some v→Value.okWide C.prog W .any base t v)
  (hW:DataW.Whole enc C.prog fn.params.toList s.vars false W args.toList ds gs before):
  Calls C.prog f args W fun e W'=>∃v,e= .returned v∧s.post enc C.prog fn false true false false W args v W':=by
 have hW':=hW
 obtain⟨p,q,hA,hV,rfl,hfz,gI⟩:=hW
 have hV':=hV
 rw[Me]at hV'
 obtain⟨rfl,rfl⟩:=trodVars_none hV'
 have agK:=QM (b0:=base) (r:=.any) hT (fun j t v hj hv=>RU j t v (by simpa using hj) (by simpa using hv)) hA
 have bf:=ME hA
 have aN:=hW'.lt
 have hc:=af.law (walk args.toList W.heap agK)
 rw[arM]at hc
 refine hc.mono fun e W' ⟨he,hs,X9⟩=>?_
 subst he
 have AK:s.fn H (ds++[])={results:=[.lit (.bool true)],args:=ds}:=by rw[aq2];exact acc ds (by simpa using bf)
 have Ya:∀t∈fn.params.toList,C.prog.readableRec t=true∧t<C.prog.types.size:=fun t ht=>by
  have:=(arc.1 acd) t ht
  simpa using this
 refine⟨_,rfl,Ib (pa:=p) (pv:=[]) hW' (fun b sp hd=>?_) (fun sp ace=>?_) (fun sp ace=>by rw[Me,AK];rfl) rfl hs X9 ?_⟩
 ·rw[AK,CU]
  exact trodAll_cons_mk (shut_bool Wy _) trodAll_mk0
 ·rw[AK]
  exact IH laid Ya hA (fun x hx=>II X9 (aN x (aqH _ hx))) (fun x hx=>ace x (aqH _ hx))
 ·exact ok_one CU rfl (okWide_bool_mk Wy _)
theorem Vb{H:Hp}{v:Value}(h:EG H (false,[.k (.i .u8)]) v):∃n:Int,v= .int .u8 n∧0≤n∧n≤255:=by
 obtain⟨_,_,e,⟨n,rfl,hw⟩,rfl⟩:=h
 injection e with e _
 subst e
 have e1:IntKind.u8.min=0:=rfl
 have e2:IntKind.u8.max=255:=rfl
 simp only[Lit.wf,aq0,aqI,e1,e2]at hw
 exact⟨n,rfl,hw.1,hw.2⟩
end Go.Vc
