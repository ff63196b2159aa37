/- Texts put behind each other. -/
import Derived.Test.YtjlnnljohemifaaGreatK98
set_option linter.unusedVariables false
set_option linter.unusedSimpArgs false
namespace Go.Proofs.YtjlnnljohemifaaGreat
def kS(M:Nat)(ns:List Nat):Nat:=(ns.map fun n=>2^ (M - n)).sum
theorem Pd(M n:Nat)(ns:List Nat):kS M (n::ns)=2^ (M - n)+kS M ns:=by unfold kS;simp
theorem RT(M:Nat)(a b:List Nat):kS M (a++b)=kS M a+kS M b:=by unfold kS;simp
theorem Uk(M:Nat){a b:List Nat}(h:a.Perm b):kS M a=kS M b:=by unfold kS;exact(h.map _).sum_nat
theorem VP(M d:Nat):∀ns:List Nat,(∀n∈ns,n≤M)→kS (M+d) ns=2^d*kS M ns:=by
 intro ns
 induction ns with
 |nil=>intro _;simp[kS]
 |cons n ns ih=>
  intro h
  have hn:=h n (by simp)
  rw[Pd,Pd,ih fun x hx=>h x (aom _ hx),Nat.mul_add,←Nat.pow_add,show M+d - n=d+(M - n) by omega]
def JC(M:Nat)(ns:List Nat):Int:=if 2^M<kS M ns then 1 else if kS M ns=2^M then 0 else -1
theorem RU(M d:Nat){ns:List Nat}(h:∀n∈ns,n≤M):JC (M+d) ns=JC M ns:=by
 unfold JC
 have hp:0<2^d:=Nat.pow_pos (by omega)
 have e1:2^ (M+d)<kS (M+d) ns↔2^M<kS M ns:=by
  rw[VP M d ns h,Nat.pow_add,apR (2^M)]
  exact Nat.mul_lt_mul_left hp
 have e2:kS (M+d) ns=2^ (M+d)↔kS M ns=2^M:=by
  rw[VP M d ns h,Nat.pow_add,apR (2^M)]
  exact⟨Nat.eq_of_mul_eq_mul_left hp,fun e=>by rw[e]⟩
 simp only[e1,e2]
theorem Pe{M M':Nat}{ns:List Nat}(h:∀n∈ns,n≤M)(h':∀n∈ns,n≤M'):JC M ns=JC M' ns:=by
 rcases Nat.le_total M M' with hm|hm
 ·rw[show M'=M+(M' - M) by omega,RU _ _ h]
 ·rw[show M=M'+(M - M') by omega,RU _ _ h']
theorem BL(M:Nat){a b:List Nat}(h:a.Perm b):JC M a=JC M b:=by unfold JC;rw[Uk M h]
structure eE(M:Nat)(ns:List Nat)(j free at_:Nat):Prop where
 le:free*2^ (M - at_)+kS M (ns.take j)≤2^M
 ex:free*2^ (M - at_)+kS M (ns.take j)=2^M∨ns.length<free+j
 low:at_≤M
theorem eE.begin(M:Nat)(ns:List Nat):eE M ns 0 1 0:=⟨by simp[kS],.inl (by simp[kS]),apv _⟩
theorem eE.double{M:Nat}{ns:List Nat}{j free at_:Nat}(h:eE M ns j free at_)(aR:at_<M):eE M ns j (free*2) (at_+1):=by
 have e:free*2*2^ (M - (at_+1))=free*2^ (M - at_):=by
  rw[Nat.mul_assoc,←Nat.pow_succ',show(M - (at_+1)).succ=M - at_ by omega]
 refine⟨by rw[e];exact h.le,?_,by omega⟩
 rw[e]
 rcases h.ex with h|h
 ·exact .inl h
 ·exact .inr (by omega)
theorem eE.jump{M:Nat}{ns:List Nat}{j free at_ n:Nat}(h:eE M ns j free at_)(hf:ns.length<free)(h1:at_≤n)(h2:n≤M):eE M ns j free n:=by
 refine⟨?_,.inr (by omega),h2⟩
 have:2^ (M - n)≤2^ (M - at_):=Nat.pow_le_pow_right (by omega) (by omega)
 exact aok (Nat.add_le_add_right (Nat.mul_le_mul_left _ this) _) h.le
theorem eE.aad{M:Nat}{ns:List Nat}{j at_ n:Nat}(h:eE M ns j 0 at_)(h2:n≤M):eE M ns j 0 n:=by
 refine⟨?_,?_,h2⟩
 ·have:=h.le;simpa using this
 ·have:=h.ex;simpa using this
theorem J6{M:Nat}{ns:List Nat}{j n:Nat}(hn:ns[j]? =some n):kS M (ns.take (j+1))=kS M (ns.take j)+2^ (M - n):=by
 rw[aoi,hn,RT]
 simp[kS]
theorem Nt(M:Nat)(ns:List Nat)(j:Nat):kS M (ns.take j)≤kS M ns:=by
 conv=>rhs;rw[←apn j ns,RT]
 omega
theorem eE.use{M:Nat}{ns:List Nat}{j free n:Nat}(h:eE M ns j free n)(hn:ns[j]? =some n)(hf:0<free):eE M ns (j+1) (free - 1) n:=by
 have e:(free - 1)*2^ (M - n)+2^ (M - n)=free*2^ (M - n):=by
  rw[←Nat.succ_mul];congr 1;omega
 refine⟨?_,?_,h.low⟩
 ·rw[J6 hn]
  have:=h.le
  omega
 ·rw[J6 hn]
  rcases h.ex with h|h
  ·left;omega
  ·right;omega
theorem eE.none{M:Nat}{ns:List Nat}{j n:Nat}(h:eE M ns j 0 n){m:Nat}(hn:ns[j]? =some m):JC M ns=1:=by
 have hj:=(anA.1 hn).1
 have h1:=J6 (M:=M) hn
 have h2:=Nt M ns (j+1)
 have h3:0<2^ (M - m):=Nat.pow_pos (by omega)
 unfold JC
 rw[if_pos]
 rcases h.ex with h|h
 ·rw[aol]at h;omega
 ·omega
theorem eE.done{M:Nat}{ns:List Nat}{free at_:Nat}(h:eE M ns ns.length free at_):JC M ns=if free=0 then 0 else -1:=by
 have h1:=h.le
 have h2:=h.ex
 rw[aod]at h1 h2
 unfold JC
 by_cases hf:free=0
 ·subst hf
  rw[aol]at h1 h2
  have:kS M ns=2^M:=by omega
  rw[if_neg (by omega),if_pos this,if_pos rfl]
 ·have h3:0<free*2^ (M - at_):=Nat.mul_pos (by omega) (Nat.pow_pos (by omega))
  rw[if_neg (by omega),if_neg (by omega),if_neg hf]
end Go.Proofs.YtjlnnljohemifaaGreat

namespace Go.Proofs.YtjlnnljohemifaaGreat
inductive Iw:List Int→Int→Prop
 |one (w:Int):Iw [w] 0
 |step {P R:List Int} {a b c:Int} (hp:P.Perm (a::b::R)) (ye:a≤b) (hR:∀r∈R,b≤r) (h:Iw ((a+b)::R) c):Iw P (c+(a+b))
theorem Iw.perm{P Q:List Int}{c:Int}(h:Iw P c)(hp:Q.Perm P):Iw Q c:=by
 cases h with
 |one w=>rw[List.perm_singleton.1 hp];exact .one w
 |step h1 h2 h3 h4=>exact .step (hp.trans h1) h2 h3 h4
end Go.Proofs.YtjlnnljohemifaaGreat

namespace Go.Proofs.YtjlnnljohemifaaGreat
def mG(n:Nat)(f:Nat→Int):Int:=((List.range n).map f).sum
def vE(n:Nat)(f:Nat→Nat):Nat:=((List.range n).map f).sum
theorem eF(n:Nat)(f:Nat→Int):mG (n+1) f=mG n f+f n:=by
 unfold mG
 rw[apC,aos,List.sum_append,apS,List.sum_cons,List.sum_nil]
 omega
theorem ij(n:Nat)(f:Nat→Nat):vE (n+1) f=vE n f+f n:=by
 unfold vE
 rw[apC,aos,List.sum_append,apS,List.sum_cons,List.sum_nil]
 omega
theorem Ad{n:Nat}{f g:Nat→Int}(h:∀i,i<n→f i=g i):mG n f=mG n g:=by
 induction n with
 |zero=>rfl
 |succ n ih=>rw[eF,eF,ih (fun i hi=>h i (by omega)),h n (by omega)]
theorem Ae{n:Nat}{f g:Nat→Nat}(h:∀i,i<n→f i=g i):vE n f=vE n g:=by
 induction n with
 |zero=>rfl
 |succ n ih=>rw[ij,ij,ih (fun i hi=>h i (by omega)),h n (by omega)]
theorem BM(n:Nat)(f g:Nat→Int):mG n (fun i=>f i+g i)=mG n f+mG n g:=by
 induction n with
 |zero=>rfl
 |succ n ih=>rw[eF,eF,eF,ih];omega
theorem RV(n:Nat)(f g:Nat→Nat):vE n (fun i=>f i+g i)=vE n f+vE n g:=by
 induction n with
 |zero=>rfl
 |succ n ih=>rw[ij,ij,ij,ih];omega
theorem RW(n:Nat)(f:Nat→Nat):vE n (fun i=>2*f i)=2*vE n f:=by
 induction n with
 |zero=>rfl
 |succ n ih=>rw[ij,ij,ih];omega
theorem PY{n:Nat}{f:Nat→Nat}(h:∀i,i<n→f i=0):vE n f=0:=by
 induction n with
 |zero=>rfl
 |succ n ih=>rw[ij,ih (fun i hi=>h i (by omega)),h n (by omega)]
theorem JD{n:Nat}{f:Nat→Int}(h:∀i,i<n→f i=0):mG n f=0:=by
 induction n with
 |zero=>rfl
 |succ n ih=>rw[eF,ih (fun i hi=>h i (by omega)),h n (by omega)];rfl
theorem RX{n k:Nat}(hk:k<n)(f:Nat→Int):mG n (fun i=>if i=k then f i else 0)=f k:=by
 induction n with
 |zero=>omega
 |succ n ih=>
  rw[eF]
  by_cases h:k=n
  ·rw[JD (fun i hi=>by rw[if_neg (by omega)]),if_pos h.symm,h];omega
  ·rw[ih (by omega),if_neg (by omega)];omega
theorem RY{n k:Nat}(hk:k<n)(f:Nat→Nat):vE n (fun i=>if i=k then f i else 0)=f k:=by
 induction n with
 |zero=>omega
 |succ n ih=>
  rw[ij]
  by_cases h:k=n
  ·rw[PY (fun i hi=>by rw[if_neg (by omega)]),if_pos h.symm,h];omega
  ·rw[ih (by omega),if_neg (by omega)];omega
structure Gc where
 bG:List (Int×Nat)
 at_:Nat
 R:Nat→Nat
 d:Nat→Nat
 up:Nat→Nat
def Lz(p:Int×Nat):List (Int×Nat)→Int×Nat
 | []=>p
 |q::r=>if q.1<p.1 then Lz q r else Lz p r
def Ul:List (Int×Nat)→Int×Nat
 | []=>(0,0)
 |p::r=>Lz p r
def wo(l:List (Int×Nat))(p:Int×Nat):List (Int×Nat):=l.filter fun q=>decide (q.2≠p.2)
def Gc.a(s:Gc):Int×Nat:=Ul s.bG
def Gc.b(s:Gc):Int×Nat:=Ul (wo s.bG s.a)
def Gc.step(s:Gc):Gc:=⟨wo (wo s.bG s.a) s.b++[(s.a.1+s.b.1,s.at_)],s.at_+1,
 fun i=>if i=s.at_ then i else if s.R i=s.a.2∨s.R i=s.b.2 then s.at_ else s.R i,
 fun i=>if i=s.at_ then 0 else if s.R i=s.a.2∨s.R i=s.b.2 then s.d i+1 else s.d i,
 fun i=>if i=s.a.2∨i=s.b.2 then s.at_ else s.up i⟩
def dt(ws:List Int):Gc:=⟨(List.range ws.length).map (fun i=>(ws.getD i 0,i)),ws.length,id,fun _=>0,fun _=>0⟩
def iy:Nat→Gc→Gc
 |0,s=>s
 |k+1,s=>(iy k s).step
def Fg(ws:List Int):List Nat:=(List.range ws.length).map (iy (ws.length - 1) (dt ws)).d
theorem J7(p:Int×Nat):∀ (r:List (Int×Nat)),Lz p r∈p::r:=by
 intro r
 induction r generalizing p with
 |nil=>simp[Lz]
 |cons q r ih=>
  unfold Lz
  split
  ·exact aom _ (ih q)
  ·have:=ih p
   simp only[anN]at this ⊢
   rcases this with h|h
   ·exact .inl h
   ·exact .inr (.inr h)
def sP(l:List (Int×Nat)):Prop:=l.Pairwise fun p q=>p.2<q.2
theorem WG(p:Int×Nat):∀ (r:List (Int×Nat)),sP (p::r)→∀q∈p::r,q.2≠(Lz p r).2→(Lz p r).1<q.1∨((Lz p r).1=q.1∧(Lz p r).2<q.2):=by
 intro r
 induction r generalizing p with
 |nil=>
  intro _ q hq aS
  rcases anN.1 hq with rfl|hq
  ·exact absurd rfl aS
  ·cases hq
 |cons c r ih=>
  intro hr q hq aS
  have zP:=aoL.1 hr
  have Rt:=aoL.1 zP.2
  unfold Lz at aS ⊢
  split at aS
  ·rename_i aR
   rw[if_pos aR]
   rcases anN.1 hq with rfl|hq
   ·by_cases e:c.2=(Lz c r).2
    ·have hm:=J7 c r
     rcases anN.1 hm with h|h
     ·rw[h];exact .inl aR
     ·have:=Rt.1 _ h;omega
    ·rcases ih c zP.2 c (by simp) e with h|h<;>exact .inl (by omega)
   ·exact ih c zP.2 q hq aS
  ·rename_i aR
   rw[if_neg aR]
   have hr4:sP (p::r):=aoL.2 ⟨fun z hz=>zP.1 z (by simp[hz]),Rt.2⟩
   rcases anN.1 hq with rfl|hq
   ·exact ih q hr4 q (by simp) aS
   ·rcases anN.1 hq with rfl|hq
    ·have Pf:=zP.1 q (by simp)
     by_cases e:p.2=(Lz p r).2
     ·have hm:=J7 p r
      rcases anN.1 hm with h|h
      ·rw[h];omega
      ·have:=zP.1 _ (aom _ h);omega
     ·rcases ih p hr4 p (by simp) e with h|h
      ·exact .inl (by omega)
      ·by_cases e2:(Lz p r).1=q.1
       ·exact .inr ⟨e2,by omega⟩
       ·exact .inl (by omega)
    ·exact ih p hr4 q (by simp[hq]) aS
structure Pg(p:Int×Nat)(l:List (Int×Nat)):Prop where
 m:p∈l
 l:∀q∈l,q.2≠p.2→p.1<q.1∨(p.1=q.1∧p.2<q.2)
theorem sP.inj{l:List (Int×Nat)}(h:sP l){p q:Int×Nat}(hp:p∈l)(hq:q∈l)(e:p.2=q.2):p=q:=by
 induction l with
 |nil=>cases hp
 |cons c r ih=>
  have h2:=aoL.1 h
  rcases anN.1 hp with rfl|hp
  ·rcases anN.1 hq with rfl|hq
   ·rfl
   ·have:=h2.1 q hq;omega
  ·rcases anN.1 hq with e2|hq
   ·have:=h2.1 p hp;rw[e2]at e;omega
   ·exact ih h2.2 hp hq
theorem J8{l:List (Int×Nat)}(h:sP l)(h0:l≠[]):Pg (Ul l) l:=by
 cases l with
 |nil=>exact absurd rfl h0
 |cons p r=>exact⟨J7 p r,WG p r h⟩
theorem Pg.eq{p q:Int×Nat}{l:List (Int×Nat)}(h:sP l)(h1:Pg p l)(h2:Pg q l):p=q:=by
 by_cases e:p.2=q.2
 ·exact h.inj h1.m h2.m e
 ·have a:=h1.l q h2.m (Ne.symm e)
  have b:=h2.l p h1.m e
  omega
theorem kQ{l:List (Int×Nat)}{p q:Int×Nat}:q∈wo l p↔q∈l∧q.2≠p.2:=by unfold wo;rw[apD];simp
theorem sP.wo{l:List (Int×Nat)}(h:sP l)(p:Int×Nat):sP (wo l p):=List.Pairwise.sublist List.filter_sublist h
theorem BN{l:List (Int×Nat)}(h:sP l){p:Int×Nat}(hp:p∈l):l.Perm (p::wo l p):=by
 induction l with
 |nil=>cases hp
 |cons c r ih=>
  have h2:=aoL.1 h
  unfold wo
  rw[List.filter_cons]
  rcases anN.1 hp with rfl|hp
  ·rw[if_neg (by simp)]
   have:r.filter (fun q=>decide (q.2≠p.2))=r:=by
    rw[apO]
    intro q hq
    have:=h2.1 q hq
    simp
    omega
   rw[this]
  ·have hc:=h2.1 p hp
   rw[if_pos (by simp;omega)]
   exact((ih h2.2 hp).cons c).trans (List.Perm.swap _ _ _)
structure wE(ws:List Int)(k:Nat)(s:Gc):Prop where
 ids:sP s.bG
 lt:∀p∈s.bG,p.2<s.at_
 at_:s.at_=ws.length+k
 len:s.bG.length+k=ws.length
 rt:∀i,i<s.at_→(∃p∈s.bG,p.2=s.R i)∧i≤s.R i
 Um:∀p∈s.bG,s.R p.2=p.2∧s.d p.2=0
 upI:∀i,i<s.at_→s.R i≠i→i<s.up i∧s.up i<s.at_∧s.R i=s.R (s.up i)∧s.d i=s.d (s.up i)+1
 wt:∀p∈s.bG,mG ws.length (fun i=>if s.R i=p.2 then ws.getD i 0 else 0)=p.1
 dl:∀i,i<s.at_→s.d i≤k
 kr:∀p∈s.bG,vE ws.length (fun i=>if s.R i=p.2 then 2^ (ws.length - s.d i)else 0)=2^ws.length
 huf:∀c,Iw (s.bG.map (·.1)) c→Iw ws (c+mG ws.length (fun i=>ws.getD i 0*(s.d i:Int)))
theorem wF(ws:List Int):(List.range ws.length).map (fun i=>ws.getD i 0)=ws:=by
 apply aoj
 intro i
 rw[anT]
 by_cases h:i<ws.length
 ·rw[aoT h,anx h]
  simp[anE,anx h]
 ·rw[anP (by simp;omega),anP (by omega)]
  rfl
theorem wE.init(ws:List Int):wE ws 0 (dt ws):=by
 have hm:∀p∈(dt ws).bG,p.2<ws.length∧p.1=ws.getD p.2 0:=fun p hp=>by
  obtain⟨i,hi,rfl⟩:=aou.1 hp
  exact⟨aoD.1 hi,rfl⟩
 refine⟨?_,fun p hp=>(hm p hp).1,rfl,?_,fun i hi=>⟨⟨(ws.getD i 0,i),aou.2 ⟨i,aoD.2 hi,rfl⟩,rfl⟩,anO _⟩,fun p _=>⟨rfl,rfl⟩,fun i hi h=>absurd rfl h,fun p hp=>?_,fun i _=>anO _,fun p hp=>?_,fun c hc=>?_⟩
 ·unfold sP dt
  rw[apU]
  exact List.pairwise_lt_range
 ·simp[dt]
 ·obtain⟨h1,h2⟩:=hm p hp
  rw[h2]
  exact RX h1 (fun i=>ws.getD i 0)
 ·obtain⟨h1,h2⟩:=hm p hp
  exact RY h1 (fun _=>2^ (ws.length - 0))
 ·have h1:(dt ws).bG.map (·.1)=ws:=by
   unfold dt
   rw[apy]
   exact wF ws
  rw[h1]at hc
  rw[JD (fun i _=>by show ws.getD i 0*((0:Nat):Int)=0;simp),Int.add_zero]
  exact hc
theorem Gc.RZ{ws:List Int}{k:Nat}{s:Gc}(h:wE ws k s)(hk:k+1<ws.length):Pg s.a s.bG∧Pg s.b (wo s.bG s.a)∧s.a.2≠s.b.2∧s.b∈s.bG∧s.bG.Perm (s.a::s.b::wo (wo s.bG s.a) s.b):=by
 have hl:=h.len
 have h1:Pg s.a s.bG:=J8 h.ids (fun e=>by rw[e]at hl;simp at hl;omega)
 have p1:=BN h.ids h1.m
 have h2:Pg s.b (wo s.bG s.a):=J8 (h.ids.wo _) (fun e=>by
  have:=p1.length_eq
  rw[e]at this
  simp at this
  omega)
 obtain⟨m1,m2⟩:=kQ.1 h2.m
 exact⟨h1,h2,fun e=>m2 e.symm,m1,p1.trans ((BN (h.ids.wo _) h2.m).cons _)⟩
theorem wE.step{ws:List Int}{k:Nat}{s:Gc}(h:wE ws k s)(hk:k+1<ws.length):wE ws (k+1) s.step:=by
 obtain⟨ha,hb,ye,Dr,hp⟩:=Gc.RZ h hk
 have rP:=h.at_
 have la:=h.lt _ ha.m
 have lb:=h.lt _ Dr
 have cj:∀q,q∈s.step.bG→(q∈s.bG∧q.2≠s.a.2∧q.2≠s.b.2)∨q=(s.a.1+s.b.1,s.at_):=fun q hq=>by
  rcases anR.1 hq with hq|hq
  ·obtain⟨h1,h2⟩:=kQ.1 hq
   obtain⟨h3,h4⟩:=kQ.1 h1
   exact .inl ⟨h3,h4,h2⟩
  ·exact .inr (by simpa using hq)
 have hR:∀i,i<s.at_→s.step.R i=if s.R i=s.a.2∨s.R i=s.b.2 then s.at_ else s.R i:=fun i hi=>by show(if i=s.at_ then i else _)=_;rw[if_neg (by omega)]
 have hd:∀i,i<s.at_→s.step.d i=if s.R i=s.a.2∨s.R i=s.b.2 then s.d i+1 else s.d i:=fun i hi=>by show(if i=s.at_ then 0 else _)=_;rw[if_neg (by omega)]
 have hRa:s.step.R s.at_=s.at_:=by show(if s.at_=s.at_ then s.at_ else _)=_;rw[if_pos rfl]
 have hda:s.step.d s.at_=0:=by show(if s.at_=s.at_ then 0 else _)=_;rw[if_pos rfl]
 have Un:∀i,i<s.at_→s.R i<s.at_:=fun i hi=>by obtain⟨⟨p,p1,p2⟩,_⟩:=h.rt i hi;rw[←p2];exact h.lt p p1
 have sa:=h.Um _ ha.m
 have sb:=h.Um _ Dr
 refine⟨?_,fun p wG=>?_,by show s.at_+1=_;omega,?_,fun i hi=>?_,fun p wG=>?_,fun i hi aS=>?_,fun p wG=>?_,fun i hi=>?_,fun p wG=>?_,fun c hc=>?_⟩
 ·show sP (_++_)
  unfold sP
  rw[apL]
  refine⟨(h.ids.wo _).wo _,by simp,fun q hq z hz=>?_⟩
  obtain⟨h1,_⟩:=kQ.1 hq
  obtain⟨h3,_⟩:=kQ.1 h1
  rw[anM.1 hz]
  exact h.lt q h3
 ·show p.2<s.at_+1
  rcases cj p wG with h1|h1
  ·have:=h.lt p h1.1;omega
  ·rw[h1];simp
 ·have h1:=hp.length_eq
  have h2:=h.len
  show(wo (wo s.bG s.a) s.b++[_]).length+(k+1)=_
  simp at h1 ⊢
  omega
 ·have oq:i<s.at_+1:=hi
  by_cases e:i=s.at_
  ·rw[e,hRa]
   exact⟨⟨(s.a.1+s.b.1,s.at_),aoE _ (by simp),rfl⟩,anO _⟩
  ·have ve:i<s.at_:=by omega
   obtain⟨⟨p,p1,p2⟩,h4⟩:=h.rt i ve
   rw[hR i ve]
   split
   ·exact⟨⟨(s.a.1+s.b.1,s.at_),aoE _ (by simp),rfl⟩,by omega⟩
   ·rename_i hn
    refine⟨⟨p,aoh _ (kQ.2 ⟨kQ.2 ⟨p1,fun e=>hn (.inl (by omega))⟩,fun e=>hn (.inr (by omega))⟩),p2⟩,h4⟩
 ·rcases cj p wG with ⟨h1,h2,h3⟩|h1
  ·have h4:=h.lt p h1
   obtain⟨h5,h6⟩:=h.Um p h1
   rw[hR _ h4,hd _ h4,h5,if_neg (by omega),if_neg (by omega)]
   exact⟨rfl,h6⟩
  ·rw[h1];exact⟨hRa,hda⟩
 ·have oq:i<s.at_+1:=hi
  have e:i≠s.at_:=fun e=>aS (by rw[e,hRa])
  have ve:i<s.at_:=by omega
  have Fh:s.step.up i=if i=s.a.2∨i=s.b.2 then s.at_ else s.up i:=rfl
  rw[Fh]
  by_cases LA:i=s.a.2∨i=s.b.2
  ·rw[if_pos LA]
   have hRi:s.R i=i∧s.d i=0:=by
    rcases LA with e|e
    ·rw[e];exact sa
    ·rw[e];exact sb
   rw[hRa,hda,hR i ve,hd i ve,hRi.1,if_pos LA,if_pos LA,hRi.2]
   exact⟨ve,by show s.at_<s.at_+1;omega,rfl,rfl⟩
  ·rw[if_neg LA]
   have hRi:s.R i≠i:=fun e2=>aS (by
    rw[hR i ve,e2,if_neg LA])
   obtain⟨u1,u2,u3,u4⟩:=h.upI i ve hRi
   rw[hR i ve,hd i ve,hR _ u2,hd _ u2,←u3]
   refine⟨u1,by show s.up i<s.at_+1;omega,rfl,?_⟩
   split<;>omega
 ·rcases cj p wG with ⟨h1,h2,h3⟩|h1
  ·rw[←h.wt p h1]
   refine Ad fun i hi=>?_
   have ve:i<s.at_:=by omega
   have:=h.lt p h1
   rw[hR i ve]
   by_cases e:s.R i=s.a.2∨s.R i=s.b.2
   ·rw[if_pos e,if_neg (by omega),if_neg (by omega)]
   ·rw[if_neg e]
  ·rw[h1]
   show mG ws.length (fun i=>if s.step.R i=s.at_ then ws.getD i 0 else 0)=s.a.1+s.b.1
   rw[←h.wt _ ha.m,←h.wt _ Dr,←BM]
   refine Ad fun i hi=>?_
   have ve:i<s.at_:=by omega
   have:=Un i ve
   rw[hR i ve]
   by_cases e1:s.R i=s.a.2
   ·rw[if_pos (Or.inl e1),if_pos rfl,if_pos e1,if_neg (by omega)];omega
   ·by_cases e2:s.R i=s.b.2
    ·rw[if_pos (Or.inr e2),if_pos rfl,if_neg e1,if_pos e2];omega
    ·have e3:¬ (s.R i=s.a.2∨s.R i=s.b.2):=by omega
     rw[if_neg e3,if_neg (show¬s.R i=s.at_ by omega),if_neg e1,if_neg e2];rfl
 ·have oq:i<s.at_+1:=hi
  by_cases e:i=s.at_
  ·rw[e,hda];omega
  ·have:=h.dl i (by omega)
   rw[hd i (by omega)]
   split<;>omega
 ·rcases cj p wG with ⟨h1,h2,h3⟩|h1
  ·rw[←h.kr p h1]
   refine Ae fun i hi=>?_
   have ve:i<s.at_:=by omega
   have:=h.lt p h1
   rw[hR i ve,hd i ve]
   by_cases e:s.R i=s.a.2∨s.R i=s.b.2
   ·rw[if_pos e,if_neg (by omega),if_neg (by omega)]
   ·rw[if_neg e,if_neg e]
  ·rw[h1]
   have h5:2*vE ws.length (fun i=>if s.step.R i=s.at_ then 2^ (ws.length - s.step.d i)else 0)=2^ws.length+2^ws.length:=by
    rw[←RW,←h.kr _ ha.m]
    conv=>rhs;rw[h.kr _ ha.m];arg 2;rw[←h.kr _ Dr]
    rw[←h.kr _ ha.m,←RV]
    refine Ae fun i hi=>?_
    have ve:i<s.at_:=by omega
    have:=Un i ve
    have hdl:=h.dl i ve
    rw[hR i ve,hd i ve]
    have e2:2*2^ (ws.length - (s.d i+1))=2^ (ws.length - s.d i):=by
     rw[show ws.length - s.d i=(ws.length - (s.d i+1))+1 by omega,Nat.pow_succ]
     omega
    by_cases e1:s.R i=s.a.2
    ·rw[if_pos (Or.inl e1),if_pos rfl,if_pos (Or.inl e1),if_pos e1,if_neg (by omega),e2,Nat.add_zero]
    ·by_cases e3:s.R i=s.b.2
     ·rw[if_pos (Or.inr e3),if_pos rfl,if_pos (Or.inr e3),if_neg e1,if_pos e3,e2];omega
     ·have e4:¬ (s.R i=s.a.2∨s.R i=s.b.2):=by omega
      rw[if_neg e4,if_neg (show¬s.R i=s.at_ by omega),if_neg e1,if_neg e3]
   show vE ws.length (fun i=>if s.step.R i=s.at_ then 2^ (ws.length - s.step.d i)else 0)=_
   omega
 ·have yz:Iw ((s.a.1+s.b.1)::(wo (wo s.bG s.a) s.b).map (·.1)) c:=by
   refine hc.perm ?_
   show List.Perm _ ((wo (wo s.bG s.a) s.b++[(s.a.1+s.b.1,s.at_)]).map (·.1))
   rw[aos]
   exact aoC (l₁:=[s.a.1+s.b.1])
  have h5:=h.huf (c+(s.a.1+s.b.1)) (.step (hp.map (·.1)) (by
   rcases ha.l _ Dr (Ne.symm ye)with h|h<;>omega) (fun r hr=>by
   obtain⟨q,hq,rfl⟩:=aou.1 hr
   obtain⟨h1,h2⟩:=kQ.1 hq
   rcases hb.l q h1 h2 with h|h<;>omega) yz)
  have h6:mG ws.length (fun i=>ws.getD i 0*(s.step.d i:Int))=mG ws.length (fun i=>ws.getD i 0*(s.d i:Int))+(s.a.1+s.b.1):=by
   rw[←h.wt _ ha.m]
   conv=>rhs;arg 2;arg 2;rw[←h.wt _ Dr]
   rw[←BM,←BM]
   refine Ad fun i hi=>?_
   have ve:i<s.at_:=by omega
   rw[hd i ve]
   by_cases e1:s.R i=s.a.2
   ·rw[if_pos (Or.inl e1),if_pos e1,if_neg (by omega),show((s.d i+1:Nat):Int)=(s.d i:Int)+1 by omega,Int.mul_add,Int.mul_one];omega
   ·by_cases e2:s.R i=s.b.2
    ·rw[if_pos (Or.inr e2),if_neg e1,if_pos e2,show((s.d i+1:Nat):Int)=(s.d i:Int)+1 by omega,Int.mul_add,Int.mul_one];omega
    ·have e3:¬ (s.R i=s.a.2∨s.R i=s.b.2):=by omega
     rw[if_neg e3,if_neg e1,if_neg e2];omega
  rw[h6]
  rw[show c+(mG ws.length (fun i=>ws.getD i 0*(s.d i:Int))+(s.a.1+s.b.1))=c+(s.a.1+s.b.1)+mG ws.length (fun i=>ws.getD i 0*(s.d i:Int)) by omega]
  exact h5
theorem wE.run(ws:List Int):∀k,k<ws.length→wE ws k (iy k (dt ws)):=by
 intro k
 induction k with
 |zero=>intro _;exact wE.init ws
 |succ k ih=>intro hk;exact(ih (by omega)).step hk
end Go.Proofs.YtjlnnljohemifaaGreat

namespace Go.Proofs.YtjlnnljohemifaaGreat
structure IsL(ws:List Int)(b:Nat):Prop where
 lt:b<ws.length
 le:∀ (j:Nat) (x y:Int),ws[j]? =some x→ws[b]? =some y→y≤x∧(j<b→y<x)
theorem sP.at_{l:List (Int×Nat)}(h:sP l){i j:Nat}{p q:Int×Nat}(hi:l[i]? =some p)(hj:l[j]? =some q)(JE:i<j):p.2<q.2:=by
 obtain⟨h1,rfl⟩:=anA.1 hi
 obtain⟨h2,rfl⟩:=anA.1 hj
 exact aoZ.1 h i j h1 h2 JE
theorem IsL.Lz{l:List (Int×Nat)}(h:sP l){b:Nat}(hb:IsL (l.map (·.1)) b):l[b]? =some (Ul l):=by
 have aR:=hb.lt
 rw[anW]at aR
 have e:=anx aR
 have hp:Pg l[b] l:=by
  refine⟨api aR,fun q hq aS=>?_⟩
  obtain⟨j,hj⟩:=List.mem_iff_getElem?.1 hq
  obtain⟨h1,h2⟩:=hb.le j q.1 (l[b]).1 (by rw[anT,hj];rfl) (by rw[anT,e];rfl)
  rcases ao3 j b with h3|h3|h3
  ·exact .inl (h2 h3)
  ·subst h3
   rw[e]at hj
   injection hj with hj
   rw[hj]at aS
   exact absurd rfl aS
  ·have:=h.at_ e hj h3
   omega
 rw[e,Pg.eq h hp (J8 h (fun e=>by rw[e]at aR;simp at aR))]
theorem BO:∀ {l:List (Int×Nat)} (_:sP l) {b:Nat} {p:Int×Nat} (_:l[b]? =some p),wo l p=l.eraseIdx b
 | [],_,b,p,hb=>by simp at hb
 |c::r,h,0,p,hb=>by
  rw[an7]at hb
  injection hb with hb
  subst hb
  obtain⟨h1,_⟩:=aoL.1 h
  unfold wo
  rw[List.filter_cons,if_neg (by simp),List.eraseIdx_cons_zero,apO]
  intro q hq
  have:=h1 q hq
  simp
  omega
 |c::r,h,b+1,p,hb=>by
  rw[aox]at hb
  obtain⟨h1,h2⟩:=aoL.1 h
  have h3:=h1 p (anG hb)
  have ih:=BO h2 hb
  unfold wo at ih ⊢
  rw[List.filter_cons,if_pos (by simp;omega),List.eraseIdx_cons_succ,ih]
structure PR{α β:Type}(Q:α→β→Prop)(l:List α)(m:List β):Prop where
 len:l.length=m.length
 at_:∀ (k:Nat) (a:α) (b:β),l[k]? =some a→m[k]? =some b→Q a b
theorem PR.nil{α β:Type}{Q:α→β→Prop}:PR Q [] []:=⟨rfl,fun k a b h=>by simp at h⟩
theorem PR.erase{α β:Type}{Q:α→β→Prop}{l:List α}{m:List β}(h:PR Q l m)(i:Nat):PR Q (l.eraseIdx i) (m.eraseIdx i):=by
 refine⟨by rw[apc,apc,h.len],fun k a b ha hb=>?_⟩
 rw[List.getElem?_eraseIdx]at ha hb
 by_cases hk:k<i
 ·rw[if_pos hk]at ha hb;exact h.at_ _ _ _ ha hb
 ·rw[if_neg hk]at ha hb;exact h.at_ _ _ _ ha hb
theorem PR.snoc{α β:Type}{Q:α→β→Prop}{l:List α}{m:List β}(h:PR Q l m){a:α}{b:β}(hq:Q a b):PR Q (l++[a]) (m++[b]):=by
 refine⟨by simp[h.len],fun k x y hx hy=>?_⟩
 by_cases hk:k<l.length
 ·rw[anS hk]at hx
  rw[anS (by rw[←h.len];exact hk)]at hy
  exact h.at_ _ _ _ hx hy
 ·have Lq:=(anA.1 hx).1
  rw[anL,an6]at Lq
  have e:k=l.length:=by omega
  rw[e,List.getElem?_concat_length]at hx
  rw[e,h.len,List.getElem?_concat_length]at hy
  injection hx with hx
  injection hy with hy
  rw[←hx,←hy]
  exact hq
theorem PR.imp{α β:Type}{Q Q':α→β→Prop}{l:List α}{m:List β}(h:PR Q l m)(hi:∀a b,a∈l→b∈m→Q a b→Q' a b):PR Q' l m:=
 ⟨h.len,fun k a b ha hb=>hi a b (anG ha) (anG hb) (h.at_ _ _ _ ha hb)⟩
theorem PR.map{α β γ:Type}{Q:α→β→Prop}{l:List α}{m:List β}(h:PR Q l m){f:α→γ}{g:β→γ}(hf:∀a b,Q a b→f a=g b):l.map f=m.map g:=by
 apply aoj
 intro k
 rw[anT,anT]
 rcases aoN k l.length with hk|hk
 ·have h1:=anx hk
  have h2:=anx (l:=m) (i:=k) (by rw[←h.len];exact hk)
  rw[h1,h2]
  exact an4 some (hf _ _ (h.at_ _ _ _ h1 h2))
 ·rw[anP hk,anP (by rw[←h.len];exact hk)]
  rfl
def WH(n:Nat)(R:Nat→Nat)(t:Int×List Int)(p:Int×Nat):Prop:=t.1=p.1∧t.2.Nodup∧∀y,y∈t.2↔∃x:Nat,y=(x:Int)∧x<n∧R x=p.2
def Ix(n:Nat)(s:Gc)(ts:List (Int×List Int)):Prop:=PR (WH n s.R) ts s.bG
theorem Ix.w{n:Nat}{s:Gc}{ts:List (Int×List Int)}(h:Ix n s ts):ts.map (·.1)=s.bG.map (·.1):=PR.map h fun _ _ h=>h.1
def R0(ws:List Int)(j:Nat):List (Int×List Int):=(List.range j).map fun i=>(ws.getD i 0,[(i:Int)])
theorem Uo(ws:List Int)(j:Nat):(R0 ws j).length=j:=by unfold R0;simp
theorem R1(ws:List Int)(j:Nat):R0 ws (j+1)=R0 ws j++[(ws.getD j 0,[(j:Int)])]:=by unfold R0;rw[apC,aos];rfl
theorem Ix.init(ws:List Int):Ix ws.length (dt ws) (R0 ws ws.length):=by
 refine⟨by simp[R0,dt],fun k t p ht hp=>?_⟩
 unfold R0 at ht
 unfold dt at hp
 rw[anT]at ht hp
 have hk:k<ws.length:=by
  rcases aoN k ws.length with h|h
  ·exact h
  ·rw[anP (by simpa using h)]at ht;cases ht
 rw[aoT hk]at ht hp
 injection ht with ht
 injection hp with hp
 subst ht hp
 refine⟨rfl,by simp,fun y=>?_⟩
 simp only[anM]
 constructor
 ·rintro rfl;exact⟨k,rfl,hk,rfl⟩
 ·rintro⟨x,rfl,_,h⟩
  have:x=k:=h
  rw[this]
theorem Ix.step{ws:List Int}{k:Nat}{s:Gc}{ts:List (Int×List Int)}(h:wE ws k s)(hk:k+1<ws.length)(T:Ix ws.length s ts){i j:Nat}{a b:Int×List Int}(hi:IsL (ts.map (·.1)) i)(ha:ts[i]? =some a)
  (hj:IsL ((ts.eraseIdx i).map (·.1)) j)(hb:(ts.eraseIdx i)[j]? =some b):
  Ix ws.length s.step ((ts.eraseIdx i).eraseIdx j++[(a.1+b.1,a.2++b.2)])∧(a.2++b.2).Nodup∧(∀y∈a.2++b.2,∃x:Nat,y=(x:Int)∧x<ws.length)∧∀x:Nat,x<ws.length→s.step.d x=s.d x+if(x:Int)∈a.2++b.2 then 1 else 0:=by
 obtain⟨la,lb,ye,Dr,hp⟩:=Gc.RZ h hk
 have rP:=h.at_
 rw[T.w]at hi
 have e1:s.bG[i]? =some s.a:=hi.Lz h.ids
 have e2:wo s.bG s.a=s.bG.eraseIdx i:=BO h.ids e1
 have T1:PR (WH ws.length s.R) (ts.eraseIdx i) (wo s.bG s.a):=by rw[e2];exact PR.erase T i
 have Gs:sP (wo s.bG s.a):=h.ids.wo _
 rw[PR.map T1 (fun _ _ h=>h.1)]at hj
 have e3:(wo s.bG s.a)[j]? =some s.b:=hj.Lz Gs
 have e4:wo (wo s.bG s.a) s.b=(wo s.bG s.a).eraseIdx j:=BO Gs e3
 have T2:PR (WH ws.length s.R) ((ts.eraseIdx i).eraseIdx j) (wo (wo s.bG s.a) s.b):=by rw[e4];exact T1.erase j
 obtain⟨a1,a2,a3⟩:=PR.at_ T i a _ ha e1
 obtain⟨b1,b2,b3⟩:=T1.at_ j b _ hb e3
 have Un:∀x,x<ws.length→s.R x<s.at_:=fun x hx=>by
  obtain⟨⟨p,p1,p2⟩,_⟩:=h.rt x (by omega)
  rw[←p2];exact h.lt p p1
 have hR:∀x,x<ws.length→s.step.R x=if s.R x=s.a.2∨s.R x=s.b.2 then s.at_ else s.R x:=fun x hx=>by show(if x=s.at_ then x else _)=_;rw[if_neg (by omega)]
 have hd:∀x,x<ws.length→s.step.d x=if s.R x=s.a.2∨s.R x=s.b.2 then s.d x+1 else s.d x:=fun x hx=>by show(if x=s.at_ then 0 else _)=_;rw[if_neg (by omega)]
 have cj:∀y,y∈a.2++b.2↔∃x:Nat,y=(x:Int)∧x<ws.length∧(s.R x=s.a.2∨s.R x=s.b.2):=fun y=>by
  rw[anR,a3,b3]
  constructor
  ·rintro(⟨x,x1,x2,x3⟩| ⟨x,x1,x2,x3⟩)
   ·exact⟨x,x1,x2,.inl x3⟩
   ·exact⟨x,x1,x2,.inr x3⟩
  ·rintro⟨x,x1,x2,x3|x3⟩
   ·exact .inl ⟨x,x1,x2,x3⟩
   ·exact .inr ⟨x,x1,x2,x3⟩
 have jd:(a.2++b.2).Nodup:=by
  refine aon.2 ⟨a2,b2,fun x hx y hy e=>?_⟩
  obtain⟨x',rfl,_,x3⟩:=(a3 _).1 hx
  obtain⟨y',rfl,_,y3⟩:=(b3 _).1 hy
  have:x'=y':=by omega
  rw[this,y3]at x3
  exact ye x3.symm
 refine⟨?_,jd,fun y hy=>?_,fun x hx=>?_⟩
 ·show PR _ _ (_++[_])
  refine PR.snoc (T2.imp fun t p _ tQ hq=>?_) ?_
  ·obtain⟨m1,m2⟩:=kQ.1 tQ
   obtain⟨m3,m4⟩:=kQ.1 m1
   have m5:=h.lt p m3
   refine⟨hq.1,hq.2.1,fun y=>(hq.2.2 y).trans ?_⟩
   constructor
   ·rintro⟨x,x1,x2,x3⟩
    refine⟨x,x1,x2,?_⟩
    rw[hR x x2,if_neg (by rw[x3];omega),x3]
   ·rintro⟨x,x1,x2,x3⟩
    refine⟨x,x1,x2,?_⟩
    rw[hR x x2]at x3
    split at x3
    ·omega
    ·exact x3
  ·refine⟨by rw[a1,b1],jd,fun y=>(cj y).trans ?_⟩
   constructor
   ·rintro⟨x,x1,x2,x3⟩
    exact⟨x,x1,x2,by rw[hR x x2,if_pos x3]⟩
   ·rintro⟨x,x1,x2,x3⟩
    refine⟨x,x1,x2,?_⟩
    rw[hR x x2]at x3
    split at x3
    ·assumption
    ·have:=Un x x2
     have x3:s.R x=s.at_:=x3
     omega
 ·obtain⟨x,x1,x2,_⟩:=(cj y).1 hy
  exact⟨x,x1,x2⟩
 ·rw[hd x hx]
  by_cases hc:s.R x=s.a.2∨s.R x=s.b.2
  ·rw[if_pos hc,if_pos ((cj _).2 ⟨x,rfl,hx,hc⟩)]
  ·rw[if_neg hc,if_neg (fun hm=>by
    obtain⟨x',e,_,h3⟩:=(cj _).1 hm
    have:x=x':=by omega
    rw[this]at hc
    exact hc h3)]
   rfl
theorem R2{ws:List Int}{j b:Nat}{x y:Int}(hx:ws[j]? =some x)(hy:ws[b]? =some y)(hbj:b<j)(h:∀ (k:Nat) (z:Int),k<j→ws[k]? =some z→y≤z∧(k<b→y<z)):
  (x<y→∀ (k:Nat) (z:Int),k<j+1→ws[k]? =some z→x≤z∧(k<j→x<z))∧(¬x<y→∀ (k:Nat) (z:Int),k<j+1→ws[k]? =some z→y≤z∧(k<b→y<z)):=by
 constructor
 ·intro aR k z hk hz
  by_cases e:k=j
  ·subst e
   rw[hx]at hz
   injection hz with hz
   omega
  ·have:=h k z (by omega) hz
   omega
 ·intro aR k z hk hz
  by_cases e:k=j
  ·subst e
   rw[hx]at hz
   injection hz with hz
   omega
  ·exact h k z (by omega) hz
end Go.Proofs.YtjlnnljohemifaaGreat

namespace Go.Proofs.YtjlnnljohemifaaGreat
structure Nu(ws:List Int)(s:Gc):Prop where
 at_:s.at_=2*ws.length - 1
 root:∀i,i<s.at_→s.R i=2*ws.length - 2
 PZ:s.d (2*ws.length - 2)=0
 up:∀i,i<2*ws.length - 2→i<s.up i∧s.up i≤2*ws.length - 2∧s.d i=s.d (s.up i)+1
 dl:∀i,i<s.at_→s.d i≤ws.length - 1
 kr:vE ws.length (fun i=>2^ (ws.length - s.d i))=2^ws.length
 huf:Iw ws (mG ws.length (fun i=>ws.getD i 0*(s.d i:Int)))
def Dv(ws:List Int):Gc:=iy (ws.length - 1) (dt ws)
theorem Nu.R3{ws:List Int}(hn:1≤ws.length):Nu ws (Dv ws):=by
 have h:=wE.run ws (ws.length - 1) (by omega)
 unfold Dv
 generalize iy (ws.length - 1) (dt ws)=s at*
 have rP:=h.at_
 have hl:=h.len
 obtain⟨p,hp⟩:∃p,s.bG=[p]:=by
  match s.bG,hl with
  | [p],_=>exact⟨p,rfl⟩
  | [],hl=>simp at hl;omega
  |_::_::_,hl=>simp at hl;omega
 have tQ:p∈s.bG:=by rw[hp];simp
 have Ng:=h.lt p tQ
 have hR:∀i,i<s.at_→s.R i=p.2∧i≤p.2:=fun i hi=>by
  obtain⟨⟨q,hq,e⟩,h2⟩:=h.rt i hi
  rw[hp,anM]at hq
  rw[hq]at e
  omega
 have wG:p.2=2*ws.length - 2:=by
  have:=(hR (s.at_ - 1) (by omega)).2
  omega
 obtain⟨_,hd⟩:=h.Um p tQ
 refine⟨by omega,fun i hi=>by rw[(hR i hi).1,wG],by rw[←wG];exact hd,fun i hi=>?_,fun i hi=>h.dl i hi,?_,?_⟩
 ·obtain⟨u1,u2,u3,u4⟩:=h.upI i (by omega) (by rw[(hR i (by omega)).1];omega)
  exact⟨u1,by omega,u4⟩
 ·rw[←h.kr p tQ]
  exact Ae fun i hi=>by rw[if_pos (hR i (by omega)).1]
 ·have:=h.huf 0 (by rw[hp];exact .one _)
  rwa[Int.zero_add]at this
theorem WI(M n:Nat)(d:Nat→Nat):kS M ((List.range n).map d)=vE n fun i=>2^ (M - d i):=by
 unfold kS vE
 rw[apy]
 rfl
theorem R4(ws:List Int):(Fg ws).length=ws.length:=by unfold Fg;simp
theorem Ph{ws:List Int}(hn:1≤ws.length):∀n∈Fg ws,n≤ws.length - 1:=by
 intro n h
 obtain⟨i,hi,rfl⟩:=aou.1 h
 have hi:=aoD.1 hi
 exact(Nu.R3 hn).dl i (by rw[(Nu.R3 hn).at_];omega)
theorem LC{ws:List Int}(hn:2≤ws.length):∀n∈Fg ws,1≤n:=by
 intro n h
 obtain⟨i,hi,rfl⟩:=aou.1 h
 have hi:=aoD.1 hi
 have:=(Nu.R3 (ws:=ws) (by omega)).up i (by omega)
 show 1≤(Dv ws).d i
 omega
theorem P0{ws:List Int}(hn:1≤ws.length):kS ws.length (Fg ws)=2^ws.length:=by
 unfold Fg
 rw[WI]
 exact(Nu.R3 hn).kr
theorem ET{n:Nat}{f:Nat→Int}(h:∀i,i<n→0≤f i):0≤mG n f:=by
 induction n with
 |zero=>exact apF _
 |succ n ih=>
  rw[eF]
  have:=ih fun i hi=>h i (by omega)
  have:=h n (by omega)
  omega
end Go.Proofs.YtjlnnljohemifaaGreat
