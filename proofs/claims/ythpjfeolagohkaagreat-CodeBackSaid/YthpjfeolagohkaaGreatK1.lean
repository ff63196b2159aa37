/- Texts put behind each other. -/
import Derived.Test.YthpjfeolagohkaaGreatK98
import Derived.Test.YthpjfeolagohkaaGreatK0
set_option maxRecDepth 100000
set_option maxHeartbeats 8000000
set_option linter.unusedVariables false
set_option linter.unusedSimpArgs false
namespace Go.Proofs.YthpjfeolagohkaaGreat
def kW(n:Nat)(f:Nat→Int):Int:=((List.range n).map f).sum
def sF(n:Nat)(f:Nat→Nat):Nat:=((List.range n).map f).sum
theorem jC(n:Nat)(f:Nat→Int):kW (n+1) f=kW n f+f n:=by
 unfold kW
 rw[aqc,ao5,List.sum_append,aqm,List.sum_cons,List.sum_nil]
 omega
theorem mA(n:Nat)(f:Nat→Nat):sF (n+1) f=sF n f+f n:=by
 unfold sF
 rw[aqc,ao5,List.sum_append,aqm,List.sum_cons,List.sum_nil]
 omega
theorem xI{n:Nat}{f g:Nat→Int}(h:∀i,i<n→f i=g i):kW n f=kW n g:=by
 induction n with
 |zero=>rfl
 |succ n ih=>grind [jC]
theorem xJ{n:Nat}{f g:Nat→Nat}(h:∀i,i<n→f i=g i):sF n f=sF n g:=by
 induction n with
 |zero=>rfl
 |succ n ih=>grind [mA]
theorem zJ(n:Nat)(f g:Nat→Int):kW n (fun i=>f i+g i)=kW n f+kW n g:=by
 induction n with
 |zero=>rfl
 |succ n ih=>grind [jC]
theorem RL(n:Nat)(f g:Nat→Nat):sF n (fun i=>f i+g i)=sF n f+sF n g:=by
 induction n with
 |zero=>rfl
 |succ n ih=>grind [mA]
theorem RM(n:Nat)(f:Nat→Nat):sF n (fun i=>2*f i)=2*sF n f:=by
 induction n with
 |zero=>rfl
 |succ n ih=>rw[mA,mA,ih];omega
theorem Pt{n:Nat}{f:Nat→Nat}(h:∀i,i<n→f i=0):sF n f=0:=by
 induction n with
 |zero=>rfl
 |succ n ih=>grind [mA]
theorem Iz{n:Nat}{f:Nat→Int}(h:∀i,i<n→f i=0):kW n f=0:=by
 induction n with
 |zero=>rfl
 |succ n ih=>grind [jC]
theorem RN{n k:Nat}(hk:k<n)(f:Nat→Int):kW n (fun i=>if i=k then f i else 0)=f k:=by
 induction n with
 |zero=>omega
 |succ n ih=>
  grind [jC,Iz]
theorem RO{n k:Nat}(hk:k<n)(f:Nat→Nat):sF n (fun i=>if i=k then f i else 0)=f k:=by
 induction n with
 |zero=>omega
 |succ n ih=>
  grind [mA,Pt]
structure IA where
 bT:List (Int×Nat)
 at_:Nat
 R:Nat→Nat
 d:Nat→Nat
 up:Nat→Nat
def OD(p:Int×Nat):List (Int×Nat)→Int×Nat
 | []=>p
 |q::r=>if q.1<p.1 then OD q r else OD p r
def Xf:List (Int×Nat)→Int×Nat
 | []=>(0,0)
 |p::r=>OD p r
def wo(l:List (Int×Nat))(p:Int×Nat):List (Int×Nat):=l.filter fun q=>decide (q.2≠p.2)
def IA.a(s:IA):Int×Nat:=Xf s.bT
def IA.b(s:IA):Int×Nat:=Xf (wo s.bT s.a)
def IA.step(s:IA):IA:=⟨wo (wo s.bT s.a) s.b++[(s.a.1+s.b.1,s.at_)],s.at_+1,
 fun i=>if i=s.at_ then i else if s.R i=s.a.2∨s.R i=s.b.2 then s.at_ else s.R i,
 fun i=>if i=s.at_ then 0 else if s.R i=s.a.2∨s.R i=s.b.2 then s.d i+1 else s.d i,
 fun i=>if i=s.a.2∨i=s.b.2 then s.at_ else s.up i⟩
def jf(ws:List Int):IA:=⟨(List.range ws.length).map (fun i=>(ws.getD i 0,i)),ws.length,id,fun _=>0,fun _=>0⟩
def ot:Nat→IA→IA
 |0,s=>s
 |k+1,s=>(ot k s).step
def Fc(ws:List Int):List Nat:=(List.range ws.length).map (ot (ws.length - 1) (jf ws)).d
theorem Jb(p:Int×Nat):∀ (r:List (Int×Nat)),OD p r∈p::r:=by
 intro r
 induction r generalizing p with
 |nil=>simp[OD]
 |cons q r ih=>
  grind [OD]
def xK(l:List (Int×Nat)):Prop:=l.Pairwise fun p q=>p.2<q.2
theorem Xg(p:Int×Nat):∀ (r:List (Int×Nat)),xK (p::r)→∀q∈p::r,q.2≠(OD p r).2→(OD p r).1<q.1∨((OD p r).1=q.1∧(OD p r).2<q.2):=by
 intro r
 induction r generalizing p with
 |nil=>
  grind [OD]
 |cons c r ih=>
  intro hr q hq aQ
  have zx:=apw.1 hr
  have Xh:=apw.1 zx.2
  unfold OD at aQ ⊢
  split at aQ
  ·rename_i aK
   rw[if_pos aK]
   rcases apa.1 hq with rfl|hq
   ·by_cases e:c.2=(OD c r).2
    ·grind [Jb]
    ·rcases ih c zx.2 c (by simp) e with h|h<;>omega
   ·exact ih c zx.2 q hq aQ
  ·rename_i aK
   rw[if_neg aK]
   have hr4:xK (p::r):=apw.2 (by grind)
   rcases apa.1 hq with rfl|hq
   ·grind
   ·rcases apa.1 hq with rfl|hq
    ·have Q4:=zx.1 q (by simp)
     by_cases e:p.2=(OD p r).2
     ·grind [Jb]
     ·rcases ih p hr4 p (by simp) e with h|h
      ·omega
      omega
    grind
structure Q5(p:Int×Nat)(l:List (Int×Nat)):Prop where
 m:p∈l
 l:∀q∈l,q.2≠p.2→p.1<q.1∨(p.1=q.1∧p.2<q.2)
theorem xK.inj{l:List (Int×Nat)}(h:xK l){p q:Int×Nat}(hp:p∈l)(hq:q∈l)(e:p.2=q.2):p=q:=by
 induction l with
 |nil=>cases hp
 |cons c r ih=>
  have h2:=apw.1 h
  rcases apa.1 hp with rfl|hp
  ·grind
  ·rcases apa.1 hq with e2|hq
   ·grind
   ·exact ih h2.2 hp hq
theorem OE{l:List (Int×Nat)}(h:xK l)(h0:l≠[]):Q5 (Xf l) l:=by
 cases l with
 |nil=>grind
 |cons p r=>exact⟨Jb p r,Xg p r h⟩
theorem Q5.eq{p q:Int×Nat}{l:List (Int×Nat)}(h:xK l)(h1:Q5 p l)(h2:Q5 q l):p=q:=by
 by_cases e:p.2=q.2
 ·exact h.inj h1.m h2.m e
 cases h1;cases h2;grind
theorem mE{l:List (Int×Nat)}{p q:Int×Nat}:q∈wo l p↔q∈l∧q.2≠p.2:=by unfold wo;grind
theorem xK.wo{l:List (Int×Nat)}(h:xK l)(p:Int×Nat):xK (wo l p):=List.Pairwise.sublist List.filter_sublist h
theorem zK{l:List (Int×Nat)}(h:xK l){p:Int×Nat}(hp:p∈l):l.Perm (p::wo l p):=by
 induction l with
 |nil=>cases hp
 |cons c r ih=>
  have h2:=apw.1 h
  unfold wo
  rw[List.filter_cons]
  rcases apa.1 hp with rfl|hp
  ·rw[if_neg (by simp)]
   have:r.filter (fun q=>decide (q.2≠p.2))=r:=by
    rw[List.filter_eq_self]
    intro q hq
    have:=h2.1 q hq
    simp
    omega
   rw[this]
  ·have hc:=h2.1 p hp
   rw[if_pos (by simp;omega)]
   exact((ih h2.2 hp).cons c).trans (List.Perm.swap _ _ _)
structure xL(ws:List Int)(k:Nat)(s:IA):Prop where
 ids:xK s.bT
 lt:∀p∈s.bT,p.2<s.at_
 at_:s.at_=ws.length+k
 len:s.bT.length+k=ws.length
 rt:∀i,i<s.at_→(∃p∈s.bT,p.2=s.R i)∧i≤s.R i
 Ue:∀p∈s.bT,s.R p.2=p.2∧s.d p.2=0
 upI:∀i,i<s.at_→s.R i≠i→i<s.up i∧s.up i<s.at_∧s.R i=s.R (s.up i)∧s.d i=s.d (s.up i)+1
 wt:∀p∈s.bT,kW ws.length (fun i=>if s.R i=p.2 then ws.getD i 0 else 0)=p.1
 dl:∀i,i<s.at_→s.d i≤k
 kr:∀p∈s.bT,sF ws.length (fun i=>if s.R i=p.2 then 2^ (ws.length - s.d i)else 0)=2^ws.length
 huf:∀c,G7 (s.bT.map (·.1)) c→G7 ws (c+kW ws.length (fun i=>ws.getD i 0*(s.d i:Int)))
theorem tI(ws:List Int):(List.range ws.length).map (fun i=>ws.getD i 0)=ws:=by
 apply ao7
 grind
theorem xL.init(ws:List Int):xL ws 0 (jf ws):=by
 have hm:∀p∈(jf ws).bT,p.2<ws.length∧p.1=ws.getD p.2 0:=fun p hp=>by
  obtain⟨i,hi,rfl⟩:=ao8.1 hp
  grind
 refine⟨?_,fun p hp=>(hm p hp).1,rfl,?_,fun i hi=>⟨⟨(ws.getD i 0,i),ao8.2 ⟨i,apx.2 hi,rfl⟩,rfl⟩,aoB _⟩,fun p _=>⟨rfl,rfl⟩,fun i hi h=>absurd rfl h,fun p hp=>?_,fun i _=>aoB _,fun p hp=>?_,fun c hc=>?_⟩
 ·unfold xK jf
  rw[aqB]
  exact List.pairwise_lt_range
 ·simp[jf]
 ·obtain⟨h1,h2⟩:=hm p hp
  rw[h2]
  exact RN h1 (fun i=>ws.getD i 0)
 ·obtain⟨h1,h2⟩:=hm p hp
  exact RO h1 (fun _=>2^ (ws.length - 0))
 ·have h1:(jf ws).bT.map (·.1)=ws:=by
   unfold jf
   rw[apE]
   exact tI ws
  rw[h1]at hc
  rw[Iz (fun i _=>by show ws.getD i 0*((0:Nat):Int)=0;simp),Int.add_zero]
  exact hc
theorem IA.VT{ws:List Int}{k:Nat}{s:IA}(h:xL ws k s)(hk:k+1<ws.length):Q5 s.a s.bT∧Q5 s.b (wo s.bT s.a)∧s.a.2≠s.b.2∧s.b∈s.bT∧s.bT.Perm (s.a::s.b::wo (wo s.bT s.a) s.b):=by
 have hl:=h.len
 have h1:Q5 s.a s.bT:=OE h.ids (by grind)
 have p1:=zK h.ids h1.m
 have h2:Q5 s.b (wo s.bT s.a):=OE (h.ids.wo _) (fun e=>by
  have:=p1.length_eq
  grind)
 obtain⟨m1,m2⟩:=mE.1 h2.m
 exact⟨h1,h2,fun e=>m2 e.symm,m1,p1.trans ((zK (h.ids.wo _) h2.m).cons _)⟩
theorem xL.step{ws:List Int}{k:Nat}{s:IA}(h:xL ws k s)(hk:k+1<ws.length):xL ws (k+1) s.step:=by
 obtain⟨ha,hb,BP,BW,hp⟩:=IA.VT h hk
 have lC:=h.at_
 have la:=h.lt _ ha.m
 have lb:=h.lt _ BW
 have bF:∀q,q∈s.step.bT→(q∈s.bT∧q.2≠s.a.2∧q.2≠s.b.2)∨q=(s.a.1+s.b.1,s.at_):=fun q hq=>by
  rcases aoL.1 hq with hq|hq
  ·obtain⟨h1,h2⟩:=mE.1 hq
   obtain⟨h3,h4⟩:=mE.1 h1
   grind
  simp_all
 have hR:∀i,i<s.at_→s.step.R i=if s.R i=s.a.2∨s.R i=s.b.2 then s.at_ else s.R i:=fun i hi=>by show(if i=s.at_ then i else _)=_;rw[if_neg (by omega)]
 have hd:∀i,i<s.at_→s.step.d i=if s.R i=s.a.2∨s.R i=s.b.2 then s.d i+1 else s.d i:=fun i hi=>by show(if i=s.at_ then 0 else _)=_;rw[if_neg (by omega)]
 have hRa:s.step.R s.at_=s.at_:=by show(if s.at_=s.at_ then s.at_ else _)=_;rw[if_pos rfl]
 have hda:s.step.d s.at_=0:=by show(if s.at_=s.at_ then 0 else _)=_;rw[if_pos rfl]
 have aaO:∀i,i<s.at_→s.R i<s.at_:=fun i hi=>by obtain⟨⟨p,p1,p2⟩,_⟩:=h.rt i hi;rw[←p2];exact h.lt p p1
 have sa:=h.Ue _ ha.m
 have sb:=h.Ue _ BW
 refine⟨?_,fun p tJ=>?_,by show s.at_+1=_;omega,?_,fun i hi=>?_,fun p tJ=>?_,fun i hi aQ=>?_,fun p tJ=>?_,fun i hi=>?_,fun p tJ=>?_,fun c hc=>?_⟩
 ·show xK (_++_)
  unfold xK
  rw[aqw]
  refine⟨(h.ids.wo _).wo _,by simp,fun q hq z hz=>?_⟩
  obtain⟨h1,_⟩:=mE.1 hq
  obtain⟨h3,_⟩:=mE.1 h1
  rw[aoH.1 hz]
  exact h.lt q h3
 ·show p.2<s.at_+1
  rcases bF p tJ with h1|h1
  ·have:=h.lt p h1.1;omega
  ·rw[h1];simp
 ·have h1:=hp.length_eq
  have h2:=h.len
  show(wo (wo s.bT s.a) s.b++[_]).length+(k+1)=_
  simp at h1 ⊢
  omega
 ·have jB:i<s.at_+1:=hi
  by_cases e:i=s.at_
  ·rw[e,hRa]
   exact⟨⟨(s.a.1+s.b.1,s.at_),apY _ (by simp),rfl⟩,aoB _⟩
  ·have rR:i<s.at_:=by omega
   obtain⟨⟨p,p1,p2⟩,h4⟩:=h.rt i rR
   rw[hR i rR]
   split
   ·exact⟨⟨(s.a.1+s.b.1,s.at_),apY _ (by simp),rfl⟩,by omega⟩
   ·rename_i hn
    refine⟨⟨p,ape _ (mE.2 ⟨mE.2 ⟨p1,by omega⟩,by omega⟩),p2⟩,h4⟩
 ·rcases bF p tJ with ⟨h1,h2,h3⟩|h1
  ·have h4:=h.lt p h1
   obtain⟨h5,h6⟩:=h.Ue p h1
   rw[hR _ h4,hd _ h4,h5,if_neg (by omega),if_neg (by omega)]
   omega
  ·rw[h1];exact⟨hRa,hda⟩
 ·have jB:i<s.at_+1:=hi
  have e:i≠s.at_:=fun e=>aQ (by rw[e,hRa])
  have rR:i<s.at_:=by omega
  have zL:s.step.up i=if i=s.a.2∨i=s.b.2 then s.at_ else s.up i:=rfl
  rw[zL]
  by_cases KL:i=s.a.2∨i=s.b.2
  ·rw[if_pos KL]
   have hRi:s.R i=i∧s.d i=0:=by
    rcases KL with e|e
    ·rw[e];exact sa
    ·rw[e];exact sb
   rw[hRa,hda,hR i rR,hd i rR,hRi.1,if_pos KL,if_pos KL,hRi.2]
   exact⟨rR,by show s.at_<s.at_+1;omega,rfl,rfl⟩
  ·rw[if_neg KL]
   have hRi:s.R i≠i:=fun e2=>aQ (by
    rw[hR i rR,e2,if_neg KL])
   obtain⟨u1,u2,u3,u4⟩:=h.upI i rR hRi
   rw[hR i rR,hd i rR,hR _ u2,hd _ u2,←u3]
   refine⟨u1,by show s.up i<s.at_+1;omega,rfl,?_⟩
   split<;>omega
 ·rcases bF p tJ with ⟨h1,h2,h3⟩|h1
  ·rw[←h.wt p h1]
   refine xI fun i hi=>?_
   have rR:i<s.at_:=by omega
   have:=h.lt p h1
   rw[hR i rR]
   by_cases e:s.R i=s.a.2∨s.R i=s.b.2
   ·rw[if_pos e,if_neg (by omega),if_neg (by omega)]
   ·rw[if_neg e]
  ·rw[h1]
   show kW ws.length (fun i=>if s.step.R i=s.at_ then ws.getD i 0 else 0)=s.a.1+s.b.1
   rw[←h.wt _ ha.m,←h.wt _ BW,←zJ]
   refine xI fun i hi=>?_
   have rR:i<s.at_:=by omega
   have:=aaO i rR
   rw[hR i rR]
   by_cases e1:s.R i=s.a.2
   ·rw[if_pos (Or.inl e1),if_pos rfl,if_pos e1,if_neg (by omega)];omega
   ·by_cases e2:s.R i=s.b.2
    ·rw[if_pos (Or.inr e2),if_pos rfl,if_neg e1,if_pos e2];omega
    ·have e3:¬ (s.R i=s.a.2∨s.R i=s.b.2):=by omega
     rw[if_neg e3,if_neg (by omega),if_neg e1,if_neg e2];rfl
 ·have jB:i<s.at_+1:=hi
  by_cases e:i=s.at_
  ·rw[e,hda];omega
  ·have:=h.dl i (by omega)
   rw[hd i (by omega)]
   split<;>omega
 ·rcases bF p tJ with ⟨h1,h2,h3⟩|h1
  ·rw[←h.kr p h1]
   refine xJ fun i hi=>?_
   have rR:i<s.at_:=by omega
   have:=h.lt p h1
   rw[hR i rR,hd i rR]
   by_cases e:s.R i=s.a.2∨s.R i=s.b.2
   ·rw[if_pos e,if_neg (by omega),if_neg (by omega)]
   ·rw[if_neg e,if_neg e]
  ·rw[h1]
   have h5:2*sF ws.length (fun i=>if s.step.R i=s.at_ then 2^ (ws.length - s.step.d i)else 0)=2^ws.length+2^ws.length:=by
    rw[←RM,←h.kr _ ha.m]
    conv=>rhs;rw[h.kr _ ha.m];arg 2;rw[←h.kr _ BW]
    rw[←h.kr _ ha.m,←RL]
    refine xJ fun i hi=>?_
    have rR:i<s.at_:=by omega
    have:=aaO i rR
    have hdl:=h.dl i rR
    rw[hR i rR,hd i rR]
    have e2:2*2^ (ws.length - (s.d i+1))=2^ (ws.length - s.d i):=by
     rw[show ws.length - s.d i=(ws.length - (s.d i+1))+1 by omega,Nat.pow_succ]
     omega
    by_cases e1:s.R i=s.a.2
    ·rw[if_pos (Or.inl e1),if_pos rfl,if_pos (Or.inl e1),if_pos e1,if_neg (by omega),e2,Nat.add_zero]
    ·by_cases e3:s.R i=s.b.2
     ·rw[if_pos (Or.inr e3),if_pos rfl,if_pos (Or.inr e3),if_neg e1,if_pos e3,e2];omega
     ·have e4:¬ (s.R i=s.a.2∨s.R i=s.b.2):=by omega
      rw[if_neg e4,if_neg (by omega),if_neg e1,if_neg e3]
   show sF ws.length (fun i=>if s.step.R i=s.at_ then 2^ (ws.length - s.step.d i)else 0)=_
   omega
 ·have Fe:G7 ((s.a.1+s.b.1)::(wo (wo s.bT s.a) s.b).map (·.1)) c:=by
   refine hc.perm ?_
   show List.Perm _ ((wo (wo s.bT s.a) s.b++[(s.a.1+s.b.1,s.at_)]).map (·.1))
   rw[ao5]
   exact apZ (l₁:=[s.a.1+s.b.1])
  have h5:=h.huf (c+(s.a.1+s.b.1)) (.step (hp.map (·.1)) (by
   rcases ha.l _ BW (Ne.symm BP)with h|h<;>omega) (fun r hr=>by
   obtain⟨q,hq,rfl⟩:=ao8.1 hr
   obtain⟨h1,h2⟩:=mE.1 hq
   rcases hb.l q h1 h2 with h|h<;>omega) Fe)
  have h6:kW ws.length (fun i=>ws.getD i 0*(s.step.d i:Int))=kW ws.length (fun i=>ws.getD i 0*(s.d i:Int))+(s.a.1+s.b.1):=by
   rw[←h.wt _ ha.m]
   conv=>rhs;arg 2;arg 2;rw[←h.wt _ BW]
   rw[←zJ,←zJ]
   refine xI fun i hi=>?_
   have rR:i<s.at_:=by omega
   rw[hd i rR]
   by_cases e1:s.R i=s.a.2
   ·rw[if_pos (Or.inl e1),if_pos e1,if_neg (by omega),show((s.d i+1:Nat):Int)=(s.d i:Int)+1 by omega,Int.mul_add,Int.mul_one];omega
   ·by_cases e2:s.R i=s.b.2
    ·rw[if_pos (Or.inr e2),if_neg e1,if_pos e2,show((s.d i+1:Nat):Int)=(s.d i:Int)+1 by omega,Int.mul_add,Int.mul_one];omega
    ·have e3:¬ (s.R i=s.a.2∨s.R i=s.b.2):=by omega
     rw[if_neg e3,if_neg e1,if_neg e2];omega
  rw[h6]
  rw[show c+(kW ws.length (fun i=>ws.getD i 0*(s.d i:Int))+(s.a.1+s.b.1))=c+(s.a.1+s.b.1)+kW ws.length (fun i=>ws.getD i 0*(s.d i:Int)) by omega]
  exact h5
theorem xL.run(ws:List Int):∀k,k<ws.length→xL ws k (ot k (jf ws)):=by
 intro k
 induction k with
 |zero=>intro _;exact xL.init ws
 |succ k ih=>intro hk;exact(ih (by omega)).step hk
end Go.Proofs.YthpjfeolagohkaaGreat

namespace Go.Proofs.YthpjfeolagohkaaGreat
structure MT(ws:List Int)(s:IA):Prop where
 at_:s.at_=2*ws.length - 1
 root:∀i,i<s.at_→s.R i=2*ws.length - 2
 Pu:s.d (2*ws.length - 2)=0
 up:∀i,i<2*ws.length - 2→i<s.up i∧s.up i≤2*ws.length - 2∧s.d i=s.d (s.up i)+1
 dl:∀i,i<s.at_→s.d i≤ws.length - 1
 kr:sF ws.length (fun i=>2^ (ws.length - s.d i))=2^ws.length
 huf:G7 ws (kW ws.length (fun i=>ws.getD i 0*(s.d i:Int)))
def BX(ws:List Int):IA:=ot (ws.length - 1) (jf ws)
theorem MT.MP{ws:List Int}(hn:1≤ws.length):MT ws (BX ws):=by
 have h:=xL.run ws (ws.length - 1) (by omega)
 unfold BX
 generalize ot (ws.length - 1) (jf ws)=s at*
 have lC:=h.at_
 have hl:=h.len
 obtain⟨p,hp⟩:∃p,s.bT=[p]:=by
  match s.bT,hl with
  | [p],_=>exact⟨p,rfl⟩
  | [],hl=>simp at hl;omega
  |_::_::_,hl=>simp at hl;omega
 have tC:p∈s.bT:=by rw[hp];simp
 have MU:=h.lt p tC
 have hR:∀i,i<s.at_→s.R i=p.2∧i≤p.2:=fun i hi=>by
  obtain⟨⟨q,hq,e⟩,h2⟩:=h.rt i hi
  rw[hp,aoH]at hq
  rw[hq]at e
  omega
 have tJ:p.2=2*ws.length - 2:=by
  have:=(hR (s.at_ - 1) (by omega)).2
  omega
 obtain⟨_,hd⟩:=h.Ue p tC
 refine⟨by omega,fun i hi=>by rw[(hR i hi).1,tJ],by rw[←tJ];exact hd,fun i hi=>?_,fun i hi=>h.dl i hi,?_,?_⟩
 ·obtain⟨u1,u2,u3,u4⟩:=h.upI i (by omega) (by rw[(hR i (by omega)).1];omega)
  exact⟨u1,by omega,u4⟩
 ·rw[←h.kr p tC]
  exact xJ fun i hi=>by rw[if_pos (hR i (by omega)).1]
 ·have:=h.huf 0 (by rw[hp];exact .one _)
  rwa[Int.zero_add]at this
theorem Xi(M n:Nat)(d:Nat→Nat):kS M ((List.range n).map d)=sF n fun i=>2^ (M - d i):=by
 unfold kS sF
 rw[apE]
 rfl
theorem RP(ws:List Int):(Fc ws).length=ws.length:=by unfold Fc;simp
theorem Jc{ws:List Int}(hn:1≤ws.length):∀n∈Fc ws,n≤ws.length - 1:=by
 intro n h
 obtain⟨i,hi,rfl⟩:=ao8.1 h
 have hi:=apx.1 hi
 exact(MT.MP hn).dl i (by rw[(MT.MP hn).at_];omega)
theorem KM{ws:List Int}(hn:2≤ws.length):∀n∈Fc ws,1≤n:=by
 intro n h
 obtain⟨i,hi,rfl⟩:=ao8.1 h
 have hi:=apx.1 hi
 have:=(MT.MP (ws:=ws) (by omega)).up i (by omega)
 show 1≤(BX ws).d i
 omega
theorem Pv{ws:List Int}(hn:1≤ws.length):kS ws.length (Fc ws)=2^ws.length:=by
 unfold Fc
 rw[Xi]
 exact(MT.MP hn).kr
theorem KN{n:Nat}{f:Nat→Int}(h:∀i,i<n→0≤f i):0≤kW n f:=by
 induction n with
 |zero=>exact aqr _
 |succ n ih=>
  rw[jC]
  grind
end Go.Proofs.YthpjfeolagohkaaGreat
