/- Texts put behind each other. -/
import Derived.Test.YtjlnnljohemifaaGreatK98
set_option maxRecDepth 100000
set_option maxHeartbeats 8000000
set_option linter.unusedVariables false
set_option linter.unusedSimpArgs false
namespace Go.Proofs.YtjlnnljohemifaaGreat
end Go.Proofs.YtjlnnljohemifaaGreat

namespace Go.Proofs.YtjlnnljohemifaaGreat
theorem J0{a b:List Int}(h:a.Perm b):a.sum=b.sum:=by
 induction h with
 |nil=>rfl
 |cons x _ ih=>rw[aph,aph,ih]
 |swap x y l=>simp only[aph];omega
 |trans _ _ h1 h2=>rw[h1,h2]
inductive IH:List Int→Int→Prop
 |one (w:Int):IH [w] 0
 |step {P R:List Int} {a b c:Int} (hp:P.Perm (a::b::R)) (zI:a≤b) (hR:∀r∈R,b≤r) (h:IH ((a+b)::R) c):IH P (c+(a+b))
theorem IH.perm{P Q:List Int}{c:Int}(h:IH P c)(hp:Q.Perm P):IH Q c:=by
 cases h with
 |one w=>rw[List.perm_singleton.1 hp];exact .one w
 |step h1 h2 h3 h4=>exact .step (hp.trans h1) h2 h3 h4
end Go.Proofs.YtjlnnljohemifaaGreat

namespace Go.Proofs.YtjlnnljohemifaaGreat
def xT(n:Nat)(f:Nat→Int):Int:=((List.range n).map f).sum
def BF(n:Nat)(f:Nat→Nat):Nat:=((List.range n).map f).sum
theorem pj(n:Nat)(f:Nat→Int):xT (n+1) f=xT n f+f n:=by
 unfold xT
 rw[apA,an8,List.sum_append,apb,aph,List.sum_nil]
 omega
theorem jT(n:Nat)(f:Nat→Nat):BF (n+1) f=BF n f+f n:=by
 unfold BF
 rw[apA,an8,List.sum_append,apb,aph,List.sum_nil]
 omega
theorem xU{n:Nat}{f g:Nat→Int}(h:∀i,i<n→f i=g i):xT n f=xT n g:=by
 induction n with
 |zero=>rfl
 |succ n ih=>rw[pj,pj,ih (fun i hi=>h i (by omega)),h n (by omega)]
theorem EK{n:Nat}{f g:Nat→Nat}(h:∀i,i<n→f i=g i):BF n f=BF n g:=by
 induction n with
 |zero=>rfl
 |succ n ih=>rw[jT,jT,ih (fun i hi=>h i (by omega)),h n (by omega)]
theorem EL(n:Nat)(f g:Nat→Int):xT n (fun i=>f i+g i)=xT n f+xT n g:=by
 induction n with
 |zero=>rfl
 |succ n ih=>rw[pj,pj,pj,ih];omega
theorem QJ(n:Nat)(f g:Nat→Nat):BF n (fun i=>f i+g i)=BF n f+BF n g:=by
 induction n with
 |zero=>rfl
 |succ n ih=>rw[jT,jT,jT,ih];omega
theorem QK(n:Nat)(f:Nat→Nat):BF n (fun i=>2*f i)=2*BF n f:=by
 induction n with
 |zero=>rfl
 |succ n ih=>rw[jT,jT,ih];omega
structure LZ where
 eR:List (Int×Nat)
 at_:Nat
 R:Nat→Nat
 d:Nat→Nat
 up:Nat→Nat
def NO(p:Int×Nat):List (Int×Nat)→Int×Nat
 | []=>p
 |q::r=>if q.1<p.1 then NO q r else NO p r
def VJ:List (Int×Nat)→Int×Nat
 | []=>(0,0)
 |p::r=>NO p r
def wo(l:List (Int×Nat))(p:Int×Nat):List (Int×Nat):=l.filter fun q=>decide (q.2≠p.2)
def LZ.a(s:LZ):Int×Nat:=VJ s.eR
def LZ.b(s:LZ):Int×Nat:=VJ (wo s.eR s.a)
def LZ.step(s:LZ):LZ:=⟨wo (wo s.eR s.a) s.b++[(s.a.1+s.b.1,s.at_)],s.at_+1,
 fun i=>if i=s.at_ then i else if s.R i=s.a.2∨s.R i=s.b.2 then s.at_ else s.R i,
 fun i=>if i=s.at_ then 0 else if s.R i=s.a.2∨s.R i=s.b.2 then s.d i+1 else s.d i,
 fun i=>if i=s.a.2∨i=s.b.2 then s.at_ else s.up i⟩
def ZG(ws:List Int):LZ:=⟨(List.range ws.length).map (fun i=>(ws.getD i 0,i)),ws.length,id,fun _=>0,fun _=>0⟩
def Du:Nat→LZ→LZ
 |0,s=>s
 |k+1,s=>(Du k s).step
theorem II(p:Int×Nat):∀ (r:List (Int×Nat)),NO p r∈p::r:=by
 intro r
 induction r generalizing p with
 |nil=>simp[NO]
 |cons q r ih=>
  unfold NO
  split
  ·exact anZ _ (ih q)
  ·have:=ih p
   simp only[anF]at this ⊢
   rcases this with h|h
   ·exact .inl h
   ·exact .inr (.inr h)
def EM(l:List (Int×Nat)):Prop:=l.Pairwise fun p q=>p.2<q.2
theorem VK(p:Int×Nat):∀ (r:List (Int×Nat)),EM (p::r)→∀q∈p::r,q.2≠(NO p r).2→(NO p r).1<q.1∨((NO p r).1=q.1∧(NO p r).2<q.2):=by
 intro r
 induction r generalizing p with
 |nil=>
  intro _ q hq aP
  rcases anF.1 hq with rfl|hq
  ·exact absurd rfl aP
  ·cases hq
 |cons c r ih=>
  intro hr q hq aP
  have zD:=aoR.1 hr
  have Td:=aoR.1 zD.2
  unfold NO at aP ⊢
  split at aP
  ·rename_i aO
   rw[if_pos aO]
   rcases anF.1 hq with rfl|hq
   ·by_cases e:c.2=(NO c r).2
    ·have hm:=II c r
     rcases anF.1 hm with h|h
     ·rw[h];exact .inl aO
     ·have:=Td.1 _ h;omega
    ·rcases ih c zD.2 c (by simp) e with h|h<;>exact .inl (by omega)
   ·exact ih c zD.2 q hq aP
  ·rename_i aO
   rw[if_neg aO]
   have ZH:EM (p::r):=aoR.2 ⟨fun z hz=>zD.1 z (by simp[hz]),Td.2⟩
   rcases anF.1 hq with rfl|hq
   ·exact ih q ZH q (by simp) aP
   ·rcases anF.1 hq with rfl|hq
    ·have NP:=zD.1 q (by simp)
     by_cases e:p.2=(NO p r).2
     ·have hm:=II p r
      rcases anF.1 hm with h|h
      ·rw[h];omega
      ·have:=zD.1 _ (anZ _ h);omega
     ·rcases ih p ZH p (by simp) e with h|h
      ·exact .inl (by omega)
      ·by_cases e2:(NO p r).1=q.1
       ·exact .inr ⟨e2,by omega⟩
       ·exact .inl (by omega)
    ·exact ih p ZH q (by simp[hq]) aP
structure Ys(p:Int×Nat)(l:List (Int×Nat)):Prop where
 m:p∈l
 l:∀q∈l,q.2≠p.2→p.1<q.1∨(p.1=q.1∧p.2<q.2)
theorem NQ{l:List (Int×Nat)}(h:EM l)(h0:l≠[]):Ys (VJ l) l:=by
 cases l with
 |nil=>exact absurd rfl h0
 |cons p r=>exact⟨II p r,VK p r h⟩
theorem mM{l:List (Int×Nat)}{p q:Int×Nat}:q∈wo l p↔q∈l∧q.2≠p.2:=by unfold wo;rw[aop];simp
theorem EM.wo{l:List (Int×Nat)}(h:EM l)(p:Int×Nat):EM (wo l p):=List.Pairwise.sublist List.filter_sublist h
theorem IJ{l:List (Int×Nat)}(h:EM l){p:Int×Nat}(hp:p∈l):l.Perm (p::wo l p):=by
 induction l with
 |nil=>cases hp
 |cons c r ih=>
  have h2:=aoR.1 h
  unfold wo
  rw[aoC]
  rcases anF.1 hp with rfl|hp
  ·rw[if_neg (by simp)]
   have:r.filter (fun q=>decide (q.2≠p.2))=r:=by
    rw[aoV]
    intro q hq
    have:=h2.1 q hq
    simp
    omega
   rw[this]
  ·have hc:=h2.1 p hp
   rw[if_pos (by simp;omega)]
   exact((ih h2.2 hp).cons c).trans (List.Perm.swap _ _ _)
structure Te(ws:List Int)(k:Nat)(s:LZ):Prop where
 ids:EM s.eR
 lt:∀p∈s.eR,p.2<s.at_
 at_:s.at_=ws.length+k
 len:s.eR.length+k=ws.length
 rt:∀i,i<s.at_→(∃p∈s.eR,p.2=s.R i)∧i≤s.R i
 OJ:∀p∈s.eR,s.R p.2=p.2∧s.d p.2=0
 upI:∀i,i<s.at_→s.R i≠i→i<s.up i∧s.up i<s.at_∧s.R i=s.R (s.up i)∧s.d i=s.d (s.up i)+1
 wt:∀p∈s.eR,xT ws.length (fun i=>if s.R i=p.2 then ws.getD i 0 else 0)=p.1
 dl:∀i,i<s.at_→s.d i≤k
 kr:∀p∈s.eR,BF ws.length (fun i=>if s.R i=p.2 then 2^ (ws.length - s.d i)else 0)=2^ws.length
 huf:∀c,IH (s.eR.map (·.1)) c→IH ws (c+xT ws.length (fun i=>ws.getD i 0*(s.d i:Int)))
theorem LZ.ZI{ws:List Int}{k:Nat}{s:LZ}(h:Te ws k s)(hk:k+1<ws.length):Ys s.a s.eR∧Ys s.b (wo s.eR s.a)∧s.a.2≠s.b.2∧s.b∈s.eR∧s.eR.Perm (s.a::s.b::wo (wo s.eR s.a) s.b):=by
 have hl:=h.len
 have h1:Ys s.a s.eR:=NQ h.ids (fun e=>by rw[e]at hl;simp at hl;omega)
 have p1:=IJ h.ids h1.m
 have h2:Ys s.b (wo s.eR s.a):=NQ (h.ids.wo _) (fun e=>by
  have:=p1.length_eq
  rw[e]at this
  simp at this
  omega)
 obtain⟨m1,m2⟩:=mM.1 h2.m
 exact⟨h1,h2,fun e=>m2 e.symm,m1,p1.trans ((IJ (h.ids.wo _) h2.m).cons _)⟩
theorem Te.step{ws:List Int}{k:Nat}{s:LZ}(h:Te ws k s)(hk:k+1<ws.length):Te ws (k+1) s.step:=by
 obtain⟨ha,hb,zI,EN,hp⟩:=LZ.ZI h hk
 have u0:=h.at_
 have la:=h.lt _ ha.m
 have lb:=h.lt _ EN
 have bL:∀q,q∈s.step.eR→(q∈s.eR∧q.2≠s.a.2∧q.2≠s.b.2)∨q=(s.a.1+s.b.1,s.at_):=fun q hq=>by
  rcases anH.1 hq with hq|hq
  ·obtain⟨h1,h2⟩:=mM.1 hq
   obtain⟨h3,h4⟩:=mM.1 h1
   exact .inl ⟨h3,h4,h2⟩
  ·exact .inr (by simpa using hq)
 have hR:∀i,i<s.at_→s.step.R i=if s.R i=s.a.2∨s.R i=s.b.2 then s.at_ else s.R i:=fun i hi=>by show(if i=s.at_ then i else _)=_;rw[if_neg (by omega)]
 have hd:∀i,i<s.at_→s.step.d i=if s.R i=s.a.2∨s.R i=s.b.2 then s.d i+1 else s.d i:=fun i hi=>by show(if i=s.at_ then 0 else _)=_;rw[if_neg (by omega)]
 have hRa:s.step.R s.at_=s.at_:=by show(if s.at_=s.at_ then s.at_ else _)=_;rw[if_pos rfl]
 have hda:s.step.d s.at_=0:=by show(if s.at_=s.at_ then 0 else _)=_;rw[if_pos rfl]
 have ZJ:∀i,i<s.at_→s.R i<s.at_:=fun i hi=>by obtain⟨⟨p,p1,p2⟩,_⟩:=h.rt i hi;rw[←p2];exact h.lt p p1
 have sa:=h.OJ _ ha.m
 have sb:=h.OJ _ EN
 refine⟨?_,fun p sL=>?_,by show s.at_+1=_;omega,?_,fun i hi=>?_,fun p sL=>?_,fun i hi aP=>?_,fun p sL=>?_,fun i hi=>?_,fun p sL=>?_,fun c hc=>?_⟩
 ·show EM (_++_)
  unfold EM
  rw[apk]
  refine⟨(h.ids.wo _).wo _,by simp,fun q hq z hz=>?_⟩
  obtain⟨h1,_⟩:=mM.1 hq
  obtain⟨h3,_⟩:=mM.1 h1
  rw[anC.1 hz]
  exact h.lt q h3
 ·show p.2<s.at_+1
  rcases bL p sL with h1|h1
  ·have:=h.lt p h1.1;omega
  ·rw[h1];simp
 ·have h1:=hp.length_eq
  have h2:=h.len
  show(wo (wo s.eR s.a) s.b++[_]).length+(k+1)=_
  simp at h1 ⊢
  omega
 ·have mI:i<s.at_+1:=hi
  by_cases e:i=s.at_
  ·rw[e,hRa]
   exact⟨⟨(s.a.1+s.b.1,s.at_),aoq _ (by simp),rfl⟩,anG _⟩
  ·have qz:i<s.at_:=by omega
   obtain⟨⟨p,p1,p2⟩,h4⟩:=h.rt i qz
   rw[hR i qz]
   split
   ·exact⟨⟨(s.a.1+s.b.1,s.at_),aoq _ (by simp),rfl⟩,by omega⟩
   ·rename_i hn
    refine⟨⟨p,anL _ (mM.2 ⟨mM.2 ⟨p1,fun e=>hn (.inl (by omega))⟩,fun e=>hn (.inr (by omega))⟩),p2⟩,h4⟩
 ·rcases bL p sL with ⟨h1,h2,h3⟩|h1
  ·have h4:=h.lt p h1
   obtain⟨h5,h6⟩:=h.OJ p h1
   rw[hR _ h4,hd _ h4,h5,if_neg (by omega),if_neg (by omega)]
   exact⟨rfl,h6⟩
  ·rw[h1];exact⟨hRa,hda⟩
 ·have mI:i<s.at_+1:=hi
  have e:i≠s.at_:=fun e=>aP (by rw[e,hRa])
  have qz:i<s.at_:=by omega
  have EO:s.step.up i=if i=s.a.2∨i=s.b.2 then s.at_ else s.up i:=rfl
  rw[EO]
  by_cases J1:i=s.a.2∨i=s.b.2
  ·rw[if_pos J1]
   have hRi:s.R i=i∧s.d i=0:=by
    rcases J1 with e|e
    ·rw[e];exact sa
    ·rw[e];exact sb
   rw[hRa,hda,hR i qz,hd i qz,hRi.1,if_pos J1,if_pos J1,hRi.2]
   exact⟨qz,by show s.at_<s.at_+1;omega,rfl,rfl⟩
  ·rw[if_neg J1]
   have hRi:s.R i≠i:=fun e2=>aP (by
    rw[hR i qz,e2,if_neg J1])
   obtain⟨u1,u2,u3,u4⟩:=h.upI i qz hRi
   rw[hR i qz,hd i qz,hR _ u2,hd _ u2,←u3]
   refine⟨u1,by show s.up i<s.at_+1;omega,rfl,?_⟩
   split<;>omega
 ·rcases bL p sL with ⟨h1,h2,h3⟩|h1
  ·rw[←h.wt p h1]
   refine xU fun i hi=>?_
   have qz:i<s.at_:=by omega
   have:=h.lt p h1
   rw[hR i qz]
   by_cases e:s.R i=s.a.2∨s.R i=s.b.2
   ·rw[if_pos e,if_neg (by omega),if_neg (by omega)]
   ·rw[if_neg e]
  ·rw[h1]
   show xT ws.length (fun i=>if s.step.R i=s.at_ then ws.getD i 0 else 0)=s.a.1+s.b.1
   rw[←h.wt _ ha.m,←h.wt _ EN,←EL]
   refine xU fun i hi=>?_
   have qz:i<s.at_:=by omega
   have:=ZJ i qz
   rw[hR i qz]
   by_cases e1:s.R i=s.a.2
   ·rw[if_pos (Or.inl e1),if_pos rfl,if_pos e1,if_neg (by omega)];omega
   ·by_cases e2:s.R i=s.b.2
    ·rw[if_pos (Or.inr e2),if_pos rfl,if_neg e1,if_pos e2];omega
    ·have e3:¬ (s.R i=s.a.2∨s.R i=s.b.2):=by omega
     rw[if_neg e3,if_neg (show¬s.R i=s.at_ by omega),if_neg e1,if_neg e2];rfl
 ·have mI:i<s.at_+1:=hi
  by_cases e:i=s.at_
  ·rw[e,hda];omega
  ·have:=h.dl i (by omega)
   rw[hd i (by omega)]
   split<;>omega
 ·rcases bL p sL with ⟨h1,h2,h3⟩|h1
  ·rw[←h.kr p h1]
   refine EK fun i hi=>?_
   have qz:i<s.at_:=by omega
   have:=h.lt p h1
   rw[hR i qz,hd i qz]
   by_cases e:s.R i=s.a.2∨s.R i=s.b.2
   ·rw[if_pos e,if_neg (by omega),if_neg (by omega)]
   ·rw[if_neg e,if_neg e]
  ·rw[h1]
   have h5:2*BF ws.length (fun i=>if s.step.R i=s.at_ then 2^ (ws.length - s.step.d i)else 0)=2^ws.length+2^ws.length:=by
    rw[←QK,←h.kr _ ha.m]
    conv=>rhs;rw[h.kr _ ha.m];arg 2;rw[←h.kr _ EN]
    rw[←h.kr _ ha.m,←QJ]
    refine EK fun i hi=>?_
    have qz:i<s.at_:=by omega
    have:=ZJ i qz
    have hdl:=h.dl i qz
    rw[hR i qz,hd i qz]
    have e2:2*2^ (ws.length - (s.d i+1))=2^ (ws.length - s.d i):=by
     rw[show ws.length - s.d i=(ws.length - (s.d i+1))+1 by omega,Nat.pow_succ]
     omega
    by_cases e1:s.R i=s.a.2
    ·rw[if_pos (Or.inl e1),if_pos rfl,if_pos (Or.inl e1),if_pos e1,if_neg (by omega),e2,Nat.add_zero]
    ·by_cases e3:s.R i=s.b.2
     ·rw[if_pos (Or.inr e3),if_pos rfl,if_pos (Or.inr e3),if_neg e1,if_pos e3,e2];omega
     ·have e4:¬ (s.R i=s.a.2∨s.R i=s.b.2):=by omega
      rw[if_neg e4,if_neg (show¬s.R i=s.at_ by omega),if_neg e1,if_neg e3]
   show BF ws.length (fun i=>if s.step.R i=s.at_ then 2^ (ws.length - s.step.d i)else 0)=_
   omega
 ·have tF:IH ((s.a.1+s.b.1)::(wo (wo s.eR s.a) s.b).map (·.1)) c:=by
   refine hc.perm ?_
   show List.Perm _ ((wo (wo s.eR s.a) s.b++[(s.a.1+s.b.1,s.at_)]).map (·.1))
   rw[an8]
   exact aou (l₁:=[s.a.1+s.b.1])
  have h5:=h.huf (c+(s.a.1+s.b.1)) (.step (hp.map (·.1)) (by
   rcases ha.l _ EN (Ne.symm zI)with h|h<;>omega) (fun r hr=>by
   obtain⟨q,hq,rfl⟩:=anS.1 hr
   obtain⟨h1,h2⟩:=mM.1 hq
   rcases hb.l q h1 h2 with h|h<;>omega) tF)
  have h6:xT ws.length (fun i=>ws.getD i 0*(s.step.d i:Int))=xT ws.length (fun i=>ws.getD i 0*(s.d i:Int))+(s.a.1+s.b.1):=by
   rw[←h.wt _ ha.m]
   conv=>rhs;arg 2;arg 2;rw[←h.wt _ EN]
   rw[←EL,←EL]
   refine xU fun i hi=>?_
   have qz:i<s.at_:=by omega
   rw[hd i qz]
   by_cases e1:s.R i=s.a.2
   ·rw[if_pos (Or.inl e1),if_pos e1,if_neg (by omega),show((s.d i+1:Nat):Int)=(s.d i:Int)+1 by omega,Int.mul_add,Int.mul_one];omega
   ·by_cases e2:s.R i=s.b.2
    ·rw[if_pos (Or.inr e2),if_neg e1,if_pos e2,show((s.d i+1:Nat):Int)=(s.d i:Int)+1 by omega,Int.mul_add,Int.mul_one];omega
    ·have e3:¬ (s.R i=s.a.2∨s.R i=s.b.2):=by omega
     rw[if_neg e3,if_neg e1,if_neg e2];omega
  rw[h6]
  rw[show c+(xT ws.length (fun i=>ws.getD i 0*(s.d i:Int))+(s.a.1+s.b.1))=c+(s.a.1+s.b.1)+xT ws.length (fun i=>ws.getD i 0*(s.d i:Int)) by omega]
  exact h5
end Go.Proofs.YtjlnnljohemifaaGreat

namespace Go.Proofs.YtjlnnljohemifaaGreat
def OK(ws:List Int):LZ:=Du (ws.length - 1) (ZG ws)
end Go.Proofs.YtjlnnljohemifaaGreat

namespace Go.Proofs.YtjlnnljohemifaaGreat
abbrev E2:=Nat×Nat
def EP(p:Nat→Nat)(e:E2):Nat→Nat:=fun v=>if p v=max (p e.1) (p e.2)then min (p e.1) (p e.2)else p v
def aF(ks:List E2):Nat→Nat:=ks.foldl EP id
theorem HX:aF []=id:=rfl
theorem qC(ks:List E2)(e:E2):aF (ks++[e])=EP (aF ks) e:=by unfold aF;rw[List.foldl_append];rfl
theorem qD{α:Type}{P:List α→Prop}(h0:P [])(h1:∀l x,P l→P (l++[x])):∀l,P l:=by
 intro l
 have:∀r:List α,P r.reverse:=by
  intro r
  induction r with
  |nil=>exact h0
  |cons x r ih=>rw[List.reverse_cons];exact h1 _ _ ih
 have:=this l.reverse
 rwa[List.reverse_reverse]at this
theorem HY:∀ks:List E2,(∀v,aF ks v≤v)∧∀v,aF ks (aF ks v)=aF ks v:=by
 refine qD ⟨fun v=>anG _,fun v=>rfl⟩ fun ks e ⟨h1,h2⟩=>?_
 rw[qC]
 constructor
 ·intro v
  unfold EP
  have:=h1 v
  split<;>omega
 ·intro v
  have a:=h2 v
  have b:=h2 e.1
  have c:=h2 e.2
  unfold EP
  by_cases hv:aF ks v=max (aF ks e.1) (aF ks e.2)
  ·rw[if_pos hv]
   by_cases hm:aF ks e.1≤aF ks e.2
   ·rw[aoQ hm,Nat.max_eq_right hm,b]
    split<;>rfl
   ·rw[Nat.min_eq_right (by omega),Nat.max_eq_left (by omega),c]
    split<;>rfl
  ·rw[if_neg hv,a,if_neg hv]
theorem mN(ks:List E2)(v:Nat):aF ks v≤v:=(HY ks).1 v
theorem jU(ks:List E2)(v:Nat):aF ks (aF ks v)=aF ks v:=(HY ks).2 v
def bH(ks:List E2)(u v:Nat):Prop:=aF ks u=aF ks v
theorem bH.rfl{ks:List E2}{u:Nat}:bH ks u u:=Eq.refl _
theorem bH.symm{ks:List E2}{u v:Nat}(h:bH ks u v):bH ks v u:=Eq.symm h
theorem bH.trans{ks:List E2}{u v x:Nat}(h:bH ks u v)(k:bH ks v x):bH ks u x:=Eq.trans h k
theorem u9(ks:List E2)(v:Nat):bH ks (aF ks v) v:=jU ks v
instance(ks:List E2)(u v:Nat):Decidable (bH ks u v):=inferInstanceAs (Decidable (_=_))
theorem ve(ks:List E2)(e:E2)(u v:Nat):bH (ks++[e]) u v↔bH ks u v∨(bH ks u e.1∧bH ks v e.2)∨(bH ks u e.2∧bH ks v e.1):=by
 unfold bH
 rw[qC]
 unfold EP
 rcases Nat.le_total (aF ks e.1) (aF ks e.2)with h|h
 ·rw[aoQ h,Nat.max_eq_right h]
  split<;>split<;>omega
 ·rw[Nat.min_eq_right h,Nat.max_eq_left h]
  split<;>split<;>omega
theorem mO{ks:List E2}{e:E2}(h:e∈ks):bH ks e.1 e.2:=by
 revert h
 refine qD (P:=fun ks=>e∈ks→bH ks e.1 e.2) (by simp) (fun ks x ih h=>?_) ks
 rw[ve]
 rcases anH.1 h with h|h
 ·exact .inl (ih h)
 ·rw[anC]at h
  subst h
  exact .inr (.inl ⟨bH.rfl,bH.rfl⟩)
theorem EQ{ks:List E2}{Q:Nat→Nat→Prop}(hr:∀u,Q u u)(hs:∀u v,Q u v→Q v u)(ht:∀u v x,Q u v→Q v x→Q u x)(he:∀e∈ks,Q e.1 e.2){u v:Nat}(h:bH ks u v):Q u v:=by
 revert he u v
 refine qD (P:=fun ks=>(∀e∈ks,Q e.1 e.2)→∀ {u v:Nat},bH ks u v→Q u v) ?_ ?_ ks
 ·intro _ u v h
  have:u=v:=h
  subst this
  exact hr u
 ·intro ks x ih he u v h
  have ZK:=fun{u v}=>@ih (fun e h=>he e (anL _ h)) u v
  have hx:=he x (by simp)
  rw[ve]at h
  rcases h with h| ⟨h1,h2⟩| ⟨h1,h2⟩
  ·exact ZK h
  ·exact ht _ _ _ (ZK h1) (ht _ _ _ hx (hs _ _ (ZK h2)))
  ·exact ht _ _ _ (ZK h1) (ht _ _ _ (hs _ _ hx) (hs _ _ (ZK h2)))
theorem pk{ks ks':List E2}(h:∀e∈ks,bH ks' e.1 e.2){u v:Nat}(k:bH ks u v):bH ks' u v:=
 EQ (fun _=>bH.rfl) (fun _ _=>bH.symm) (fun _ _ _=>bH.trans) h k
theorem fB{ks ks':List E2}(h:∀e∈ks,e∈ks'){u v:Nat}(k:bH ks u v):bH ks' u v:=pk (fun e he=>mO (h e he)) k
theorem J2(ks:List E2)(v:Nat):aF ks v=v↔∀u,bH ks u v→v≤u:=by
 constructor
 ·intro h u hu
  have:aF ks u=v:=Eq.trans hu h
  have:=mN ks u
  omega
 ·intro h
  have h1:=h _ (u9 ks v)
  have:=mN ks v
  omega
theorem tI{ks ks':List E2}(h:∀u v,bH ks u v↔bH ks' u v):aF ks=aF ks':=by
 funext v
 have h1:bH ks' (aF ks v) v:=(h _ _).1 (u9 ks v)
 have h2:bH ks (aF ks' v) v:=(h _ _).2 (u9 ks' v)
 have a1:aF ks' (aF ks v)=aF ks' v:=h1
 have a2:aF ks (aF ks' v)=aF ks v:=h2
 have:=mN ks' (aF ks v)
 have:=mN ks (aF ks' v)
 omega
def cls(n:Nat)(ks:List E2):Nat:=((List.range n).filter fun v=>aF ks v==v).length
theorem xn{α:Type}(p q:α→Bool):∀l:List α,(∀x∈l,p x=true→q x=true)→(l.filter p).length≤(l.filter q).length:=by
 intro l
 induction l with
 |nil=>intro _;simp
 |cons x l ih=>
  intro h
  have h1:=ih fun y hy=>h y (anZ _ hy)
  have h2:=h x (aok ..)
  rw[aoC,aoC]
  cases hp:p x
  ·cases hq:q x<;>simp<;>omega
  ·rw[h2 hp];simp;omega
theorem xo{α:Type}(p q:α→Bool):∀l:List α,(∀x∈l,p x=true→q x=true)→(l.filter p).length=(l.filter q).length→∀x∈l,q x=true→p x=true:=by
 intro l
 induction l with
 |nil=>intro _ _ x hx;cases hx
 |cons x l ih=>
  intro h hl y hy hqy
  have h1:=xn p q l fun y hy=>h y (anZ _ hy)
  have h2:=h x (aok ..)
  rw[aoC,aoC]at hl
  cases hp:p x
  ·cases hq:q x
   ·rw[hp,hq]at hl
    rcases anF.1 hy with rfl|hy
    ·rw[hqy]at hq;cases hq
    ·exact ih (fun z hz=>h z (anZ _ hz)) (by simpa using hl) y hy hqy
   ·rw[hp,hq]at hl;simp at hl;omega
  ·rw[hp,h2 hp]at hl
   rcases anF.1 hy with rfl|hy
   ·exact hp
   ·exact ih (fun z hz=>h z (anZ _ hz)) (by simpa using hl) y hy hqy
theorem VL(n:Nat){ks ks':List E2}(h:∀u v,bH ks u v→bH ks' u v):cls n ks'≤cls n ks:=by
 refine xn _ _ _ fun v _ hv=>?_
 rw[beq_iff_eq,J2]at hv ⊢
 exact fun u hu=>hv u (h u v hu)
theorem VM{n:Nat}{ks ks':List E2}(h:∀u v,bH ks u v→bH ks' u v)(hc:cls n ks'=cls n ks){u v:Nat}(hu:u<n)(hv:v<n)(k:bH ks' u v):bH ks u v:=by
 have key:=xo (fun v=>aF ks' v==v) (fun v=>aF ks v==v) (List.range n) (fun v _ hv=>by
  rw[beq_iff_eq,J2]at hv ⊢
  exact fun u hu=>hv u (h u v hu)) hc
 have root:∀x,x<n→aF ks' x=aF ks x:=fun x hx=>by
  have hr:=mN ks x
  have h1:=key (aF ks x) (aoy.2 (by omega)) (by rw[beq_iff_eq];exact jU ks x)
  rw[beq_iff_eq]at h1
  have h2:aF ks' (aF ks x)=aF ks' x:=h _ _ (u9 ks x)
  omega
 show aF ks u=aF ks v
 rw[←root u hu,←root v hv]
 exact k
inductive iH:List E2→Prop
 |nil:iH []
 |snoc (ks:List E2) (e:E2) (h:iH ks) (he:¬bH ks e.1 e.2):iH (ks++[e])
theorem HZ{ks:List E2}{e:E2}:iH (ks++[e])↔iH ks∧¬bH ks e.1 e.2:=by
 constructor
 ·intro h
  generalize hk:ks++[e]=l at h
  cases h with
  |nil=>simp at hk
  |snoc ks' e' h he=>
   have:=List.append_inj' hk rfl
   obtain⟨h1,h2⟩:=this
   simp at h2
   subst h1;subst h2
   exact⟨h,he⟩
 ·rintro⟨h,he⟩;exact .snoc ks e h he
theorem ER{n:Nat}{ks:List E2}{e:E2}(h1:e.1<n)(h2:e.2<n)(hn:¬bH ks e.1 e.2):cls n (ks++[e])+1=cls n ks:=by
 unfold cls
 have hm:max (aF ks e.1) (aF ks e.2)<n:=by have:=mN ks e.1;have:=mN ks e.2;omega
 have aP:aF ks e.1≠aF ks e.2:=hn
 have UM:aF ks (max (aF ks e.1) (aF ks e.2))=max (aF ks e.1) (aF ks e.2):=by
  rcases Nat.le_total (aF ks e.1) (aF ks e.2)with h|h
  ·rw[Nat.max_eq_right h];exact jU ks _
  ·rw[Nat.max_eq_left h];exact jU ks _
 generalize hM:max (aF ks e.1) (aF ks e.2)=M at*
 have hq:∀v,(aF (ks++[e]) v==v)=((aF ks v==v) && !(v==M)):=by
  intro v
  rw[qC]
  unfold EP
  rw[hM]
  by_cases hv:aF ks v=M
  ·rw[if_pos hv]
   by_cases hvM:v=M
   ·have:¬ (min (aF ks e.1) (aF ks e.2)=v):=by omega
    simp[hvM];omega
   ·have h3:¬ (aF ks v=v):=by omega
    have h4:min (aF ks e.1) (aF ks e.2)≠v:=by
     intro h
     have:aF ks v=v:=by
      rw[←h]
      rcases Nat.le_total (aF ks e.1) (aF ks e.2)with h|h
      ·rw[aoQ h];exact jU ks _
      ·rw[Nat.min_eq_right h];exact jU ks _
     exact h3 this
    rw[beq_eq_false_iff_ne.2 h4,beq_eq_false_iff_ne.2 h3];rfl
  ·rw[if_neg hv]
   have:v≠M:=fun h=>hv (by rw[h];exact UM)
   simp[this]
 have VN:∀l:List Nat,l.Nodup→M∈l→(l.filter fun v=>aF (ks++[e]) v==v).length+1=(l.filter fun v=>aF ks v==v).length:=by
  intro l
  induction l with
  |nil=>intro _ h;cases h
  |cons x l ih=>
   intro gk bL
   rw[anN]at gk
   rw[aoC,aoC,hq]
   by_cases hx:x=M
   ·subst hx
    have Ia:(l.filter fun v=>aF (ks++[e]) v==v)=(l.filter fun v=>aF ks v==v):=by
     apply List.filter_congr
     intro y hy
     rw[hq]
     have:y≠x:=fun h=>gk.1 (h▸hy)
     simp[this]
    rw[Ia]
    simp[UM]
   ·have hm':M∈l:=by
     rcases anF.1 bL with h|h
     ·exact absurd h.symm hx
     ·exact h
    have:=ih gk.2 hm'
    rw[beq_eq_false_iff_ne.2 hx,ao8,Bool.and_true]
    cases(aF ks x==x)<;>simp<;>omega
 exact VN _ List.nodup_range (aoy.2 hm)
theorem zJ{n:Nat}:∀ {ks:List E2},iH ks→(∀e∈ks,e.1<n∧e.2<n)→cls n ks+ks.length=n:=by
 intro ks h
 induction h with
 |nil=>intro _;unfold cls;rw[HX,aoV.2 (fun v _=>by simp)];simp
 |snoc ks e h he ih=>
  intro hb
  have h1:=ih fun x hx=>hb x (anL _ hx)
  obtain⟨h2,h3⟩:=hb e (by simp)
  have:=ER h2 h3 he
  rw[anD,anM]
  omega
theorem QL{ks ks':List E2}(h:iH ks)(hs:ks'.Sublist ks):iH ks':=by
 induction h generalizing ks' with
 |nil=>rw[List.sublist_nil.1 hs];exact .nil
 |snoc ks e h he ih=>
  rcases List.sublist_append_iff.1 hs with ⟨l1,l2,rfl,h1,h2⟩
  have hl:=ih h1
  rcases l2 with _| ⟨x,l2⟩
  ·simpa using hl
  ·have h3:=h2.length_le
   simp at h3
   subst h3
   have:x=e:=by
    have:=h2.subset (anC.2 rfl)
    simpa using this
   subst this
   exact .snoc _ _ hl fun hh=>he (fB (fun y hy=>h1.subset hy) hh)
theorem BG{ks ks':List E2}(h:ks.Perm ks')(u v:Nat):bH ks u v↔bH ks' u v:=⟨fB fun e he=>h.mem_iff.1 he,fB fun e he=>h.mem_iff.2 he⟩
def sj(A:List Int)(t:Int):Nat:=(A.filter fun x=>decide (x≤t)).length
theorem J3{A B:List Int}(h:A.Perm B)(t:Int):sj A t=sj B t:=(h.filter _).length_eq
theorem J4(x:Int)(A:List Int)(t:Int):sj (x::A) t=(if x≤t then 1 else 0)+sj A t:=by
 unfold sj
 rw[aoC]
 by_cases h:x≤t
 ·simp[h];omega
 ·simp[h]
theorem QM(A:List Int)(t:Int):sj A t≤A.length:=List.length_filter_le _ _
theorem NR{A:List Int}{t:Int}(h:∀x∈A,x≤t):sj A t=A.length:=by
 unfold sj
 rw[aoV.2 (fun x hx=>by simpa using h x hx)]
theorem Tf{A:List Int}{t:Int}(h:sj A t=A.length):∀x∈A,x≤t:=by
 intro x hx
 have:=xo (fun x=>decide (x≤t)) (fun _=>true) A (fun _ _ _=>rfl) (by rw[show A.filter (fun _=>true)=A from aoV.2 (fun _ _=>rfl)];exact h) x hx rfl
 simpa using this
theorem ES:∀ {A:List Int},A≠[]→∃a∈A,∀x∈A,x≤a:=by
 intro A
 induction A with
 |nil=>intro h;exact absurd rfl h
 |cons x A ih=>
  intro _
  by_cases h:A=[]
  ·subst h;exact⟨x,by simp,by simp⟩
  ·obtain⟨a,ha,hm⟩:=ih h
   by_cases hx:a≤x
   ·exact⟨x,by simp,fun y hy=>(anF.1 hy).elim (fun h=>by omega) (fun h=>apB (hm y h) hx)⟩
   ·exact⟨a,by simp[ha],fun y hy=>(anF.1 hy).elim (fun h=>by omega) (fun h=>hm y h)⟩
theorem xp:∀ (k:Nat) {A B:List Int},A.length=k→B.length=k→(∀t,sj B t≤sj A t)→A.sum≤B.sum∧(A.sum=B.sum→∀t,sj A t=sj B t):=by
 intro k
 induction k with
 |zero=>
  intro A B hA hB _
  obtain rfl:=an5.1 hA
  obtain rfl:=an5.1 hB
  exact⟨aoX _,fun _ _=>rfl⟩
 |succ k ih=>
  intro A B hA hB h
  obtain⟨a,ha,hma⟩:=ES (A:=A) (by intro e;rw[e]at hA;simp at hA)
  obtain⟨b,hb,hmb⟩:=ES (A:=B) (by intro e;rw[e]at hB;simp at hB)
  have pA:=List.perm_cons_erase ha
  have pB:=List.perm_cons_erase hb
  have lA:(A.erase a).length=k:=by have:=pA.length_eq;simp at this;omega
  have lB:(B.erase b).length=k:=by have:=pB.length_eq;simp at this;omega
  have zI:a≤b:=by
   have h1:=h b
   rw[NR hmb]at h1
   have h2:=QM A b
   exact Tf (by omega) a ha
  have hcA:∀t,sj A t=(if a≤t then 1 else 0)+sj (A.erase a) t:=fun t=>by rw[J3 pA,J4]
  have hcB:∀t,sj B t=(if b≤t then 1 else 0)+sj (B.erase b) t:=fun t=>by rw[J3 pB,J4]
  have oY:∀t,sj (B.erase b) t≤sj (A.erase a) t:=by
   intro t
   have h0:=h t
   rw[hcA,hcB]at h0
   by_cases h1:a≤t
   ·by_cases h2:b≤t
    ·rw[if_pos h1,if_pos h2]at h0;omega
    ·have:sj (A.erase a) t=(A.erase a).length:=NR fun x hx=>apB (hma x (List.mem_of_mem_erase hx)) h1
     have:=QM (B.erase b) t
     omega
   ·rw[if_neg h1,if_neg (show¬b≤t by omega)]at h0;omega
  obtain⟨i1,i2⟩:=ih lA lB oY
  rw[J0 pA,J0 pB,aph,aph]
  refine⟨by omega,fun he t=>?_⟩
  have e1:a=b:=by omega
  have e2:=i2 (by omega) t
  rw[hcA,hcB,e2,e1]
section
variable {α : Type} (e : α → E2) (w : α → Int)
def zE(T:List α)(t:Int):List α:=T.filter fun i=>decide (w i≤t)
theorem vf(T:List α)(t:Int):sj (T.map w) t=(zE w T t).length:=by
 unfold sj zE
 induction T with
 |nil=>rfl
 |cons x T ih=>rw[aom,aoC,aoC];split<;>simp_all
def Loc(E T:List α):Prop:=∀i∈E,bH ((zE w T (w i)).map e) (e i).1 (e i).2
variable {e w}
theorem QN{T:List α}(h:iH (T.map e))(t:Int):iH ((zE w T t).map e):=QL h (List.filter_sublist.map e)
theorem IK{E T:List α}(h:∀i∈T,i∈E)(t:Int):∀x∈(zE w T t).map e,x∈(zE w E t).map e:=by
 intro x hx
 obtain⟨i,hi,rfl⟩:=anS.1 hx
 rw[zE,aop]at hi
 exact anS.2 ⟨i,aop.2 ⟨h i hi.1,hi.2⟩,rfl⟩
theorem IL{n:Nat}{T:List α}(ha:iH (T.map e))(hb:∀i∈T,(e i).1<n∧(e i).2<n)(t:Int):cls n ((zE w T t).map e)+(zE w T t).length=n:=by
 have:=zJ (n:=n) (QN (w:=w) ha t) (fun x hx=>by
  obtain⟨i,hi,rfl⟩:=anS.1 hx
  exact hb i (aop.1 hi).1)
 rwa[anQ]at this
theorem IM{n:Nat}{E T:List α}(hs:∀i∈T,i∈E)(ha:iH (T.map e))(hb:∀i∈E,(e i).1<n∧(e i).2<n):
  Loc e w E T↔∀t,cls n ((zE w E t).map e)+(zE w T t).length=n:=by
 have hbT:∀i∈T,(e i).1<n∧(e i).2<n:=fun i hi=>hb i (hs i hi)
 constructor
 ·intro h t
  have h1:=IL (w:=w) ha hbT t
  have h2:∀u v,bH ((zE w E t).map e) u v↔bH ((zE w T t).map e) u v:=fun u v=>by
   refine⟨pk fun x hx=>?_,fB (IK hs t)⟩
   obtain⟨i,hi,rfl⟩:=anS.1 hx
   rw[zE,aop]at hi
   have hw:w i≤t:=by simpa using hi.2
   refine fB (fun y hy=>?_) (h i hi.1)
   obtain⟨j,hj,rfl⟩:=anS.1 hy
   rw[zE,aop]at hj
   have hjw:w j≤w i:=by simpa using hj.2
   exact anS.2 ⟨j,aop.2 ⟨hj.1,by simp;omega⟩,rfl⟩
  have h3:cls n ((zE w E t).map e)=cls n ((zE w T t).map e):=by
   unfold cls
   rw[tI h2]
  omega
 ·intro h i hi
  have h1:=IL (w:=w) ha hbT (w i)
  have h2:=h (w i)
  refine VM (n:=n) (fun u v=>fB (IK hs (w i))) (by omega) (hb i hi).1 (hb i hi).2 ?_
  exact mO (anS.2 ⟨i,aop.2 ⟨hi,by simp⟩,rfl⟩)
theorem OL{n:Nat}{E K T:List α}(hsK:∀i∈K,i∈E)(haK:iH (K.map e))(hsT:∀i∈T,i∈E)(haT:iH (T.map e))(hb:∀i∈E,(e i).1<n∧(e i).2<n)
  (aX:K.length=T.length)(hK:Loc e w E K):(K.map w).sum≤(T.map w).sum∧((K.map w).sum=(T.map w).sum↔Loc e w E T):=by
 have hk:=(IM (w:=w) hsK haK hb).1 hK
 have oY:∀t,sj (T.map w) t≤sj (K.map w) t:=fun t=>by
  rw[vf,vf]
  have h1:=hk t
  have h2:=IL (w:=w) haT (fun i hi=>hb i (hsT i hi)) t
  have h3:=VL n (ks:=(zE w T t).map e) (ks':=(zE w E t).map e) (fun u v=>fB (IK hsT t))
  omega
 obtain⟨g1,g2⟩:=xp K.length (A:=K.map w) (B:=T.map w) (by simp) (by simp[aX]) oY
 refine⟨g1,fun h=>?_,fun h=>?_⟩
 ·rw[IM (n:=n) hsT haT hb]
  intro t
  have:=g2 h t
  rw[vf,vf]at this
  rw[←this]
  exact hk t
 ·have ht:=(IM (w:=w) hsT haT hb).1 h
  obtain⟨g3,_⟩:=xp K.length (A:=T.map w) (B:=K.map w) (by simp[aX]) (by simp) (fun t=>by
   rw[vf,vf]
   have h1:=hk t
   have h2:=ht t
   omega)
  omega
variable (e) in
def c7(L:List α):List α:=L.foldl (fun out i=>if bH (out.map e) (e i).1 (e i).2 then out else out++[i]) []
theorem C5(L:List α)(i:α):c7 e (L++[i])=if bH ((c7 e L).map e) (e i).1 (e i).2 then c7 e L else c7 e L++[i]:=by
 unfold c7
 rw[List.foldl_append]
 rfl
theorem BH:∀L:List α,iH ((c7 e L).map e)∧(∀i∈c7 e L,i∈L)∧∀i∈L,bH ((c7 e L).map e) (e i).1 (e i).2:=by
 refine qD ⟨.nil,by simp[c7],by simp⟩ fun L i ⟨h1,h2,h3⟩=>?_
 rw[C5]
 split
 ·rename_i hh
  refine⟨h1,fun x hx=>anL _ (h2 x hx),fun x hx=>?_⟩
  rcases anH.1 hx with hx|hx
  ·exact h3 x hx
  ·rw[anC.1 hx];exact hh
 ·rename_i hh
  rw[an8]
  refine⟨.snoc _ _ h1 hh,fun x hx=>?_,fun x hx=>?_⟩
  ·rcases anH.1 hx with hx|hx
   ·exact anL _ (h2 x hx)
   ·exact aoq _ hx
  ·rcases anH.1 hx with hx|hx
   ·exact fB (fun y hy=>anL _ hy) (h3 x hx)
   ·rw[anC.1 hx];exact mO (by simp)
theorem QO{n:Nat}{E T:List α}(hs:∀i∈T,i∈E)(ha:iH (T.map e))(hb:∀i∈E,(e i).1<n∧(e i).2<n)(hh:∀i∈E,bH (T.map e) (e i).1 (e i).2):cls n (E.map e)+T.length=n:=by
 have h1:=zJ (n:=n) ha (fun x hx=>by
  obtain⟨i,hi,rfl⟩:=anS.1 hx
  exact hb i (hs i hi))
 have h2:∀u v,bH (E.map e) u v↔bH (T.map e) u v:=fun u v=>⟨pk fun x hx=>by
  obtain⟨i,hi,rfl⟩:=anS.1 hx
  exact hh i hi,fB fun x hx=>by
  obtain⟨i,hi,rfl⟩:=anS.1 hx
  exact anS.2 ⟨i,hs i hi,rfl⟩⟩
 have h3:cls n (E.map e)=cls n (T.map e):=by unfold cls;rw[tI h2]
 rw[anQ]at h1
 omega
end
section
variable {α : Type} {e : α → E2}
def but(T:List α)(k:Nat):List α:=T.take k++T.drop (k+1)
def Touch(p:E2)(u:Nat):Prop:=p.1=u∨p.2=u
def other(p:E2)(u:Nat):Nat:=p.1+p.2 - u
theorem Mi{ks:List E2}{p:E2}{u:Nat}(t:Touch p u)(h:p∈ks):bH ks u (other p u):=by
 unfold other
 rcases t with t|t
 ·subst t;rw[show p.1+p.2 - p.1=p.2 by omega];exact mO h
 ·subst t;rw[show p.1+p.2 - p.2=p.1 by omega];exact(mO h).symm
theorem J5{p:E2}{u:Nat}(t:Touch p u):Touch p (other p u)∧other p (other p u)=u:=by
 unfold other Touch at*
 omega
end
end Go.Proofs.YtjlnnljohemifaaGreat

namespace Go.Proofs.YtjlnnljohemifaaGreat
section
variable {α : Type} {e : α → E2} {w : α → Int}
theorem tJ{T T':List α}(h:∀i∈T,i∈T'){t t':Int}(ht:t≤t'){u v:Nat}(hh:bH ((zE w T t).map e) u v):bH ((zE w T' t').map e) u v:=by
 refine fB (fun p hp=>?_) hh
 obtain⟨i,hi,rfl⟩:=anS.1 hp
 obtain⟨h1,h2⟩:=aop.1 hi
 refine anS.2 ⟨i,aop.2 ⟨h i h1,?_⟩,rfl⟩
 have:w i≤t:=by simpa using h2
 simpa using apB this ht
theorem QP{T:List α}{i:α}(hi:i∈T){t:Int}(ht:w i≤t){u:Nat}(hu:Touch (e i) u):bH ((zE w T t).map e) u (other (e i) u):=
 Mi hu (anS.2 ⟨i,aop.2 ⟨hi,by simpa using ht⟩,rfl⟩)
structure kj(e:α→E2)(w:α→Int)(E T:List α)(o:List Nat)(k:Nat→Int)(wt:Nat→Prop)(b:Nat→α)(left:List α):Prop where
 IN:∀ (a c:Nat) (t:Int) (va vc:Nat),o[a]? =some va→o[c]? =some vc→a<c→(∀d,a<d→d≤c→k d≤t)→bH ((zE w T t).map e) va vc
 wait:∀x,wt x→∃c vc,o[c]? =some vc∧b x∈E∧Touch (e (b x)) vc∧other (e (b x)) vc=x∧∀a,c<a→a<o.length→k a≤w (b x)
 Dv:∀i∈E,∀a va,o[a]? =some va→Touch (e i) va→(a+1=o.length∧i∈left)∨other (e i) va∈o∨(wt (other (e i) va)∧w (b (other (e i) va))≤w i∧∀c,a<c→c<o.length→k c≤w i)
 loc:∀i∈E,(e i).1∈o→(e i).2∈o→bH ((zE w T (w i)).map e) (e i).1 (e i).2
 out:∀x,wt x→x∉o
 nd:o.Nodup
theorem kj.begin{E T:List α}(k:Nat→Int)(b:Nat→α)(r:Nat):kj e w E T [r] k (fun _=>False) b E:=by
 refine⟨fun a c t va vc ha hc Yt _=>?_,fun x hx=>hx.elim,fun i hi a va ha ht=>?_,fun i hi h1 h2=>?_,fun x hx=>hx.elim,by simp⟩
 ·have:=(anu.1 hc).1
  simp only[anM]at this
  omega
 ·have:=(anu.1 ha).1
  simp only[anM]at this
  exact .inl ⟨by simp only[anM];omega,hi⟩
 ·rw[anC]at h1 h2
  rw[h1,h2]
  exact bH.rfl
theorem qE{o:List Nat}{x a v:Nat}(h:(o++[x])[a]? =some v):(a<o.length∧o[a]? =some v)∨(a=o.length∧v=x):=by
 by_cases ha:a<o.length
 ·rw[anJ ha]at h
  exact .inl ⟨ha,h⟩
 ·have h1:=(anu.1 h).1
  rw[anD,anM]at h1
  have:a=o.length:=by omega
  subst this
  rw[List.getElem?_concat_length]at h
  injection h with h
  exact .inr ⟨rfl,h.symm⟩
theorem kj.enter{E T:List α}{o:List Nat}{k k':Nat→Int}{wt:Nat→Prop}{b:Nat→α}(P:kj e w E T o k wt b []){x:Nat}(hx:wt x)(OM:∀y,wt y→w (b x)≤w (b y))(hk:∀a,a<o.length→k' a=k a)(C6:k' o.length=w (b x)):
  kj e w E (T++[b x]) (o++[x]) k' (fun y=>wt y∧y≠x) b E:=by
 obtain⟨c,vc,hc,hbE,htc,hox,hbk⟩:=P.wait x hx
 have nO:=(anu.1 hc).1
 have ON:∀i∈T,i∈T++[b x]:=fun i hi=>anL _ hi
 have key:∀ (a:Nat) (t:Int) (va:Nat),o[a]? =some va→(∀d,a<d→d≤o.length→k' d≤t)→bH ((zE w (T++[b x]) t).map e) va x:=by
  intro a
  induction a using Nat.strongRecOn with
  |_ a ih=>
   intro t va ha ht
   have UN:=(anu.1 ha).1
   have VO:w (b x)≤t:=by rw[←C6];exact ht _ UN (anG _)
   have fS:bH ((zE w (T++[b x]) t).map e) vc x:=by
    have:=QP (e:=e) (w:=w) (T:=T++[b x]) (i:=b x) (by simp) VO htc
    rwa[hox]at this
   rcases aoU a c with h|h|h
   ·exact(tJ ON (aoX t) (P.IN a c t va vc ha hc h (fun d h1 h2=>by rw[←hk d (by omega)];exact ht d h1 (by omega)))).trans fS
   ·subst h
    rw[ha]at hc
    injection hc with hc
    rw[hc]
    exact fS
   ·have QQ:k a≤t:=apB (hbk a h UN) VO
    obtain⟨a',rfl⟩:∃a',a=a'+1:=⟨a - 1,by omega⟩
    have ha':o[a']? =some (o[a']'(by omega)):=ans (by omega)
    have h1:=P.IN a' (a'+1) t _ va ha' ha (by omega) (fun d h1 h2=>by
     have:d=a'+1:=by omega
     rw[this];exact QQ)
    refine(tJ ON (aoX t) h1).symm.trans (ih a' (by omega) t _ ha' fun d h2 h3=>?_)
    by_cases hd:d=a'+1
    ·rw[hd,hk _ UN];exact QQ
    ·exact ht d (by omega) h3
 have Tg:(o++[x]).length=o.length+1:=by simp
 refine⟨fun a d t va vd ha hd had ht=>?_,fun y hy=>?_,fun i hi a va ha tt=>?_,fun i hi h1 h2=>?_,fun y hy hm=>?_,?_⟩
 ·rcases qE ha with ⟨Qp,VP⟩| ⟨Qp,_⟩
  ·rcases qE hd with ⟨QR,jv⟩| ⟨QR,rfl⟩
   ·exact tJ ON (aoX t) (P.IN a d t va vd VP jv had fun j h1 h2=>by rw[←hk j (by omega)];exact ht j h1 h2)
   ·subst QR
    exact key a t va VP ht
  ·have:=(anu.1 hd).1
   omega
 ·obtain⟨c2,v2,h1,h2,h3,h4,h5⟩:=P.wait y hy.1
  have hl:=(anu.1 h1).1
  refine⟨c2,v2,by rw[anJ hl];exact h1,h2,h3,h4,fun a Qp VP=>?_⟩
  by_cases h:a<o.length
  ·rw[hk a h];exact h5 a Qp h
  ·have:a=o.length:=by omega
   rw[this,C6]
   exact OM y hy.1
 ·rcases qE ha with ⟨Qp,VP⟩| ⟨Qp,_⟩
  ·right
   rcases P.Dv i hi a va VP tt with ⟨_,h⟩|h| ⟨h1,h2,h3⟩
   ·cases h
   ·exact .inl (anL _ h)
   ·by_cases mJ:other (e i) va=x
    ·exact .inl (by rw[mJ];simp)
    ·refine .inr ⟨⟨h1,mJ⟩,h2,fun d QR jv=>?_⟩
     by_cases h:d<o.length
     ·rw[hk d h];exact h3 d QR h
     ·have:d=o.length:=by omega
      rw[this,C6]
      exact apB (OM _ h1) h2
  ·exact .inl ⟨by omega,hi⟩
 ·have one:∀va,Touch (e i) va→va∈o→other (e i) va=x→bH ((zE w (T++[b x]) (w i)).map e) va x:=fun va tt hm ho=>by
   obtain⟨a,ha⟩:=List.mem_iff_getElem?.1 hm
   rcases P.Dv i hi a va ha tt with ⟨_,h⟩|h| ⟨g1,g2,g3⟩
   ·cases h
   ·rw[ho]at h
    exact absurd h (P.out x hx)
   ·rw[ho]at g2
    refine key a (w i) va ha fun d QR jv=>?_
    by_cases h:d<o.length
    ·rw[hk d h];exact g3 d QR h
    ·have:d=o.length:=by omega
     rw[this,C6]
     exact g2
  rcases anH.1 h1 with h1|h1
  ·rcases anH.1 h2 with h2|h2
   ·exact tJ ON (aoX _) (P.loc i hi h1 h2)
   ·rw[anC]at h2
    rw[h2]
    exact one _ (.inl rfl) h1 (by unfold other;omega)
  ·rw[anC]at h1
   rcases anH.1 h2 with h2|h2
   ·rw[h1]
    exact(one _ (.inr rfl) h2 (by unfold other;omega)).symm
   ·rw[anC]at h2
    rw[h1,h2]
    exact bH.rfl
 ·rcases anH.1 hm with hm|hm
  ·exact P.out y hy.1 hm
  ·rw[anC]at hm
   exact hy.2 hm
 ·refine aof.2 ⟨P.nd,by simp,fun y hy z hz e=>?_⟩
  rw[anC]at hz
  rw[e,hz]at hy
  exact P.out x hx hy
theorem kj.skip{E T:List α}{o:List Nat}{k:Nat→Int}{wt:Nat→Prop}{b:Nat→α}{i:α}{left:List α}(P:kj e w E T o k wt b (i::left)){v:Nat}(hv:o[o.length - 1]? =some v)(hs:∀u,Touch (e i) v→u=other (e i) v→u∈o∨(wt u∧w (b u)≤w i)):kj e w E T o k wt b left:=by
 refine⟨P.IN,P.wait,fun i' hi a va ha tt=>?_,P.loc,P.out,P.nd⟩
 rcases P.Dv i' hi a va ha tt with ⟨h1,h2⟩|h|h
 ·rcases anF.1 h2 with h2|h2
  ·subst h2
   have ea:a=o.length - 1:=by omega
   rw[ea,hv]at ha
   injection ha with ha
   subst ha
   rcases hs _ tt rfl with h| ⟨g1,g2⟩
   ·exact .inr (.inl h)
   ·exact .inr (.inr ⟨g1,g2,fun c h3 h4=>by omega⟩)
  ·exact .inl ⟨h1,h2⟩
 ·exact .inr (.inl h)
 ·exact .inr (.inr h)
theorem kj.offer{E T:List α}{o:List Nat}{k:Nat→Int}{wt:Nat→Prop}{b:Nat→α}{i:α}{left:List α}(P:kj e w E T o k wt b (i::left)){v u:Nat}(hv:o[o.length - 1]? =some v)(hi:i∈E)(ht:Touch (e i) v)(hu:u=other (e i) v)(bK:u∉o)(aO:wt u→w i≤w (b u)):
  kj e w E T o k (fun y=>wt y∨y=u) (fun y=>if y=u then i else b y) left:=by
 have hl:=(anu.1 hv).1
 refine⟨P.IN,fun y hy=>?_,fun i' hi' a va ha tt=>?_,P.loc,fun y hy=>?_,P.nd⟩
 ·by_cases UO:y=u
  ·simp only[if_pos UO]
   exact⟨o.length - 1,v,hv,hi,ht,by rw[UO,hu],fun a h1 h2=>by omega⟩
  ·simp only[if_neg UO]
   exact P.wait y (hy.resolve_right UO)
 ·rcases P.Dv i' hi' a va ha tt with ⟨h1,h2⟩|h| ⟨h1,h2,h3⟩
  ·rcases anF.1 h2 with h2|h2
   ·subst h2
    have ea:a=o.length - 1:=by omega
    rw[ea,hv]at ha
    injection ha with ha
    subst ha
    refine .inr (.inr ⟨.inr hu.symm,?_,fun c h3 h4=>by omega⟩)
    rw[if_pos hu.symm]
    exact aoX _
   ·exact .inl ⟨h1,h2⟩
  ·exact .inr (.inl h)
  ·refine .inr (.inr ⟨.inl h1,?_,h3⟩)
   by_cases UO:other (e i') va=u
   ·rw[if_pos UO]
    rw[UO]at h1 h2
    exact apB (aO h1) h2
   ·rw[if_neg UO]
    exact h2
 ·rcases hy with hy|hy
  ·exact P.out y hy
  ·rw[hy];exact bK
theorem OO{T:List α}{done:Nat→Prop}(ha:iH (T.map e))(hT:∀i∈T,done (e i).1∧done (e i).2){i:α}{v:Nat}(ht:Touch (e i) v)(hv:done v)(hu:¬done (other (e i) v)):iH ((T++[i]).map e):=by
 rw[an8,apb,HZ]
 refine⟨ha,fun h=>?_⟩
 have hq:=EQ (Q:=fun a b=>a=b∨(done a∧done b)) (fun _=>.inl rfl) (fun a b h=>h.imp Eq.symm And.symm) (fun a b c h1 h2=>by
  rcases h1 with rfl|h1
  ·exact h2
  ·rcases h2 with rfl|h2
   ·exact .inr h1
   ·exact .inr ⟨h1.1,h2.2⟩) (fun p hp=>by
  obtain⟨j,hj,rfl⟩:=anS.1 hp
  exact .inr (hT j hj)) h
 rcases ht with ht|ht
 ·have ho:other (e i) v=(e i).2:=by unfold other;omega
  rw[ho]at hu
  rcases hq with hq|hq
  ·rw[←hq,ht]at hu;exact hu hv
  ·exact hu hq.2
 ·have ho:other (e i) v=(e i).1:=by unfold other;omega
  rw[ho]at hu
  rcases hq with hq|hq
  ·rw[hq,ht]at hu;exact hu hv
  ·exact hu hq.1
structure xq(e:α→E2)(w:α→Int)(E T:List α)(D:Nat→Prop):Prop where
 shut:∀i∈E,∀v,Touch (e i) v→D v→D (other (e i) v)
 loc:∀i∈E,D (e i).1→D (e i).2→bH ((zE w T (w i)).map e) (e i).1 (e i).2
 xV:iH (T.map e)
 ins:∀i∈T,i∈E∧D (e i).1∧D (e i).2
theorem xq.begin(E:List α):xq e w E [] (fun _=>False):=⟨fun _ _ _ _ h=>h,fun _ _ h=>h.elim,.nil,by simp⟩
theorem xq.over{E T T':List α}{D:Nat→Prop}{o:List Nat}{k:Nat→Int}{wt:Nat→Prop}{b:Nat→α}(h:xq e w E T D)(hs:∀i∈T,i∈T')(P:kj e w E T' o k wt b [])(h0:∀x,¬wt x)(ha:iH (T'.map e))(bJ:∀i∈T',i∈E∧(D (e i).1∨(e i).1∈o)∧(D (e i).2∨(e i).2∈o)):
  xq e w E T' (fun v=>D v∨v∈o):=by
 have UP:∀i∈E,∀v,Touch (e i) v→v∈o→other (e i) v∈o:=fun i hi v ht hv=>by
  obtain⟨a,ha⟩:=List.mem_iff_getElem?.1 hv
  rcases P.Dv i hi a v ha ht with ⟨_,h⟩|h| ⟨h,_⟩
  ·cases h
  ·exact h
  ·exact absurd h (h0 _)
 refine⟨fun i hi v ht hv=>hv.imp (h.shut i hi v ht) (UP i hi v ht),fun i hi h1 h2=>?_,ha,bJ⟩
 have e1:other (e i) (e i).1=(e i).2:=by unfold other;omega
 rcases h1 with h1|h1
 ·have:=h.shut i hi _ (.inl rfl) h1
  rw[e1]at this
  exact tJ hs (aoX _) (h.loc i hi h1 this)
 ·have:=UP i hi _ (.inl rfl) h1
  rw[e1]at this
  exact P.loc i hi h1 this
theorem xq.VQ{E T:List α}{D:Nat→Prop}(h:xq e w E T D)(hD:∀i∈E,D (e i).1∧D (e i).2):iH (T.map e)∧(∀i∈T,i∈E)∧Loc e w E T∧∀i∈E,bH (T.map e) (e i).1 (e i).2:=by
 have hl:Loc e w E T:=fun i hi=>h.loc i hi (hD i hi).1 (hD i hi).2
 refine⟨h.xV,fun i hi=>(h.ins i hi).1,hl,fun i hi=>fB (fun p hp=>?_) (hl i hi)⟩
 obtain⟨j,hj,rfl⟩:=anS.1 hp
 exact anS.2 ⟨j,(aop.1 hj).1,rfl⟩
end
end Go.Proofs.YtjlnnljohemifaaGreat

namespace Go.Proofs.YtjlnnljohemifaaGreat
theorem VR{n:Nat}:∀ks:List E2,(∀e∈ks,e.1<n∧e.2<n)→n≤cls n ks+ks.length:=by
 refine qD (fun _=>?_) fun ks e ih hb=>?_
 ·unfold cls;rw[HX,aoV.2 (fun v _=>by simp)];simp
 ·have h1:=ih fun x hx=>hb x (anL _ hx)
  obtain⟨h2,h3⟩:=hb e (by simp)
  rw[anD,anM]
  by_cases hh:bH ks e.1 e.2
  ·have:cls n (ks++[e])=cls n ks:=by
    unfold cls
    rw[tI fun u v=>(ve ks e u v).trans ⟨fun h=>?_,fun h=>.inl h⟩]
    rcases h with h| ⟨h1,h2⟩| ⟨h1,h2⟩
    ·exact h
    ·exact h1.trans (hh.trans h2.symm)
    ·exact h1.trans (hh.symm.trans h2.symm)
   omega
  ·have:=ER h2 h3 hh
   omega
theorem J6{n:Nat}:∀ks:List E2,(∀e∈ks,e.1<n∧e.2<n)→(iH ks↔cls n ks+ks.length=n):=by
 intro ks hb
 refine⟨fun h=>zJ h hb,?_⟩
 revert hb
 refine qD (P:=fun ks=>(∀e∈ks,e.1<n∧e.2<n)→cls n ks+ks.length=n→iH ks) (fun _ _=>.nil) (fun ks e ih hb hc=>?_) ks
 have jy:=fun x hx=>hb x (anL _ hx)
 obtain⟨h2,h3⟩:=hb e (by simp)
 have OP:=VR ks jy
 rw[anD,anM]at hc
 by_cases hh:bH ks e.1 e.2
 ·exfalso
  have:cls n (ks++[e])=cls n ks:=by
   unfold cls
   rw[tI fun u v=>(ve ks e u v).trans ⟨fun h=>?_,fun h=>.inl h⟩]
   rcases h with h| ⟨h1,h2⟩| ⟨h1,h2⟩
   ·exact h
   ·exact h1.trans (hh.trans h2.symm)
   ·exact h1.trans (hh.symm.trans h2.symm)
  omega
 ·have:=ER h2 h3 hh
  exact .snoc _ _ (ih jy (by omega)) hh
theorem OQ{n:Nat}{ks ks':List E2}(hp:ks.Perm ks')(hb:∀e∈ks,e.1<n∧e.2<n)(h:iH ks):iH ks':=by
 rw[J6 (n:=n) ks' (fun e he=>hb e (hp.mem_iff.2 he))]
 have h1:=(J6 ks hb).1 h
 have h2:cls n ks'=cls n ks:=by unfold cls;rw[tI fun u v=>(BG hp u v).symm]
 rw[h2,←hp.length_eq]
 exact h1
section
variable {α : Type} {e : α → E2} {w : α → Int}
theorem Mj:∀ {T:List α},iH (T.map e)→T.Nodup:=by
 intro T
 refine qD (P:=fun T=>iH (T.map e)→T.Nodup) (fun _=>by simp) (fun T i ih h=>?_) T
 rw[an8,apb,HZ]at h
 rw[aof]
 refine⟨ih h.1,by simp,fun x hx y hy Mk=>?_⟩
 rw[anC]at hy
 subst hy;subst Mk
 exact h.2 (mO (anS.2 ⟨x,hx,rfl⟩))
end
end Go.Proofs.YtjlnnljohemifaaGreat
