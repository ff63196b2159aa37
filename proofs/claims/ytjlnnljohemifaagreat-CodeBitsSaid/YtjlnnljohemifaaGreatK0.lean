import Derived.Test.YtjlnnljohemifaaGreatK98
set_option maxRecDepth 100000
set_option maxHeartbeats 8000000
set_option linter.unusedVariables false
set_option linter.unusedSimpArgs false
namespace Go.Proofs.YtjlnnljohemifaaGreat
inductive IH:List Int→Int→Prop
 |one (w:Int):IH [w] 0
 |step {P R:List Int} {a b c:Int} (hp:P.Perm (a::b::R)) (zI:a≤b) (hR:∀r∈R,b≤r) (h:IH ((a+b)::R) c):IH P (c+(a+b))
theorem IH.perm{P Q:List Int}{c:Int}(h:IH P c)(hp:Q.Perm P):IH Q c:=by
 cases h with
 |one w=>rw[List.perm_singleton.1 hp];exact .one w
 |step h1 h2 h3 h4=>exact .step (hp.trans h1) h2 h3 h4
end Go.Proofs.YtjlnnljohemifaaGreat
namespace Go.Proofs.YtjlnnljohemifaaGreat
def xT(n:Nat)(f:Nat→Int):Int:=((List.range n).map f).sum
def BF(n:Nat)(f:Nat→Nat):Nat:=((List.range n).map f).sum
theorem pj(n:Nat)(f:Nat→Int):xT (n+1) f=xT n f+f n:=by
 unfold xT
 rw[apA,an8,List.sum_append,apb,aph,List.sum_nil]
 omega
theorem jT(n:Nat)(f:Nat→Nat):BF (n+1) f=BF n f+f n:=by
 unfold BF
 rw[apA,an8,List.sum_append,apb,aph,List.sum_nil]
 omega
theorem xU{n:Nat}{f g:Nat→Int}(h:∀i,i<n→f i=g i):xT n f=xT n g:=by
 induction n with
 |zero=>rfl
 |succ n ih=>rw[pj,pj,ih (fun i hi=>h i (by omega)),h n (by omega)]
theorem EK{n:Nat}{f g:Nat→Nat}(h:∀i,i<n→f i=g i):BF n f=BF n g:=by
 induction n with
 |zero=>rfl
 |succ n ih=>rw[jT,jT,ih (fun i hi=>h i (by omega)),h n (by omega)]
theorem EL(n:Nat)(f g:Nat→Int):xT n (fun i=>f i+g i)=xT n f+xT n g:=by
 induction n with
 |zero=>rfl
 |succ n ih=>rw[pj,pj,pj,ih];omega
theorem QJ(n:Nat)(f g:Nat→Nat):BF n (fun i=>f i+g i)=BF n f+BF n g:=by
 induction n with
 |zero=>rfl
 |succ n ih=>rw[jT,jT,jT,ih];omega
theorem QK(n:Nat)(f:Nat→Nat):BF n (fun i=>2*f i)=2*BF n f:=by
 induction n with
 |zero=>rfl
 |succ n ih=>rw[jT,jT,ih];omega
structure LZ where
 eR:List (Int×Nat)
 at_:Nat
 R:Nat→Nat
 d:Nat→Nat
 up:Nat→Nat
def NO(p:Int×Nat):List (Int×Nat)→Int×Nat
 | []=>p
 |q::r=>if q.1<p.1 then NO q r else NO p r
def VJ:List (Int×Nat)→Int×Nat
 | []=>(0,0)
 |p::r=>NO p r
def wo(l:List (Int×Nat))(p:Int×Nat):List (Int×Nat):=l.filter fun q=>decide (q.2≠p.2)
def LZ.a(s:LZ):Int×Nat:=VJ s.eR
def LZ.b(s:LZ):Int×Nat:=VJ (wo s.eR s.a)
def LZ.step(s:LZ):LZ:=⟨wo (wo s.eR s.a) s.b++[(s.a.1+s.b.1,s.at_)],s.at_+1,
 fun i=>if i=s.at_ then i else if s.R i=s.a.2∨s.R i=s.b.2 then s.at_ else s.R i,
 fun i=>if i=s.at_ then 0 else if s.R i=s.a.2∨s.R i=s.b.2 then s.d i+1 else s.d i,
 fun i=>if i=s.a.2∨i=s.b.2 then s.at_ else s.up i⟩
def ZG(ws:List Int):LZ:=⟨(List.range ws.length).map (fun i=>(ws.getD i 0,i)),ws.length,id,fun _=>0,fun _=>0⟩
def Du:Nat→LZ→LZ
 |0,s=>s
 |k+1,s=>(Du k s).step
theorem II(p:Int×Nat):∀ (r:List (Int×Nat)),NO p r∈p::r:=by
 intro r
 induction r generalizing p with
 |nil=>simp[NO]
 |cons q r ih=>
  unfold NO
  split
  ·exact anZ _ (ih q)
  ·have:=ih p
   simp only[anF]at this ⊢
   rcases this with h|h
   ·exact .inl h
   ·exact .inr (.inr h)
def EM(l:List (Int×Nat)):Prop:=l.Pairwise fun p q=>p.2<q.2
theorem VK(p:Int×Nat):∀ (r:List (Int×Nat)),EM (p::r)→∀q∈p::r,q.2≠(NO p r).2→(NO p r).1<q.1∨((NO p r).1=q.1∧(NO p r).2<q.2):=by
 intro r
 induction r generalizing p with
 |nil=>
  intro _ q hq aP
  rcases anF.1 hq with rfl|hq
  ·exact absurd rfl aP
  ·cases hq
 |cons c r ih=>
  intro hr q hq aP
  have zD:=aoR.1 hr
  have Td:=aoR.1 zD.2
  unfold NO at aP ⊢
  split at aP
  ·rename_i aO
   rw[if_pos aO]
   rcases anF.1 hq with rfl|hq
   ·by_cases e:c.2=(NO c r).2
    ·have hm:=II c r
     rcases anF.1 hm with h|h
     ·rw[h];exact .inl aO
     ·have:=Td.1 _ h;omega
    ·rcases ih c zD.2 c (by simp) e with h|h<;>exact .inl (by omega)
   ·exact ih c zD.2 q hq aP
  ·rename_i aO
   rw[if_neg aO]
   have ZH:EM (p::r):=aoR.2 ⟨fun z hz=>zD.1 z (by simp[hz]),Td.2⟩
   rcases anF.1 hq with rfl|hq
   ·exact ih q ZH q (by simp) aP
   ·rcases anF.1 hq with rfl|hq
    ·have NP:=zD.1 q (by simp)
     by_cases e:p.2=(NO p r).2
     ·have hm:=II p r
      rcases anF.1 hm with h|h
      ·rw[h];omega
      ·have:=zD.1 _ (anZ _ h);omega
     ·rcases ih p ZH p (by simp) e with h|h
      ·exact .inl (by omega)
      ·by_cases e2:(NO p r).1=q.1
       ·exact .inr ⟨e2,by omega⟩
       ·exact .inl (by omega)
    ·exact ih p ZH q (by simp[hq]) aP
structure Ys(p:Int×Nat)(l:List (Int×Nat)):Prop where
 m:p∈l
 l:∀q∈l,q.2≠p.2→p.1<q.1∨(p.1=q.1∧p.2<q.2)
theorem NQ{l:List (Int×Nat)}(h:EM l)(h0:l≠[]):Ys (VJ l) l:=by
 cases l with
 |nil=>exact absurd rfl h0
 |cons p r=>exact⟨II p r,VK p r h⟩
theorem mM{l:List (Int×Nat)}{p q:Int×Nat}:q∈wo l p↔q∈l∧q.2≠p.2:=by unfold wo;rw[aop];simp
theorem EM.wo{l:List (Int×Nat)}(h:EM l)(p:Int×Nat):EM (wo l p):=List.Pairwise.sublist List.filter_sublist h
theorem IJ{l:List (Int×Nat)}(h:EM l){p:Int×Nat}(hp:p∈l):l.Perm (p::wo l p):=by
 induction l with
 |nil=>cases hp
 |cons c r ih=>
  have h2:=aoR.1 h
  unfold wo
  rw[aoC]
  rcases anF.1 hp with rfl|hp
  ·rw[if_neg (by simp)]
   have:r.filter (fun q=>decide (q.2≠p.2))=r:=by
    rw[aoV]
    intro q hq
    have:=h2.1 q hq
    simp
    omega
   rw[this]
  ·have hc:=h2.1 p hp
   rw[if_pos (by simp;omega)]
   exact((ih h2.2 hp).cons c).trans (List.Perm.swap _ _ _)
structure Te(ws:List Int)(k:Nat)(s:LZ):Prop where
 ids:EM s.eR
 lt:∀p∈s.eR,p.2<s.at_
 at_:s.at_=ws.length+k
 len:s.eR.length+k=ws.length
 rt:∀i,i<s.at_→(∃p∈s.eR,p.2=s.R i)∧i≤s.R i
 OJ:∀p∈s.eR,s.R p.2=p.2∧s.d p.2=0
 upI:∀i,i<s.at_→s.R i≠i→i<s.up i∧s.up i<s.at_∧s.R i=s.R (s.up i)∧s.d i=s.d (s.up i)+1
 wt:∀p∈s.eR,xT ws.length (fun i=>if s.R i=p.2 then ws.getD i 0 else 0)=p.1
 dl:∀i,i<s.at_→s.d i≤k
 kr:∀p∈s.eR,BF ws.length (fun i=>if s.R i=p.2 then 2^ (ws.length - s.d i)else 0)=2^ws.length
 huf:∀c,IH (s.eR.map (·.1)) c→IH ws (c+xT ws.length (fun i=>ws.getD i 0*(s.d i:Int)))
theorem LZ.ZI{ws:List Int}{k:Nat}{s:LZ}(h:Te ws k s)(hk:k+1<ws.length):Ys s.a s.eR∧Ys s.b (wo s.eR s.a)∧s.a.2≠s.b.2∧s.b∈s.eR∧s.eR.Perm (s.a::s.b::wo (wo s.eR s.a) s.b):=by
 have hl:=h.len
 have h1:Ys s.a s.eR:=NQ h.ids (fun e=>by rw[e]at hl;simp at hl;omega)
 have p1:=IJ h.ids h1.m
 have h2:Ys s.b (wo s.eR s.a):=NQ (h.ids.wo _) (fun e=>by
  have:=p1.length_eq
  rw[e]at this
  simp at this
  omega)
 obtain⟨m1,m2⟩:=mM.1 h2.m
 exact⟨h1,h2,fun e=>m2 e.symm,m1,p1.trans ((IJ (h.ids.wo _) h2.m).cons _)⟩
theorem Te.step{ws:List Int}{k:Nat}{s:LZ}(h:Te ws k s)(hk:k+1<ws.length):Te ws (k+1) s.step:=by
 obtain⟨ha,hb,zI,EN,hp⟩:=LZ.ZI h hk
 have u0:=h.at_
 have la:=h.lt _ ha.m
 have lb:=h.lt _ EN
 have bL:∀q,q∈s.step.eR→(q∈s.eR∧q.2≠s.a.2∧q.2≠s.b.2)∨q=(s.a.1+s.b.1,s.at_):=fun q hq=>by
  rcases anH.1 hq with hq|hq
  ·obtain⟨h1,h2⟩:=mM.1 hq
   obtain⟨h3,h4⟩:=mM.1 h1
   exact .inl ⟨h3,h4,h2⟩
  ·exact .inr (by simpa using hq)
 have hR:∀i,i<s.at_→s.step.R i=if s.R i=s.a.2∨s.R i=s.b.2 then s.at_ else s.R i:=fun i hi=>by show(if i=s.at_ then i else _)=_;rw[if_neg (by omega)]
 have hd:∀i,i<s.at_→s.step.d i=if s.R i=s.a.2∨s.R i=s.b.2 then s.d i+1 else s.d i:=fun i hi=>by show(if i=s.at_ then 0 else _)=_;rw[if_neg (by omega)]
 have hRa:s.step.R s.at_=s.at_:=by show(if s.at_=s.at_ then s.at_ else _)=_;rw[if_pos rfl]
 have hda:s.step.d s.at_=0:=by show(if s.at_=s.at_ then 0 else _)=_;rw[if_pos rfl]
 have ZJ:∀i,i<s.at_→s.R i<s.at_:=fun i hi=>by obtain⟨⟨p,p1,p2⟩,_⟩:=h.rt i hi;rw[←p2];exact h.lt p p1
 have sa:=h.OJ _ ha.m
 have sb:=h.OJ _ EN
 refine⟨?_,fun p sL=>?_,by show s.at_+1=_;omega,?_,fun i hi=>?_,fun p sL=>?_,fun i hi aP=>?_,fun p sL=>?_,fun i hi=>?_,fun p sL=>?_,fun c hc=>?_⟩
 ·show EM (_++_)
  unfold EM
  rw[apk]
  refine⟨(h.ids.wo _).wo _,by simp,fun q hq z hz=>?_⟩
  obtain⟨h1,_⟩:=mM.1 hq
  obtain⟨h3,_⟩:=mM.1 h1
  rw[anC.1 hz]
  exact h.lt q h3
 ·show p.2<s.at_+1
  rcases bL p sL with h1|h1
  ·have:=h.lt p h1.1;omega
  ·rw[h1];simp
 ·have h1:=hp.length_eq
  have h2:=h.len
  show(wo (wo s.eR s.a) s.b++[_]).length+(k+1)=_
  simp at h1 ⊢
  omega
 ·have mI:i<s.at_+1:=hi
  by_cases e:i=s.at_
  ·rw[e,hRa]
   exact⟨⟨(s.a.1+s.b.1,s.at_),aoq _ (by simp),rfl⟩,anG _⟩
  ·have qz:i<s.at_:=by omega
   obtain⟨⟨p,p1,p2⟩,h4⟩:=h.rt i qz
   rw[hR i qz]
   split
   ·exact⟨⟨(s.a.1+s.b.1,s.at_),aoq _ (by simp),rfl⟩,by omega⟩
   ·rename_i hn
    refine⟨⟨p,anL _ (mM.2 ⟨mM.2 ⟨p1,fun e=>hn (.inl (by omega))⟩,fun e=>hn (.inr (by omega))⟩),p2⟩,h4⟩
 ·rcases bL p sL with ⟨h1,h2,h3⟩|h1
  ·have h4:=h.lt p h1
   obtain⟨h5,h6⟩:=h.OJ p h1
   rw[hR _ h4,hd _ h4,h5,if_neg (by omega),if_neg (by omega)]
   exact⟨rfl,h6⟩
  ·rw[h1];exact⟨hRa,hda⟩
 ·have mI:i<s.at_+1:=hi
  have e:i≠s.at_:=fun e=>aP (by rw[e,hRa])
  have qz:i<s.at_:=by omega
  have EO:s.step.up i=if i=s.a.2∨i=s.b.2 then s.at_ else s.up i:=rfl
  rw[EO]
  by_cases J1:i=s.a.2∨i=s.b.2
  ·rw[if_pos J1]
   have hRi:s.R i=i∧s.d i=0:=by
    rcases J1 with e|e
    ·rw[e];exact sa
    ·rw[e];exact sb
   rw[hRa,hda,hR i qz,hd i qz,hRi.1,if_pos J1,if_pos J1,hRi.2]
   exact⟨qz,by show s.at_<s.at_+1;omega,rfl,rfl⟩
  ·rw[if_neg J1]
   have hRi:s.R i≠i:=fun e2=>aP (by
    rw[hR i qz,e2,if_neg J1])
   obtain⟨u1,u2,u3,u4⟩:=h.upI i qz hRi
   rw[hR i qz,hd i qz,hR _ u2,hd _ u2,←u3]
   refine⟨u1,by show s.up i<s.at_+1;omega,rfl,?_⟩
   split<;>omega
 ·rcases bL p sL with ⟨h1,h2,h3⟩|h1
  ·rw[←h.wt p h1]
   refine xU fun i hi=>?_
   have qz:i<s.at_:=by omega
   have:=h.lt p h1
   rw[hR i qz]
   by_cases e:s.R i=s.a.2∨s.R i=s.b.2
   ·rw[if_pos e,if_neg (by omega),if_neg (by omega)]
   ·rw[if_neg e]
  ·rw[h1]
   show xT ws.length (fun i=>if s.step.R i=s.at_ then ws.getD i 0 else 0)=s.a.1+s.b.1
   rw[←h.wt _ ha.m,←h.wt _ EN,←EL]
   refine xU fun i hi=>?_
   have qz:i<s.at_:=by omega
   have:=ZJ i qz
   rw[hR i qz]
   by_cases e1:s.R i=s.a.2
   ·rw[if_pos (Or.inl e1),if_pos rfl,if_pos e1,if_neg (by omega)];omega
   ·by_cases e2:s.R i=s.b.2
    ·rw[if_pos (Or.inr e2),if_pos rfl,if_neg e1,if_pos e2];omega
    ·have e3:¬ (s.R i=s.a.2∨s.R i=s.b.2):=by omega
     rw[if_neg e3,if_neg (show¬s.R i=s.at_ by omega),if_neg e1,if_neg e2];rfl
 ·have mI:i<s.at_+1:=hi
  by_cases e:i=s.at_
  ·rw[e,hda];omega
  ·have:=h.dl i (by omega)
   rw[hd i (by omega)]
   split<;>omega
 ·rcases bL p sL with ⟨h1,h2,h3⟩|h1
  ·rw[←h.kr p h1]
   refine EK fun i hi=>?_
   have qz:i<s.at_:=by omega
   have:=h.lt p h1
   rw[hR i qz,hd i qz]
   by_cases e:s.R i=s.a.2∨s.R i=s.b.2
   ·rw[if_pos e,if_neg (by omega),if_neg (by omega)]
   ·rw[if_neg e,if_neg e]
  ·rw[h1]
   have h5:2*BF ws.length (fun i=>if s.step.R i=s.at_ then 2^ (ws.length - s.step.d i)else 0)=2^ws.length+2^ws.length:=by
    rw[←QK,←h.kr _ ha.m]
    conv=>rhs;rw[h.kr _ ha.m];arg 2;rw[←h.kr _ EN]
    rw[←h.kr _ ha.m,←QJ]
    refine EK fun i hi=>?_
    have qz:i<s.at_:=by omega
    have:=ZJ i qz
    have hdl:=h.dl i qz
    rw[hR i qz,hd i qz]
    have e2:2*2^ (ws.length - (s.d i+1))=2^ (ws.length - s.d i):=by
     rw[show ws.length - s.d i=(ws.length - (s.d i+1))+1 by omega,Nat.pow_succ]
     omega
    by_cases e1:s.R i=s.a.2
    ·rw[if_pos (Or.inl e1),if_pos rfl,if_pos (Or.inl e1),if_pos e1,if_neg (by omega),e2,Nat.add_zero]
    ·by_cases e3:s.R i=s.b.2
     ·rw[if_pos (Or.inr e3),if_pos rfl,if_pos (Or.inr e3),if_neg e1,if_pos e3,e2];omega
     ·have e4:¬ (s.R i=s.a.2∨s.R i=s.b.2):=by omega
      rw[if_neg e4,if_neg (show¬s.R i=s.at_ by omega),if_neg e1,if_neg e3]
   show BF ws.length (fun i=>if s.step.R i=s.at_ then 2^ (ws.length - s.step.d i)else 0)=_
   omega
 ·have tF:IH ((s.a.1+s.b.1)::(wo (wo s.eR s.a) s.b).map (·.1)) c:=by
   refine hc.perm ?_
   show List.Perm _ ((wo (wo s.eR s.a) s.b++[(s.a.1+s.b.1,s.at_)]).map (·.1))
   rw[an8]
   exact aou (l₁:=[s.a.1+s.b.1])
  have h5:=h.huf (c+(s.a.1+s.b.1)) (.step (hp.map (·.1)) (by
   rcases ha.l _ EN (Ne.symm zI)with h|h<;>omega) (fun r hr=>by
   obtain⟨q,hq,rfl⟩:=anS.1 hr
   obtain⟨h1,h2⟩:=mM.1 hq
   rcases hb.l q h1 h2 with h|h<;>omega) tF)
  have h6:xT ws.length (fun i=>ws.getD i 0*(s.step.d i:Int))=xT ws.length (fun i=>ws.getD i 0*(s.d i:Int))+(s.a.1+s.b.1):=by
   rw[←h.wt _ ha.m]
   conv=>rhs;arg 2;arg 2;rw[←h.wt _ EN]
   rw[←EL,←EL]
   refine xU fun i hi=>?_
   have qz:i<s.at_:=by omega
   rw[hd i qz]
   by_cases e1:s.R i=s.a.2
   ·rw[if_pos (Or.inl e1),if_pos e1,if_neg (by omega),show((s.d i+1:Nat):Int)=(s.d i:Int)+1 by omega,Int.mul_add,Int.mul_one];omega
   ·by_cases e2:s.R i=s.b.2
    ·rw[if_pos (Or.inr e2),if_neg e1,if_pos e2,show((s.d i+1:Nat):Int)=(s.d i:Int)+1 by omega,Int.mul_add,Int.mul_one];omega
    ·have e3:¬ (s.R i=s.a.2∨s.R i=s.b.2):=by omega
     rw[if_neg e3,if_neg e1,if_neg e2];omega
  rw[h6]
  rw[show c+(xT ws.length (fun i=>ws.getD i 0*(s.d i:Int))+(s.a.1+s.b.1))=c+(s.a.1+s.b.1)+xT ws.length (fun i=>ws.getD i 0*(s.d i:Int)) by omega]
  exact h5
end Go.Proofs.YtjlnnljohemifaaGreat
namespace Go.Proofs.YtjlnnljohemifaaGreat
def OK(ws:List Int):LZ:=Du (ws.length - 1) (ZG ws)
end Go.Proofs.YtjlnnljohemifaaGreat
