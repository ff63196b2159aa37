/- Texts put behind each other. -/
import Derived.Test.YtjlnnljohemifaaGreatK98
set_option maxRecDepth 100000
set_option maxHeartbeats 8000000
set_option linter.unusedVariables false
set_option linter.unusedSimpArgs false
namespace Go.Proofs.YtjlnnljohemifaaGreat
end Go.Proofs.YtjlnnljohemifaaGreat

namespace Go.Proofs.YtjlnnljohemifaaGreat
theorem Ku{a b:List Int}(h:a.Perm b):a.sum=b.sum:=by
 induction h with
 |nil=>rfl
 |cons x _ ih=>rw[ap9,ap9,ih]
 |swap x y l=>simp only[ap9];omega
 |trans _ _ h1 h2=>rw[h1,h2]
inductive I3:List Int→Int→Prop
 |one (w:Int):I3 [w] 0
 |step {P R:List Int} {a b c:Int} (hp:P.Perm (a::b::R)) (BZ:a≤b) (hR:∀r∈R,b≤r) (h:I3 ((a+b)::R) c):I3 P (c+(a+b))
theorem I3.perm{P Q:List Int}{c:Int}(h:I3 P c)(hp:Q.Perm P):I3 Q c:=by
 cases h with
 |one w=>rw[List.perm_singleton.1 hp];exact .one w
 |step h1 h2 h3 h4=>exact .step (hp.trans h1) h2 h3 h4
end Go.Proofs.YtjlnnljohemifaaGreat

namespace Go.Proofs.YtjlnnljohemifaaGreat
def yw(n:Nat)(f:Nat→Int):Int:=((List.range n).map f).sum
def B6(n:Nat)(f:Nat→Nat):Nat:=((List.range n).map f).sum
theorem pH(n:Nat)(f:Nat→Int):yw (n+1) f=yw n f+f n:=by
 unfold yw
 rw[aqp,aoN,List.sum_append,apG,ap9,List.sum_nil]
 omega
theorem jW(n:Nat)(f:Nat→Nat):B6 (n+1) f=B6 n f+f n:=by
 unfold B6
 rw[aqp,aoN,List.sum_append,apG,ap9,List.sum_nil]
 omega
theorem yx{n:Nat}{f g:Nat→Int}(h:∀i,i<n→f i=g i):yw n f=yw n g:=by
 induction n with
 |zero=>rfl
 |succ n ih=>rw[pH,pH,ih (fun i hi=>h i (by omega)),h n (by omega)]
theorem EW{n:Nat}{f g:Nat→Nat}(h:∀i,i<n→f i=g i):B6 n f=B6 n g:=by
 induction n with
 |zero=>rfl
 |succ n ih=>rw[jW,jW,ih (fun i hi=>h i (by omega)),h n (by omega)]
theorem EX(n:Nat)(f g:Nat→Int):yw n (fun i=>f i+g i)=yw n f+yw n g:=by
 induction n with
 |zero=>rfl
 |succ n ih=>rw[pH,pH,pH,ih];omega
theorem Q4(n:Nat)(f g:Nat→Nat):B6 n (fun i=>f i+g i)=B6 n f+B6 n g:=by
 induction n with
 |zero=>rfl
 |succ n ih=>rw[jW,jW,jW,ih];omega
theorem Q5(n:Nat)(f:Nat→Nat):B6 n (fun i=>2*f i)=2*B6 n f:=by
 induction n with
 |zero=>rfl
 |succ n ih=>rw[jW,jW,ih];omega
structure MA where
 eX:List (Int×Nat)
 at_:Nat
 R:Nat→Nat
 d:Nat→Nat
 up:Nat→Nat
def Oy(p:Int×Nat):List (Int×Nat)→Int×Nat
 | []=>p
 |q::r=>if q.1<p.1 then Oy q r else Oy p r
def V9:List (Int×Nat)→Int×Nat
 | []=>(0,0)
 |p::r=>Oy p r
def wo(l:List (Int×Nat))(p:Int×Nat):List (Int×Nat):=l.filter fun q=>decide (q.2≠p.2)
def MA.a(s:MA):Int×Nat:=V9 s.eX
def MA.b(s:MA):Int×Nat:=V9 (wo s.eX s.a)
def MA.step(s:MA):MA:=⟨wo (wo s.eX s.a) s.b++[(s.a.1+s.b.1,s.at_)],s.at_+1,
 fun i=>if i=s.at_ then i else if s.R i=s.a.2∨s.R i=s.b.2 then s.at_ else s.R i,
 fun i=>if i=s.at_ then 0 else if s.R i=s.a.2∨s.R i=s.b.2 then s.d i+1 else s.d i,
 fun i=>if i=s.a.2∨i=s.b.2 then s.at_ else s.up i⟩
def aab(ws:List Int):MA:=⟨(List.range ws.length).map (fun i=>(ws.getD i 0,i)),ws.length,id,fun _=>0,fun _=>0⟩
def DO:Nat→MA→MA
 |0,s=>s
 |k+1,s=>(DO k s).step
theorem I4(p:Int×Nat):∀ (r:List (Int×Nat)),Oy p r∈p::r:=by
 intro r
 induction r generalizing p with
 |nil=>simp[Oy]
 |cons q r ih=>
  unfold Oy
  split
  ·exact aoQ _ (ih q)
  ·have:=ih p
   simp only[aot]at this ⊢
   rcases this with h|h
   ·exact .inl h
   ·exact .inr (.inr h)
def EY(l:List (Int×Nat)):Prop:=l.Pairwise fun p q=>p.2<q.2
theorem Wa(p:Int×Nat):∀ (r:List (Int×Nat)),EY (p::r)→∀q∈p::r,q.2≠(Oy p r).2→(Oy p r).1<q.1∨((Oy p r).1=q.1∧(Oy p r).2<q.2):=by
 intro r
 induction r generalizing p with
 |nil=>
  intro _ q hq aP
  rcases aot.1 hq with rfl|hq
  ·exact absurd rfl aP
  ·cases hq
 |cons c r ih=>
  intro hr q hq aP
  have vT:=apr.1 hr
  have TA:=apr.1 vT.2
  unfold Oy at aP ⊢
  split at aP
  ·rename_i aO
   rw[if_pos aO]
   rcases aot.1 hq with rfl|hq
   ·by_cases e:c.2=(Oy c r).2
    ·have hm:=I4 c r
     rcases aot.1 hm with h|h
     ·rw[h];exact .inl aO
     ·have:=TA.1 _ h;omega
    ·rcases ih c vT.2 c (by simp) e with h|h<;>exact .inl (by omega)
   ·exact ih c vT.2 q hq aP
  ·rename_i aO
   rw[if_neg aO]
   have hr4:EY (p::r):=apr.2 ⟨fun z hz=>vT.1 z (by simp[hz]),TA.2⟩
   rcases aot.1 hq with rfl|hq
   ·exact ih q hr4 q (by simp) aP
   ·rcases aot.1 hq with rfl|hq
    ·have Oz:=vT.1 q (by simp)
     by_cases e:p.2=(Oy p r).2
     ·have hm:=I4 p r
      rcases aot.1 hm with h|h
      ·rw[h];omega
      ·have:=vT.1 _ (aoQ _ h);omega
     ·rcases ih p hr4 p (by simp) e with h|h
      ·exact .inl (by omega)
      ·by_cases e2:(Oy p r).1=q.1
       ·exact .inr ⟨e2,by omega⟩
       ·exact .inl (by omega)
    ·exact ih p hr4 q (by simp[hq]) aP
structure YW(p:Int×Nat)(l:List (Int×Nat)):Prop where
 m:p∈l
 l:∀q∈l,q.2≠p.2→p.1<q.1∨(p.1=q.1∧p.2<q.2)
theorem OA{l:List (Int×Nat)}(h:EY l)(h0:l≠[]):YW (V9 l) l:=by
 cases l with
 |nil=>exact absurd rfl h0
 |cons p r=>exact⟨I4 p r,Wa p r h⟩
theorem mQ{l:List (Int×Nat)}{p q:Int×Nat}:q∈wo l p↔q∈l∧q.2≠p.2:=by unfold wo;rw[ao9];simp
theorem EY.wo{l:List (Int×Nat)}(h:EY l)(p:Int×Nat):EY (wo l p):=List.Pairwise.sublist List.filter_sublist h
theorem I5{l:List (Int×Nat)}(h:EY l){p:Int×Nat}(hp:p∈l):l.Perm (p::wo l p):=by
 induction l with
 |nil=>cases hp
 |cons c r ih=>
  have h2:=apr.1 h
  unfold wo
  rw[apx]
  rcases aot.1 hp with rfl|hp
  ·rw[if_neg (by simp)]
   have:r.filter (fun q=>decide (q.2≠p.2))=r:=by
    rw[apL]
    intro q hq
    have:=h2.1 q hq
    simp
    omega
   rw[this]
  ·have hc:=h2.1 p hp
   rw[if_pos (by simp;omega)]
   exact((ih h2.2 hp).cons c).trans (List.Perm.swap _ _ _)
structure TB(ws:List Int)(k:Nat)(s:MA):Prop where
 ids:EY s.eX
 lt:∀p∈s.eX,p.2<s.at_
 at_:s.at_=ws.length+k
 len:s.eX.length+k=ws.length
 rt:∀i,i<s.at_→(∃p∈s.eX,p.2=s.R i)∧i≤s.R i
 Ph:∀p∈s.eX,s.R p.2=p.2∧s.d p.2=0
 upI:∀i,i<s.at_→s.R i≠i→i<s.up i∧s.up i<s.at_∧s.R i=s.R (s.up i)∧s.d i=s.d (s.up i)+1
 wt:∀p∈s.eX,yw ws.length (fun i=>if s.R i=p.2 then ws.getD i 0 else 0)=p.1
 dl:∀i,i<s.at_→s.d i≤k
 kr:∀p∈s.eX,B6 ws.length (fun i=>if s.R i=p.2 then 2^ (ws.length - s.d i)else 0)=2^ws.length
 huf:∀c,I3 (s.eX.map (·.1)) c→I3 ws (c+yw ws.length (fun i=>ws.getD i 0*(s.d i:Int)))
theorem MA.aad{ws:List Int}{k:Nat}{s:MA}(h:TB ws k s)(hk:k+1<ws.length):YW s.a s.eX∧YW s.b (wo s.eX s.a)∧s.a.2≠s.b.2∧s.b∈s.eX∧s.eX.Perm (s.a::s.b::wo (wo s.eX s.a) s.b):=by
 have hl:=h.len
 have h1:YW s.a s.eX:=OA h.ids (fun e=>by rw[e]at hl;simp at hl;omega)
 have p1:=I5 h.ids h1.m
 have h2:YW s.b (wo s.eX s.a):=OA (h.ids.wo _) (fun e=>by
  have:=p1.length_eq
  rw[e]at this
  simp at this
  omega)
 obtain⟨m1,m2⟩:=mQ.1 h2.m
 exact⟨h1,h2,fun e=>m2 e.symm,m1,p1.trans ((I5 (h.ids.wo _) h2.m).cons _)⟩
theorem TB.step{ws:List Int}{k:Nat}{s:MA}(h:TB ws k s)(hk:k+1<ws.length):TB ws (k+1) s.step:=by
 obtain⟨ha,hb,BZ,EZ,hp⟩:=MA.aad h hk
 have vq:=h.at_
 have la:=h.lt _ ha.m
 have lb:=h.lt _ EZ
 have bK:∀q,q∈s.step.eX→(q∈s.eX∧q.2≠s.a.2∧q.2≠s.b.2)∨q=(s.a.1+s.b.1,s.at_):=fun q hq=>by
  rcases aou.1 hq with hq|hq
  ·obtain⟨h1,h2⟩:=mQ.1 hq
   obtain⟨h3,h4⟩:=mQ.1 h1
   exact .inl ⟨h3,h4,h2⟩
  ·exact .inr (by simpa using hq)
 have hR:∀i,i<s.at_→s.step.R i=if s.R i=s.a.2∨s.R i=s.b.2 then s.at_ else s.R i:=fun i hi=>by show(if i=s.at_ then i else _)=_;rw[if_neg (by omega)]
 have hd:∀i,i<s.at_→s.step.d i=if s.R i=s.a.2∨s.R i=s.b.2 then s.d i+1 else s.d i:=fun i hi=>by show(if i=s.at_ then 0 else _)=_;rw[if_neg (by omega)]
 have hRa:s.step.R s.at_=s.at_:=by show(if s.at_=s.at_ then s.at_ else _)=_;rw[if_pos rfl]
 have hda:s.step.d s.at_=0:=by show(if s.at_=s.at_ then 0 else _)=_;rw[if_pos rfl]
 have aae:∀i,i<s.at_→s.R i<s.at_:=fun i hi=>by obtain⟨⟨p,p1,p2⟩,_⟩:=h.rt i hi;rw[←p2];exact h.lt p p1
 have sa:=h.Ph _ ha.m
 have sb:=h.Ph _ EZ
 refine⟨?_,fun p qK=>?_,by show s.at_+1=_;omega,?_,fun i hi=>?_,fun p qK=>?_,fun i hi aP=>?_,fun p qK=>?_,fun i hi=>?_,fun p qK=>?_,fun c hc=>?_⟩
 ·show EY (_++_)
  unfold EY
  rw[apo]
  refine⟨(h.ids.wo _).wo _,by simp,fun q hq z hz=>?_⟩
  obtain⟨h1,_⟩:=mQ.1 hq
  obtain⟨h3,_⟩:=mQ.1 h1
  rw[aoq.1 hz]
  exact h.lt q h3
 ·show p.2<s.at_+1
  rcases bK p qK with h1|h1
  ·have:=h.lt p h1.1;omega
  ·rw[h1];simp
 ·have h1:=hp.length_eq
  have h2:=h.len
  show(wo (wo s.eX s.a) s.b++[_]).length+(k+1)=_
  simp at h1 ⊢
  omega
 ·have my:i<s.at_+1:=hi
  by_cases e:i=s.at_
  ·rw[e,hRa]
   exact⟨⟨(s.a.1+s.b.1,s.at_),ape _ (by simp),rfl⟩,aov _⟩
  ·have qN:i<s.at_:=by omega
   obtain⟨⟨p,p1,p2⟩,h4⟩:=h.rt i qN
   rw[hR i qN]
   split
   ·exact⟨⟨(s.a.1+s.b.1,s.at_),ape _ (by simp),rfl⟩,by omega⟩
   ·rename_i hn
    refine⟨⟨p,aoy _ (mQ.2 ⟨mQ.2 ⟨p1,fun e=>hn (.inl (by omega))⟩,fun e=>hn (.inr (by omega))⟩),p2⟩,h4⟩
 ·rcases bK p qK with ⟨h1,h2,h3⟩|h1
  ·have h4:=h.lt p h1
   obtain⟨h5,h6⟩:=h.Ph p h1
   rw[hR _ h4,hd _ h4,h5,if_neg (by omega),if_neg (by omega)]
   exact⟨rfl,h6⟩
  ·rw[h1];exact⟨hRa,hda⟩
 ·have my:i<s.at_+1:=hi
  have e:i≠s.at_:=fun e=>aP (by rw[e,hRa])
  have qN:i<s.at_:=by omega
  have E0:s.step.up i=if i=s.a.2∨i=s.b.2 then s.at_ else s.up i:=rfl
  rw[E0]
  by_cases Kv:i=s.a.2∨i=s.b.2
  ·rw[if_pos Kv]
   have hRi:s.R i=i∧s.d i=0:=by
    rcases Kv with e|e
    ·rw[e];exact sa
    ·rw[e];exact sb
   rw[hRa,hda,hR i qN,hd i qN,hRi.1,if_pos Kv,if_pos Kv,hRi.2]
   exact⟨qN,by show s.at_<s.at_+1;omega,rfl,rfl⟩
  ·rw[if_neg Kv]
   have hRi:s.R i≠i:=fun e2=>aP (by
    rw[hR i qN,e2,if_neg Kv])
   obtain⟨u1,u2,u3,u4⟩:=h.upI i qN hRi
   rw[hR i qN,hd i qN,hR _ u2,hd _ u2,←u3]
   refine⟨u1,by show s.up i<s.at_+1;omega,rfl,?_⟩
   split<;>omega
 ·rcases bK p qK with ⟨h1,h2,h3⟩|h1
  ·rw[←h.wt p h1]
   refine yx fun i hi=>?_
   have qN:i<s.at_:=by omega
   have:=h.lt p h1
   rw[hR i qN]
   by_cases e:s.R i=s.a.2∨s.R i=s.b.2
   ·rw[if_pos e,if_neg (by omega),if_neg (by omega)]
   ·rw[if_neg e]
  ·rw[h1]
   show yw ws.length (fun i=>if s.step.R i=s.at_ then ws.getD i 0 else 0)=s.a.1+s.b.1
   rw[←h.wt _ ha.m,←h.wt _ EZ,←EX]
   refine yx fun i hi=>?_
   have qN:i<s.at_:=by omega
   have:=aae i qN
   rw[hR i qN]
   by_cases e1:s.R i=s.a.2
   ·rw[if_pos (Or.inl e1),if_pos rfl,if_pos e1,if_neg (by omega)];omega
   ·by_cases e2:s.R i=s.b.2
    ·rw[if_pos (Or.inr e2),if_pos rfl,if_neg e1,if_pos e2];omega
    ·have e3:¬ (s.R i=s.a.2∨s.R i=s.b.2):=by omega
     rw[if_neg e3,if_neg (show¬s.R i=s.at_ by omega),if_neg e1,if_neg e2];rfl
 ·have my:i<s.at_+1:=hi
  by_cases e:i=s.at_
  ·rw[e,hda];omega
  ·have:=h.dl i (by omega)
   rw[hd i (by omega)]
   split<;>omega
 ·rcases bK p qK with ⟨h1,h2,h3⟩|h1
  ·rw[←h.kr p h1]
   refine EW fun i hi=>?_
   have qN:i<s.at_:=by omega
   have:=h.lt p h1
   rw[hR i qN,hd i qN]
   by_cases e:s.R i=s.a.2∨s.R i=s.b.2
   ·rw[if_pos e,if_neg (by omega),if_neg (by omega)]
   ·rw[if_neg e,if_neg e]
  ·rw[h1]
   have h5:2*B6 ws.length (fun i=>if s.step.R i=s.at_ then 2^ (ws.length - s.step.d i)else 0)=2^ws.length+2^ws.length:=by
    rw[←Q5,←h.kr _ ha.m]
    conv=>rhs;rw[h.kr _ ha.m];arg 2;rw[←h.kr _ EZ]
    rw[←h.kr _ ha.m,←Q4]
    refine EW fun i hi=>?_
    have qN:i<s.at_:=by omega
    have:=aae i qN
    have hdl:=h.dl i qN
    rw[hR i qN,hd i qN]
    have e2:2*2^ (ws.length - (s.d i+1))=2^ (ws.length - s.d i):=by
     rw[show ws.length - s.d i=(ws.length - (s.d i+1))+1 by omega,Nat.pow_succ]
     omega
    by_cases e1:s.R i=s.a.2
    ·rw[if_pos (Or.inl e1),if_pos rfl,if_pos (Or.inl e1),if_pos e1,if_neg (by omega),e2,Nat.add_zero]
    ·by_cases e3:s.R i=s.b.2
     ·rw[if_pos (Or.inr e3),if_pos rfl,if_pos (Or.inr e3),if_neg e1,if_pos e3,e2];omega
     ·have e4:¬ (s.R i=s.a.2∨s.R i=s.b.2):=by omega
      rw[if_neg e4,if_neg (show¬s.R i=s.at_ by omega),if_neg e1,if_neg e3]
   show B6 ws.length (fun i=>if s.step.R i=s.at_ then 2^ (ws.length - s.step.d i)else 0)=_
   omega
 ·have sC:I3 ((s.a.1+s.b.1)::(wo (wo s.eX s.a) s.b).map (·.1)) c:=by
   refine hc.perm ?_
   show List.Perm _ ((wo (wo s.eX s.a) s.b++[(s.a.1+s.b.1,s.at_)]).map (·.1))
   rw[aoN]
   exact apf (l₁:=[s.a.1+s.b.1])
  have h5:=h.huf (c+(s.a.1+s.b.1)) (.step (hp.map (·.1)) (by
   rcases ha.l _ EZ (Ne.symm BZ)with h|h<;>omega) (fun r hr=>by
   obtain⟨q,hq,rfl⟩:=aoC.1 hr
   obtain⟨h1,h2⟩:=mQ.1 hq
   rcases hb.l q h1 h2 with h|h<;>omega) sC)
  have h6:yw ws.length (fun i=>ws.getD i 0*(s.step.d i:Int))=yw ws.length (fun i=>ws.getD i 0*(s.d i:Int))+(s.a.1+s.b.1):=by
   rw[←h.wt _ ha.m]
   conv=>rhs;arg 2;arg 2;rw[←h.wt _ EZ]
   rw[←EX,←EX]
   refine yx fun i hi=>?_
   have qN:i<s.at_:=by omega
   rw[hd i qN]
   by_cases e1:s.R i=s.a.2
   ·rw[if_pos (Or.inl e1),if_pos e1,if_neg (by omega),show((s.d i+1:Nat):Int)=(s.d i:Int)+1 by omega,Int.mul_add,Int.mul_one];omega
   ·by_cases e2:s.R i=s.b.2
    ·rw[if_pos (Or.inr e2),if_neg e1,if_pos e2,show((s.d i+1:Nat):Int)=(s.d i:Int)+1 by omega,Int.mul_add,Int.mul_one];omega
    ·have e3:¬ (s.R i=s.a.2∨s.R i=s.b.2):=by omega
     rw[if_neg e3,if_neg e1,if_neg e2];omega
  rw[h6]
  rw[show c+(yw ws.length (fun i=>ws.getD i 0*(s.d i:Int))+(s.a.1+s.b.1))=c+(s.a.1+s.b.1)+yw ws.length (fun i=>ws.getD i 0*(s.d i:Int)) by omega]
  exact h5
end Go.Proofs.YtjlnnljohemifaaGreat

namespace Go.Proofs.YtjlnnljohemifaaGreat
def Pj(ws:List Int):MA:=DO (ws.length - 1) (aab ws)
end Go.Proofs.YtjlnnljohemifaaGreat

namespace Go.Proofs.YtjlnnljohemifaaGreat
abbrev E2:=Nat×Nat
def Dr(p:Nat→Nat)(e:E2):Nat→Nat:=fun v=>if p v=max (p e.1) (p e.2)then min (p e.1) (p e.2)else p v
def aD(ks:List E2):Nat→Nat:=ks.foldl Dr id
theorem Iu:aD []=id:=rfl
theorem mR(ks:List E2)(e:E2):aD (ks++[e])=Dr (aD ks) e:=by unfold aD;rw[List.foldl_append];rfl
theorem kj{α:Type}{P:List α→Prop}(h0:P [])(h1:∀l x,P l→P (l++[x])):∀l,P l:=by
 intro l
 have:∀r:List α,P r.reverse:=by
  intro r
  induction r with
  |nil=>exact h0
  |cons x r ih=>rw[List.reverse_cons];exact h1 _ _ ih
 have:=this l.reverse
 rwa[List.reverse_reverse]at this
theorem Iv:∀ks:List E2,(∀v,aD ks v≤v)∧∀v,aD ks (aD ks v)=aD ks v:=by
 refine kj ⟨fun v=>aov _,fun v=>rfl⟩ fun ks e ⟨h1,h2⟩=>?_
 rw[mR]
 constructor
 ·intro v
  unfold Dr
  have:=h1 v
  split<;>omega
 ·intro v
  have a:=h2 v
  have b:=h2 e.1
  have c:=h2 e.2
  unfold Dr
  by_cases hv:aD ks v=max (aD ks e.1) (aD ks e.2)
  ·rw[if_pos hv]
   by_cases hm:aD ks e.1≤aD ks e.2
   ·rw[apE hm,Nat.max_eq_right hm,b]
    split<;>rfl
   ·rw[Nat.min_eq_right (by omega),Nat.max_eq_left (by omega),c]
    split<;>rfl
  ·rw[if_neg hv,a,if_neg hv]
theorem iQ(ks:List E2)(v:Nat):aD ks v≤v:=(Iv ks).1 v
theorem jX(ks:List E2)(v:Nat):aD ks (aD ks v)=aD ks v:=(Iv ks).2 v
def bF(ks:List E2)(u v:Nat):Prop:=aD ks u=aD ks v
theorem bF.rfl{ks:List E2}{u:Nat}:bF ks u u:=Eq.refl _
theorem bF.symm{ks:List E2}{u v:Nat}(h:bF ks u v):bF ks v u:=Eq.symm h
theorem bF.trans{ks:List E2}{u v x:Nat}(h:bF ks u v)(k:bF ks v x):bF ks u x:=Eq.trans h k
theorem vr(ks:List E2)(v:Nat):bF ks (aD ks v) v:=jX ks v
instance(ks:List E2)(u v:Nat):Decidable (bF ks u v):=inferInstanceAs (Decidable (_=_))
theorem vt(ks:List E2)(e:E2)(u v:Nat):bF (ks++[e]) u v↔bF ks u v∨(bF ks u e.1∧bF ks v e.2)∨(bF ks u e.2∧bF ks v e.1):=by
 unfold bF
 rw[mR]
 unfold Dr
 rcases Nat.le_total (aD ks e.1) (aD ks e.2)with h|h
 ·rw[apE h,Nat.max_eq_right h]
  split<;>split<;>omega
 ·rw[Nat.min_eq_right h,Nat.max_eq_left h]
  split<;>split<;>omega
theorem kC{ks:List E2}{e:E2}(h:e∈ks):bF ks e.1 e.2:=by
 revert h
 refine kj (P:=fun ks=>e∈ks→bF ks e.1 e.2) (by simp) (fun ks x ih h=>?_) ks
 rw[vt]
 rcases aou.1 h with h|h
 ·exact .inl (ih h)
 ·rw[aoq]at h
  subst h
  exact .inr (.inl ⟨bF.rfl,bF.rfl⟩)
theorem E1{ks:List E2}{Q:Nat→Nat→Prop}(hr:∀u,Q u u)(hs:∀u v,Q u v→Q v u)(ht:∀u v x,Q u v→Q v x→Q u x)(he:∀e∈ks,Q e.1 e.2){u v:Nat}(h:bF ks u v):Q u v:=by
 revert he u v
 refine kj (P:=fun ks=>(∀e∈ks,Q e.1 e.2)→∀ {u v:Nat},bF ks u v→Q u v) ?_ ?_ ks
 ·intro _ u v h
  have:u=v:=h
  subst this
  exact hr u
 ·intro ks x ih he u v h
  have ih':=fun{u v}=>@ih (fun e h=>he e (aoy _ h)) u v
  have hx:=he x (by simp)
  rw[vt]at h
  rcases h with h| ⟨h1,h2⟩| ⟨h1,h2⟩
  ·exact ih' h
  ·exact ht _ _ _ (ih' h1) (ht _ _ _ hx (hs _ _ (ih' h2)))
  ·exact ht _ _ _ (ih' h1) (ht _ _ _ (hs _ _ hx) (hs _ _ (ih' h2)))
theorem pI{ks ks':List E2}(h:∀e∈ks,bF ks' e.1 e.2){u v:Nat}(k:bF ks u v):bF ks' u v:=
 E1 (fun _=>bF.rfl) (fun _ _=>bF.symm) (fun _ _ _=>bF.trans) h k
theorem et{ks ks':List E2}(h:∀e∈ks,e∈ks'){u v:Nat}(k:bF ks u v):bF ks' u v:=pI (fun e he=>kC (h e he)) k
theorem Kw(ks:List E2)(v:Nat):aD ks v=v↔∀u,bF ks u v→v≤u:=by
 constructor
 ·intro h u hu
  have:aD ks u=v:=Eq.trans hu h
  have:=iQ ks u
  omega
 ·intro h
  have h1:=h _ (vr ks v)
  have:=iQ ks v
  omega
theorem pJ{ks ks':List E2}(h:∀u v,bF ks u v↔bF ks' u v):aD ks=aD ks':=by
 funext v
 have h1:bF ks' (aD ks v) v:=(h _ _).1 (vr ks v)
 have h2:bF ks (aD ks' v) v:=(h _ _).2 (vr ks' v)
 have a1:aD ks' (aD ks v)=aD ks' v:=h1
 have a2:aD ks (aD ks' v)=aD ks v:=h2
 have:=iQ ks' (aD ks v)
 have:=iQ ks (aD ks' v)
 omega
def cls(n:Nat)(ks:List E2):Nat:=((List.range n).filter fun v=>aD ks v==v).length
theorem xM{α:Type}(p q:α→Bool):∀l:List α,(∀x∈l,p x=true→q x=true)→(l.filter p).length≤(l.filter q).length:=by
 intro l
 induction l with
 |nil=>intro _;simp
 |cons x l ih=>
  intro h
  have h1:=ih fun y hy=>h y (aoQ _ hy)
  have h2:=h x (ao5 ..)
  rw[apx,apx]
  cases hp:p x
  ·cases hq:q x<;>simp<;>omega
  ·rw[h2 hp];simp;omega
theorem xN{α:Type}(p q:α→Bool):∀l:List α,(∀x∈l,p x=true→q x=true)→(l.filter p).length=(l.filter q).length→∀x∈l,q x=true→p x=true:=by
 intro l
 induction l with
 |nil=>intro _ _ x hx;cases hx
 |cons x l ih=>
  intro h hl y hy hqy
  have h1:=xM p q l fun y hy=>h y (aoQ _ hy)
  have h2:=h x (ao5 ..)
  rw[apx,apx]at hl
  cases hp:p x
  ·cases hq:q x
   ·rw[hp,hq]at hl
    rcases aot.1 hy with rfl|hy
    ·rw[hqy]at hq;cases hq
    ·exact ih (fun z hz=>h z (aoQ _ hz)) (by simpa using hl) y hy hqy
   ·rw[hp,hq]at hl;simp at hl;omega
  ·rw[hp,h2 hp]at hl
   rcases aot.1 hy with rfl|hy
   ·exact hp
   ·exact ih (fun z hz=>h z (aoQ _ hz)) (by simpa using hl) y hy hqy
theorem Wb(n:Nat){ks ks':List E2}(h:∀u v,bF ks u v→bF ks' u v):cls n ks'≤cls n ks:=by
 refine xM _ _ _ fun v _ hv=>?_
 rw[beq_iff_eq,Kw]at hv ⊢
 exact fun u hu=>hv u (h u v hu)
theorem Wc{n:Nat}{ks ks':List E2}(h:∀u v,bF ks u v→bF ks' u v)(hc:cls n ks'=cls n ks){u v:Nat}(hu:u<n)(hv:v<n)(k:bF ks' u v):bF ks u v:=by
 have key:=xN (fun v=>aD ks' v==v) (fun v=>aD ks v==v) (List.range n) (fun v _ hv=>by
  rw[beq_iff_eq,Kw]at hv ⊢
  exact fun u hu=>hv u (h u v hu)) hc
 have root:∀x,x<n→aD ks' x=aD ks x:=fun x hx=>by
  have hr:=iQ ks x
  have h1:=key (aD ks x) (apj.2 (by omega)) (by rw[beq_iff_eq];exact jX ks x)
  rw[beq_iff_eq]at h1
  have h2:aD ks' (aD ks x)=aD ks' x:=h _ _ (vr ks x)
  omega
 show aD ks u=aD ks v
 rw[←root u hu,←root v hv]
 exact k
inductive gF:List E2→Prop
 |nil:gF []
 |snoc (ks:List E2) (e:E2) (h:gF ks) (he:¬bF ks e.1 e.2):gF (ks++[e])
theorem vu{ks:List E2}{e:E2}:gF (ks++[e])↔gF ks∧¬bF ks e.1 e.2:=by
 constructor
 ·intro h
  generalize hk:ks++[e]=l at h
  cases h with
  |nil=>simp at hk
  |snoc ks' e' h he=>
   have:=List.append_inj' hk rfl
   obtain⟨h1,h2⟩:=this
   simp at h2
   subst h1;subst h2
   exact⟨h,he⟩
 ·rintro⟨h,he⟩;exact .snoc ks e h he
theorem E3{n:Nat}{ks:List E2}{e:E2}(h1:e.1<n)(h2:e.2<n)(hn:¬bF ks e.1 e.2):cls n (ks++[e])+1=cls n ks:=by
 unfold cls
 have hm:max (aD ks e.1) (aD ks e.2)<n:=by have:=iQ ks e.1;have:=iQ ks e.2;omega
 have aP:aD ks e.1≠aD ks e.2:=hn
 have Vd:aD ks (max (aD ks e.1) (aD ks e.2))=max (aD ks e.1) (aD ks e.2):=by
  rcases Nat.le_total (aD ks e.1) (aD ks e.2)with h|h
  ·rw[Nat.max_eq_right h];exact jX ks _
  ·rw[Nat.max_eq_left h];exact jX ks _
 generalize hM:max (aD ks e.1) (aD ks e.2)=M at*
 have hq:∀v,(aD (ks++[e]) v==v)=((aD ks v==v) && !(v==M)):=by
  intro v
  rw[mR]
  unfold Dr
  rw[hM]
  by_cases hv:aD ks v=M
  ·rw[if_pos hv]
   by_cases hvM:v=M
   ·have:¬ (min (aD ks e.1) (aD ks e.2)=v):=by omega
    simp[hvM];omega
   ·have h3:¬ (aD ks v=v):=by omega
    have h4:min (aD ks e.1) (aD ks e.2)≠v:=by
     intro h
     have:aD ks v=v:=by
      rw[←h]
      rcases Nat.le_total (aD ks e.1) (aD ks e.2)with h|h
      ·rw[apE h];exact jX ks _
      ·rw[Nat.min_eq_right h];exact jX ks _
     exact h3 this
    rw[beq_eq_false_iff_ne.2 h4,beq_eq_false_iff_ne.2 h3];rfl
  ·rw[if_neg hv]
   have:v≠M:=fun h=>hv (by rw[h];exact Vd)
   simp[this]
 have Wd:∀l:List Nat,l.Nodup→M∈l→(l.filter fun v=>aD (ks++[e]) v==v).length+1=(l.filter fun v=>aD ks v==v).length:=by
  intro l
  induction l with
  |nil=>intro _ h;cases h
  |cons x l ih=>
   intro gA bK
   rw[aoB]at gA
   rw[apx,apx,hq]
   by_cases hx:x=M
   ·subst hx
    have Iw:(l.filter fun v=>aD (ks++[e]) v==v)=(l.filter fun v=>aD ks v==v):=by
     apply List.filter_congr
     intro y hy
     rw[hq]
     have:y≠x:=fun h=>gA.1 (h▸hy)
     simp[this]
    rw[Iw]
    simp[Vd]
   ·have hm':M∈l:=by
     rcases aot.1 bK with h|h
     ·exact absurd h.symm hx
     ·exact h
    have:=ih gA.2 hm'
    rw[beq_eq_false_iff_ne.2 hx,apX,Bool.and_true]
    cases(aD ks x==x)<;>simp<;>omega
 exact Wd _ List.nodup_range (apj.2 hm)
theorem Ab{n:Nat}:∀ {ks:List E2},gF ks→(∀e∈ks,e.1<n∧e.2<n)→cls n ks+ks.length=n:=by
 intro ks h
 induction h with
 |nil=>intro _;unfold cls;rw[Iu,apL.2 (fun v _=>by simp)];simp
 |snoc ks e h he ih=>
  intro hb
  have h1:=ih fun x hx=>hb x (aoy _ hx)
  obtain⟨h2,h3⟩:=hb e (by simp)
  have:=E3 h2 h3 he
  rw[aor,aoA]
  omega
theorem Ky{ks ks':List E2}(h:gF ks)(hs:ks'.Sublist ks):gF ks':=by
 induction h generalizing ks' with
 |nil=>rw[List.sublist_nil.1 hs];exact .nil
 |snoc ks e h he ih=>
  rcases List.sublist_append_iff.1 hs with ⟨l1,l2,rfl,h1,h2⟩
  have hl:=ih h1
  rcases l2 with _| ⟨x,l2⟩
  ·simpa using hl
  ·have h3:=h2.length_le
   simp at h3
   subst h3
   have:x=e:=by
    have:=h2.subset (aoq.2 rfl)
    simpa using this
   subst this
   exact .snoc _ _ hl fun hh=>he (et (fun y hy=>h1.subset hy) hh)
theorem B7{ks ks':List E2}(h:ks.Perm ks')(u v:Nat):bF ks u v↔bF ks' u v:=⟨et fun e he=>h.mem_iff.1 he,et fun e he=>h.mem_iff.2 he⟩
def sD(A:List Int)(t:Int):Nat:=(A.filter fun x=>decide (x≤t)).length
theorem Kz{A B:List Int}(h:A.Perm B)(t:Int):sD A t=sD B t:=(h.filter _).length_eq
theorem KA(x:Int)(A:List Int)(t:Int):sD (x::A) t=(if x≤t then 1 else 0)+sD A t:=by
 unfold sD
 rw[apx]
 by_cases h:x≤t
 ·simp[h];omega
 ·simp[h]
theorem Q6(A:List Int)(t:Int):sD A t≤A.length:=List.length_filter_le _ _
theorem OB{A:List Int}{t:Int}(h:∀x∈A,x≤t):sD A t=A.length:=by
 unfold sD
 rw[apL.2 (fun x hx=>by simpa using h x hx)]
theorem TC{A:List Int}{t:Int}(h:sD A t=A.length):∀x∈A,x≤t:=by
 intro x hx
 have:=xN (fun x=>decide (x≤t)) (fun _=>true) A (fun _ _ _=>rfl) (by rw[show A.filter (fun _=>true)=A from apL.2 (fun _ _=>rfl)];exact h) x hx rfl
 simpa using this
theorem E4:∀ {A:List Int},A≠[]→∃a∈A,∀x∈A,x≤a:=by
 intro A
 induction A with
 |nil=>intro h;exact absurd rfl h
 |cons x A ih=>
  intro _
  by_cases h:A=[]
  ·subst h;exact⟨x,by simp,by simp⟩
  ·obtain⟨a,ha,hm⟩:=ih h
   by_cases hx:a≤x
   ·exact⟨x,by simp,fun y hy=>(aot.1 hy).elim (fun h=>by omega) (fun h=>aqq (hm y h) hx)⟩
   ·exact⟨a,by simp[ha],fun y hy=>(aot.1 hy).elim (fun h=>by omega) (fun h=>hm y h)⟩
theorem xO:∀ (k:Nat) {A B:List Int},A.length=k→B.length=k→(∀t,sD B t≤sD A t)→A.sum≤B.sum∧(A.sum=B.sum→∀t,sD A t=sD B t):=by
 intro k
 induction k with
 |zero=>
  intro A B hA hB _
  obtain rfl:=aoR.1 hA
  obtain rfl:=aoR.1 hB
  exact⟨apI _,fun _ _=>rfl⟩
 |succ k ih=>
  intro A B hA hB h
  obtain⟨a,ha,hma⟩:=E4 (A:=A) (by intro e;rw[e]at hA;simp at hA)
  obtain⟨b,hb,hmb⟩:=E4 (A:=B) (by intro e;rw[e]at hB;simp at hB)
  have pA:=List.perm_cons_erase ha
  have pB:=List.perm_cons_erase hb
  have lA:(A.erase a).length=k:=by have:=pA.length_eq;simp at this;omega
  have lB:(B.erase b).length=k:=by have:=pB.length_eq;simp at this;omega
  have BZ:a≤b:=by
   have h1:=h b
   rw[OB hmb]at h1
   have h2:=Q6 A b
   exact TC (by omega) a ha
  have hcA:∀t,sD A t=(if a≤t then 1 else 0)+sD (A.erase a) t:=fun t=>by rw[Kz pA,KA]
  have hcB:∀t,sD B t=(if b≤t then 1 else 0)+sD (B.erase b) t:=fun t=>by rw[Kz pB,KA]
  have nT:∀t,sD (B.erase b) t≤sD (A.erase a) t:=by
   intro t
   have h0:=h t
   rw[hcA,hcB]at h0
   by_cases h1:a≤t
   ·by_cases h2:b≤t
    ·rw[if_pos h1,if_pos h2]at h0;omega
    ·have:sD (A.erase a) t=(A.erase a).length:=OB fun x hx=>aqq (hma x (List.mem_of_mem_erase hx)) h1
     have:=Q6 (B.erase b) t
     omega
   ·rw[if_neg h1,if_neg (show¬b≤t by omega)]at h0;omega
  obtain⟨i1,i2⟩:=ih lA lB nT
  rw[Ku pA,Ku pB,ap9,ap9]
  refine⟨by omega,fun he t=>?_⟩
  have e1:a=b:=by omega
  have e2:=i2 (by omega) t
  rw[hcA,hcB,e2,e1]
section
variable {α : Type} (e : α → E2) (w : α → Int)
def zZ(T:List α)(t:Int):List α:=T.filter fun i=>decide (w i≤t)
theorem vw(T:List α)(t:Int):sD (T.map w) t=(zZ w T t).length:=by
 unfold sD zZ
 induction T with
 |nil=>rfl
 |cons x T ih=>rw[ao6,apx,apx];split<;>simp_all
def Loc(E T:List α):Prop:=∀i∈E,bF ((zZ w T (w i)).map e) (e i).1 (e i).2
variable {e w}
theorem Q7{T:List α}(h:gF (T.map e))(t:Int):gF ((zZ w T t).map e):=Ky h (List.filter_sublist.map e)
theorem I6{E T:List α}(h:∀i∈T,i∈E)(t:Int):∀x∈(zZ w T t).map e,x∈(zZ w E t).map e:=by
 intro x hx
 obtain⟨i,hi,rfl⟩:=aoC.1 hx
 rw[zZ,ao9]at hi
 exact aoC.2 ⟨i,ao9.2 ⟨h i hi.1,hi.2⟩,rfl⟩
theorem I7{n:Nat}{T:List α}(ha:gF (T.map e))(hb:∀i∈T,(e i).1<n∧(e i).2<n)(t:Int):cls n ((zZ w T t).map e)+(zZ w T t).length=n:=by
 have:=Ab (n:=n) (Q7 (w:=w) ha t) (fun x hx=>by
  obtain⟨i,hi,rfl⟩:=aoC.1 hx
  exact hb i (ao9.1 hi).1)
 rwa[aoF]at this
theorem I8{n:Nat}{E T:List α}(hs:∀i∈T,i∈E)(ha:gF (T.map e))(hb:∀i∈E,(e i).1<n∧(e i).2<n):
  Loc e w E T↔∀t,cls n ((zZ w E t).map e)+(zZ w T t).length=n:=by
 have hbT:∀i∈T,(e i).1<n∧(e i).2<n:=fun i hi=>hb i (hs i hi)
 constructor
 ·intro h t
  have h1:=I7 (w:=w) ha hbT t
  have h2:∀u v,bF ((zZ w E t).map e) u v↔bF ((zZ w T t).map e) u v:=fun u v=>by
   refine⟨pI fun x hx=>?_,et (I6 hs t)⟩
   obtain⟨i,hi,rfl⟩:=aoC.1 hx
   rw[zZ,ao9]at hi
   have hw:w i≤t:=by simpa using hi.2
   refine et (fun y hy=>?_) (h i hi.1)
   obtain⟨j,hj,rfl⟩:=aoC.1 hy
   rw[zZ,ao9]at hj
   have hjw:w j≤w i:=by simpa using hj.2
   exact aoC.2 ⟨j,ao9.2 ⟨hj.1,by simp;omega⟩,rfl⟩
  have h3:cls n ((zZ w E t).map e)=cls n ((zZ w T t).map e):=by
   unfold cls
   rw[pJ h2]
  omega
 ·intro h i hi
  have h1:=I7 (w:=w) ha hbT (w i)
  have h2:=h (w i)
  refine Wc (n:=n) (fun u v=>et (I6 hs (w i))) (by omega) (hb i hi).1 (hb i hi).2 ?_
  exact kC (aoC.2 ⟨i,ao9.2 ⟨hi,by simp⟩,rfl⟩)
theorem Pk{n:Nat}{E K T:List α}(hsK:∀i∈K,i∈E)(haK:gF (K.map e))(hsT:∀i∈T,i∈E)(haT:gF (T.map e))(hb:∀i∈E,(e i).1<n∧(e i).2<n)
  (aZ:K.length=T.length)(hK:Loc e w E K):(K.map w).sum≤(T.map w).sum∧((K.map w).sum=(T.map w).sum↔Loc e w E T):=by
 have hk:=(I8 (w:=w) hsK haK hb).1 hK
 have nT:∀t,sD (T.map w) t≤sD (K.map w) t:=fun t=>by
  rw[vw,vw]
  have h1:=hk t
  have h2:=I7 (w:=w) haT (fun i hi=>hb i (hsT i hi)) t
  have h3:=Wb n (ks:=(zZ w T t).map e) (ks':=(zZ w E t).map e) (fun u v=>et (I6 hsT t))
  omega
 obtain⟨g1,g2⟩:=xO K.length (A:=K.map w) (B:=T.map w) (by simp) (by simp[aZ]) nT
 refine⟨g1,fun h=>?_,fun h=>?_⟩
 ·rw[I8 (n:=n) hsT haT hb]
  intro t
  have:=g2 h t
  rw[vw,vw]at this
  rw[←this]
  exact hk t
 ·have ht:=(I8 (w:=w) hsT haT hb).1 h
  obtain⟨g3,_⟩:=xO K.length (A:=T.map w) (B:=K.map w) (by simp[aZ]) (by simp) (fun t=>by
   rw[vw,vw]
   have h1:=hk t
   have h2:=ht t
   omega)
  omega
variable (e) in
def bT(L:List α):List α:=L.foldl (fun out i=>if bF (out.map e) (e i).1 (e i).2 then out else out++[i]) []
theorem og(L:List α)(i:α):bT e (L++[i])=if bF ((bT e L).map e) (e i).1 (e i).2 then bT e L else bT e L++[i]:=by
 unfold bT
 rw[List.foldl_append]
 rfl
theorem vx:∀L:List α,gF ((bT e L).map e)∧(∀i∈bT e L,i∈L)∧∀i∈L,bF ((bT e L).map e) (e i).1 (e i).2:=by
 refine kj ⟨.nil,by simp[bT],by simp⟩ fun L i ⟨h1,h2,h3⟩=>?_
 rw[og]
 split
 ·rename_i hh
  refine⟨h1,fun x hx=>aoy _ (h2 x hx),fun x hx=>?_⟩
  rcases aou.1 hx with hx|hx
  ·exact h3 x hx
  ·rw[aoq.1 hx];exact hh
 ·rename_i hh
  rw[aoN]
  refine⟨.snoc _ _ h1 hh,fun x hx=>?_,fun x hx=>?_⟩
  ·rcases aou.1 hx with hx|hx
   ·exact aoy _ (h2 x hx)
   ·exact ape _ hx
  ·rcases aou.1 hx with hx|hx
   ·exact et (fun y hy=>aoy _ hy) (h3 x hx)
   ·rw[aoq.1 hx];exact kC (by simp)
theorem ML(L1:List α):∀L2:List α,∀i∈bT e L1,i∈bT e (L1++L2):=by
 refine kj (by simp) fun L2 x ih i hi=>?_
 rw[←apU,og]
 split
 ·exact ih i hi
 ·exact aoy _ (ih i hi)
theorem MM{L:List α}(hs:L.Pairwise fun i j=>w i≤w j):Loc e w L (bT e L):=by
 intro i hi
 obtain⟨L1,L2,rfl⟩:=List.append_of_mem hi
 have nT:∀j∈L1++[i],w j≤w i:=by
  intro j hj
  rcases aou.1 hj with hj|hj
  ·rw[apo]at hs
   exact hs.2.2 j hj i (by simp)
  ·rw[aoq.1 hj];exact apI _
 obtain⟨_,g2,g3⟩:=vx (e:=e) (L1++[i])
 refine et (fun x hx=>?_) (g3 i (by simp))
 obtain⟨j,hj,rfl⟩:=aoC.1 hx
 have:=ML (e:=e) (L1++[i]) L2 j hj
 rw[apU]at this
 exact aoC.2 ⟨j,ao9.2 ⟨this,by simpa using nT j (g2 j hj)⟩,rfl⟩
theorem E5{n:Nat}{E T:List α}(hs:∀i∈T,i∈E)(ha:gF (T.map e))(hb:∀i∈E,(e i).1<n∧(e i).2<n)(hh:∀i∈E,bF (T.map e) (e i).1 (e i).2):cls n (E.map e)+T.length=n:=by
 have h1:=Ab (n:=n) ha (fun x hx=>by
  obtain⟨i,hi,rfl⟩:=aoC.1 hx
  exact hb i (hs i hi))
 have h2:∀u v,bF (E.map e) u v↔bF (T.map e) u v:=fun u v=>⟨pI fun x hx=>by
  obtain⟨i,hi,rfl⟩:=aoC.1 hx
  exact hh i hi,et fun x hx=>by
  obtain⟨i,hi,rfl⟩:=aoC.1 hx
  exact aoC.2 ⟨i,hs i hi,rfl⟩⟩
 have h3:cls n (E.map e)=cls n (T.map e):=by unfold cls;rw[pJ h2]
 rw[aoF]at h1
 omega
end
section
variable {α : Type} {e : α → E2}
def but(T:List α)(k:Nat):List α:=T.take k++T.drop (k+1)
def Touch(p:E2)(u:Nat):Prop:=p.1=u∨p.2=u
def other(p:E2)(u:Nat):Nat:=p.1+p.2 - u
theorem MN{ks:List E2}{p:E2}{u:Nat}(t:Touch p u)(h:p∈ks):bF ks u (other p u):=by
 unfold other
 rcases t with t|t
 ·subst t;rw[show p.1+p.2 - p.1=p.2 by omega];exact kC h
 ·subst t;rw[show p.1+p.2 - p.2=p.1 by omega];exact(kC h).symm
theorem KD{p:E2}{u:Nat}(t:Touch p u):Touch p (other p u)∧other p (other p u)=u:=by
 unfold other Touch at*
 omega
end
end Go.Proofs.YtjlnnljohemifaaGreat

namespace Go.Proofs.YtjlnnljohemifaaGreat
section
variable {α : Type} {e : α → E2} {w : α → Int}
theorem tU{T T':List α}(h:∀i∈T,i∈T'){t t':Int}(ht:t≤t'){u v:Nat}(hh:bF ((zZ w T t).map e) u v):bF ((zZ w T' t').map e) u v:=by
 refine et (fun p hp=>?_) hh
 obtain⟨i,hi,rfl⟩:=aoC.1 hp
 obtain⟨h1,h2⟩:=ao9.1 hi
 refine aoC.2 ⟨i,ao9.2 ⟨h i h1,?_⟩,rfl⟩
 have:w i≤t:=by simpa using h2
 simpa using aqq this ht
theorem Q8{T:List α}{i:α}(hi:i∈T){t:Int}(ht:w i≤t){u:Nat}(hu:Touch (e i) u):bF ((zZ w T t).map e) u (other (e i) u):=
 MN hu (aoC.2 ⟨i,ao9.2 ⟨hi,by simpa using ht⟩,rfl⟩)
structure kD(e:α→E2)(w:α→Int)(E T:List α)(o:List Nat)(k:Nat→Int)(wt:Nat→Prop)(b:Nat→α)(left:List α):Prop where
 I9:∀ (a c:Nat) (t:Int) (va vc:Nat),o[a]? =some va→o[c]? =some vc→a<c→(∀d,a<d→d≤c→k d≤t)→bF ((zZ w T t).map e) va vc
 wait:∀x,wt x→∃c vc,o[c]? =some vc∧b x∈E∧Touch (e (b x)) vc∧other (e (b x)) vc=x∧∀a,c<a→a<o.length→k a≤w (b x)
 DP:∀i∈E,∀a va,o[a]? =some va→Touch (e i) va→(a+1=o.length∧i∈left)∨other (e i) va∈o∨(wt (other (e i) va)∧w (b (other (e i) va))≤w i∧∀c,a<c→c<o.length→k c≤w i)
 loc:∀i∈E,(e i).1∈o→(e i).2∈o→bF ((zZ w T (w i)).map e) (e i).1 (e i).2
 out:∀x,wt x→x∉o
 nd:o.Nodup
theorem kD.begin{E T:List α}(k:Nat→Int)(b:Nat→α)(r:Nat):kD e w E T [r] k (fun _=>False) b E:=by
 refine⟨fun a c t va vc ha hc Tg _=>?_,fun x hx=>hx.elim,fun i hi a va ha ht=>?_,fun i hi h1 h2=>?_,fun x hx=>hx.elim,by simp⟩
 ·have:=(aoj.1 hc).1
  simp only[aoA]at this
  omega
 ·have:=(aoj.1 ha).1
  simp only[aoA]at this
  exact .inl ⟨by simp only[aoA];omega,hi⟩
 ·rw[aoq]at h1 h2
  rw[h1,h2]
  exact bF.rfl
theorem qO{o:List Nat}{x a v:Nat}(h:(o++[x])[a]? =some v):(a<o.length∧o[a]? =some v)∨(a=o.length∧v=x):=by
 by_cases ha:a<o.length
 ·rw[aox ha]at h
  exact .inl ⟨ha,h⟩
 ·have h1:=(aoj.1 h).1
  rw[aor,aoA]at h1
  have:a=o.length:=by omega
  subst this
  rw[List.getElem?_concat_length]at h
  injection h with h
  exact .inr ⟨rfl,h.symm⟩
theorem kD.enter{E T:List α}{o:List Nat}{k k':Nat→Int}{wt:Nat→Prop}{b:Nat→α}(P:kD e w E T o k wt b []){x:Nat}(hx:wt x)(Pm:∀y,wt y→w (b x)≤w (b y))(hk:∀a,a<o.length→k' a=k a)(z6:k' o.length=w (b x)):
  kD e w E (T++[b x]) (o++[x]) k' (fun y=>wt y∧y≠x) b E:=by
 obtain⟨c,vc,hc,hbE,htc,hox,hbk⟩:=P.wait x hx
 have nU:=(aoj.1 hc).1
 have Ja:∀i∈T,i∈T++[b x]:=fun i hi=>aoy _ hi
 have key:∀ (a:Nat) (t:Int) (va:Nat),o[a]? =some va→(∀d,a<d→d≤o.length→k' d≤t)→bF ((zZ w (T++[b x]) t).map e) va x:=by
  intro a
  induction a using Nat.strongRecOn with
  |_ a ih=>
   intro t va ha ht
   have Ve:=(aoj.1 ha).1
   have We:w (b x)≤t:=by rw[←z6];exact ht _ Ve (aov _)
   have fu:bF ((zZ w (T++[b x]) t).map e) vc x:=by
    have:=Q8 (e:=e) (w:=w) (T:=T++[b x]) (i:=b x) (by simp) We htc
    rwa[hox]at this
   rcases apK a c with h|h|h
   ·exact(tU Ja (apI t) (P.I9 a c t va vc ha hc h (fun d h1 h2=>by rw[←hk d (by omega)];exact ht d h1 (by omega)))).trans fu
   ·subst h
    rw[ha]at hc
    injection hc with hc
    rw[hc]
    exact fu
   ·have Q9:k a≤t:=aqq (hbk a h Ve) We
    obtain⟨a',rfl⟩:∃a',a=a'+1:=⟨a - 1,by omega⟩
    have ha':o[a']? =some (o[a']'(by omega)):=aoh (by omega)
    have h1:=P.I9 a' (a'+1) t _ va ha' ha (by omega) (fun d h1 h2=>by
     have:d=a'+1:=by omega
     rw[this];exact Q9)
    refine(tU Ja (apI t) h1).symm.trans (ih a' (by omega) t _ ha' fun d h2 h3=>?_)
    by_cases hd:d=a'+1
    ·rw[hd,hk _ Ve];exact Q9
    ·exact ht d (by omega) h3
 have TD:(o++[x]).length=o.length+1:=by simp
 refine⟨fun a d t va vd ha hd had ht=>?_,fun y hy=>?_,fun i hi a va ha tt=>?_,fun i hi h1 h2=>?_,fun y hy hm=>?_,?_⟩
 ·rcases qO ha with ⟨QQ,Wf⟩| ⟨QQ,_⟩
  ·rcases qO hd with ⟨Pn,iP⟩| ⟨Pn,rfl⟩
   ·exact tU Ja (apI t) (P.I9 a d t va vd Wf iP had fun j h1 h2=>by rw[←hk j (by omega)];exact ht j h1 h2)
   ·subst Pn
    exact key a t va Wf ht
  ·have:=(aoj.1 hd).1
   omega
 ·obtain⟨c2,v2,h1,h2,h3,h4,h5⟩:=P.wait y hy.1
  have hl:=(aoj.1 h1).1
  refine⟨c2,v2,by rw[aox hl];exact h1,h2,h3,h4,fun a QQ Wf=>?_⟩
  by_cases h:a<o.length
  ·rw[hk a h];exact h5 a QQ h
  ·have:a=o.length:=by omega
   rw[this,z6]
   exact Pm y hy.1
 ·rcases qO ha with ⟨QQ,Wf⟩| ⟨QQ,_⟩
  ·right
   rcases P.DP i hi a va Wf tt with ⟨_,h⟩|h| ⟨h1,h2,h3⟩
   ·cases h
   ·exact .inl (aoy _ h)
   ·by_cases mN:other (e i) va=x
    ·exact .inl (by rw[mN];simp)
    ·refine .inr ⟨⟨h1,mN⟩,h2,fun d Pn iP=>?_⟩
     by_cases h:d<o.length
     ·rw[hk d h];exact h3 d Pn h
     ·have:d=o.length:=by omega
      rw[this,z6]
      exact aqq (Pm _ h1) h2
  ·exact .inl ⟨by omega,hi⟩
 ·have one:∀va,Touch (e i) va→va∈o→other (e i) va=x→bF ((zZ w (T++[b x]) (w i)).map e) va x:=fun va tt hm ho=>by
   obtain⟨a,ha⟩:=List.mem_iff_getElem?.1 hm
   rcases P.DP i hi a va ha tt with ⟨_,h⟩|h| ⟨g1,g2,g3⟩
   ·cases h
   ·rw[ho]at h
    exact absurd h (P.out x hx)
   ·rw[ho]at g2
    refine key a (w i) va ha fun d Pn iP=>?_
    by_cases h:d<o.length
    ·rw[hk d h];exact g3 d Pn h
    ·have:d=o.length:=by omega
     rw[this,z6]
     exact g2
  rcases aou.1 h1 with h1|h1
  ·rcases aou.1 h2 with h2|h2
   ·exact tU Ja (apI _) (P.loc i hi h1 h2)
   ·rw[aoq]at h2
    rw[h2]
    exact one _ (.inl rfl) h1 (by unfold other;omega)
  ·rw[aoq]at h1
   rcases aou.1 h2 with h2|h2
   ·rw[h1]
    exact(one _ (.inr rfl) h2 (by unfold other;omega)).symm
   ·rw[aoq]at h2
    rw[h1,h2]
    exact bF.rfl
 ·rcases aou.1 hm with hm|hm
  ·exact P.out y hy.1 hm
  ·rw[aoq]at hm
   exact hy.2 hm
 ·refine ao2.2 ⟨P.nd,by simp,fun y hy z hz e=>?_⟩
  rw[aoq]at hz
  rw[e,hz]at hy
  exact P.out x hx hy
theorem kD.skip{E T:List α}{o:List Nat}{k:Nat→Int}{wt:Nat→Prop}{b:Nat→α}{i:α}{left:List α}(P:kD e w E T o k wt b (i::left)){v:Nat}(hv:o[o.length - 1]? =some v)(hs:∀u,Touch (e i) v→u=other (e i) v→u∈o∨(wt u∧w (b u)≤w i)):kD e w E T o k wt b left:=by
 refine⟨P.I9,P.wait,fun i' hi a va ha tt=>?_,P.loc,P.out,P.nd⟩
 rcases P.DP i' hi a va ha tt with ⟨h1,h2⟩|h|h
 ·rcases aot.1 h2 with h2|h2
  ·subst h2
   have ea:a=o.length - 1:=by omega
   rw[ea,hv]at ha
   injection ha with ha
   subst ha
   rcases hs _ tt rfl with h| ⟨g1,g2⟩
   ·exact .inr (.inl h)
   ·exact .inr (.inr ⟨g1,g2,fun c h3 h4=>by omega⟩)
  ·exact .inl ⟨h1,h2⟩
 ·exact .inr (.inl h)
 ·exact .inr (.inr h)
theorem kD.offer{E T:List α}{o:List Nat}{k:Nat→Int}{wt:Nat→Prop}{b:Nat→α}{i:α}{left:List α}(P:kD e w E T o k wt b (i::left)){v u:Nat}(hv:o[o.length - 1]? =some v)(hi:i∈E)(ht:Touch (e i) v)(hu:u=other (e i) v)(bO:u∉o)(aO:wt u→w i≤w (b u)):
  kD e w E T o k (fun y=>wt y∨y=u) (fun y=>if y=u then i else b y) left:=by
 have hl:=(aoj.1 hv).1
 refine⟨P.I9,fun y hy=>?_,fun i' hi' a va ha tt=>?_,P.loc,fun y hy=>?_,P.nd⟩
 ·by_cases Vf:y=u
  ·simp only[if_pos Vf]
   exact⟨o.length - 1,v,hv,hi,ht,by rw[Vf,hu],fun a h1 h2=>by omega⟩
  ·simp only[if_neg Vf]
   exact P.wait y (hy.resolve_right Vf)
 ·rcases P.DP i' hi' a va ha tt with ⟨h1,h2⟩|h| ⟨h1,h2,h3⟩
  ·rcases aot.1 h2 with h2|h2
   ·subst h2
    have ea:a=o.length - 1:=by omega
    rw[ea,hv]at ha
    injection ha with ha
    subst ha
    refine .inr (.inr ⟨.inr hu.symm,?_,fun c h3 h4=>by omega⟩)
    rw[if_pos hu.symm]
    exact apI _
   ·exact .inl ⟨h1,h2⟩
  ·exact .inr (.inl h)
  ·refine .inr (.inr ⟨.inl h1,?_,h3⟩)
   by_cases Vf:other (e i') va=u
   ·rw[if_pos Vf]
    rw[Vf]at h1 h2
    exact aqq (aO h1) h2
   ·rw[if_neg Vf]
    exact h2
 ·rcases hy with hy|hy
  ·exact P.out y hy
  ·rw[hy];exact bO
theorem Po{T:List α}{done:Nat→Prop}(ha:gF (T.map e))(hT:∀i∈T,done (e i).1∧done (e i).2){i:α}{v:Nat}(ht:Touch (e i) v)(hv:done v)(hu:¬done (other (e i) v)):gF ((T++[i]).map e):=by
 rw[aoN,apG,vu]
 refine⟨ha,fun h=>?_⟩
 have hq:=E1 (Q:=fun a b=>a=b∨(done a∧done b)) (fun _=>.inl rfl) (fun a b h=>h.imp Eq.symm And.symm) (fun a b c h1 h2=>by
  rcases h1 with rfl|h1
  ·exact h2
  ·rcases h2 with rfl|h2
   ·exact .inr h1
   ·exact .inr ⟨h1.1,h2.2⟩) (fun p hp=>by
  obtain⟨j,hj,rfl⟩:=aoC.1 hp
  exact .inr (hT j hj)) h
 rcases ht with ht|ht
 ·have ho:other (e i) v=(e i).2:=by unfold other;omega
  rw[ho]at hu
  rcases hq with hq|hq
  ·rw[←hq,ht]at hu;exact hu hv
  ·exact hu hq.2
 ·have ho:other (e i) v=(e i).1:=by unfold other;omega
  rw[ho]at hu
  rcases hq with hq|hq
  ·rw[hq,ht]at hu;exact hu hv
  ·exact hu hq.1
structure xP(e:α→E2)(w:α→Int)(E T:List α)(D:Nat→Prop):Prop where
 shut:∀i∈E,∀v,Touch (e i) v→D v→D (other (e i) v)
 loc:∀i∈E,D (e i).1→D (e i).2→bF ((zZ w T (w i)).map e) (e i).1 (e i).2
 vU:gF (T.map e)
 ins:∀i∈T,i∈E∧D (e i).1∧D (e i).2
theorem xP.begin(E:List α):xP e w E [] (fun _=>False):=⟨fun _ _ _ _ h=>h,fun _ _ h=>h.elim,.nil,by simp⟩
theorem xP.over{E T T':List α}{D:Nat→Prop}{o:List Nat}{k:Nat→Int}{wt:Nat→Prop}{b:Nat→α}(h:xP e w E T D)(hs:∀i∈T,i∈T')(P:kD e w E T' o k wt b [])(h0:∀x,¬wt x)(ha:gF (T'.map e))(bJ:∀i∈T',i∈E∧(D (e i).1∨(e i).1∈o)∧(D (e i).2∨(e i).2∈o)):
  xP e w E T' (fun v=>D v∨v∈o):=by
 have Vg:∀i∈E,∀v,Touch (e i) v→v∈o→other (e i) v∈o:=fun i hi v ht hv=>by
  obtain⟨a,ha⟩:=List.mem_iff_getElem?.1 hv
  rcases P.DP i hi a v ha ht with ⟨_,h⟩|h| ⟨h,_⟩
  ·cases h
  ·exact h
  ·exact absurd h (h0 _)
 refine⟨fun i hi v ht hv=>hv.imp (h.shut i hi v ht) (Vg i hi v ht),fun i hi h1 h2=>?_,ha,bJ⟩
 have e1:other (e i) (e i).1=(e i).2:=by unfold other;omega
 rcases h1 with h1|h1
 ·have:=h.shut i hi _ (.inl rfl) h1
  rw[e1]at this
  exact tU hs (apI _) (h.loc i hi h1 this)
 ·have:=Vg i hi _ (.inl rfl) h1
  rw[e1]at this
  exact P.loc i hi h1 this
theorem xP.Wg{E T:List α}{D:Nat→Prop}(h:xP e w E T D)(hD:∀i∈E,D (e i).1∧D (e i).2):gF (T.map e)∧(∀i∈T,i∈E)∧Loc e w E T∧∀i∈E,bF (T.map e) (e i).1 (e i).2:=by
 have hl:Loc e w E T:=fun i hi=>h.loc i hi (hD i hi).1 (hD i hi).2
 refine⟨h.vU,fun i hi=>(h.ins i hi).1,hl,fun i hi=>et (fun p hp=>?_) (hl i hi)⟩
 obtain⟨j,hj,rfl⟩:=aoC.1 hp
 exact aoC.2 ⟨j,(ao9.1 hj).1,rfl⟩
end
end Go.Proofs.YtjlnnljohemifaaGreat

namespace Go.Proofs.YtjlnnljohemifaaGreat
theorem Wh{n:Nat}:∀ks:List E2,(∀e∈ks,e.1<n∧e.2<n)→n≤cls n ks+ks.length:=by
 refine kj (fun _=>?_) fun ks e ih hb=>?_
 ·unfold cls;rw[Iu,apL.2 (fun v _=>by simp)];simp
 ·have h1:=ih fun x hx=>hb x (aoy _ hx)
  obtain⟨h2,h3⟩:=hb e (by simp)
  rw[aor,aoA]
  by_cases hh:bF ks e.1 e.2
  ·have:cls n (ks++[e])=cls n ks:=by
    unfold cls
    rw[pJ fun u v=>(vt ks e u v).trans ⟨fun h=>?_,fun h=>.inl h⟩]
    rcases h with h| ⟨h1,h2⟩| ⟨h1,h2⟩
    ·exact h
    ·exact h1.trans (hh.trans h2.symm)
    ·exact h1.trans (hh.symm.trans h2.symm)
   omega
  ·have:=E3 h2 h3 hh
   omega
theorem KE{n:Nat}:∀ks:List E2,(∀e∈ks,e.1<n∧e.2<n)→(gF ks↔cls n ks+ks.length=n):=by
 intro ks hb
 refine⟨fun h=>Ab h hb,?_⟩
 revert hb
 refine kj (P:=fun ks=>(∀e∈ks,e.1<n∧e.2<n)→cls n ks+ks.length=n→gF ks) (fun _ _=>.nil) (fun ks e ih hb hc=>?_) ks
 have jY:=fun x hx=>hb x (aoy _ hx)
 obtain⟨h2,h3⟩:=hb e (by simp)
 have OC:=Wh ks jY
 rw[aor,aoA]at hc
 by_cases hh:bF ks e.1 e.2
 ·exfalso
  have:cls n (ks++[e])=cls n ks:=by
   unfold cls
   rw[pJ fun u v=>(vt ks e u v).trans ⟨fun h=>?_,fun h=>.inl h⟩]
   rcases h with h| ⟨h1,h2⟩| ⟨h1,h2⟩
   ·exact h
   ·exact h1.trans (hh.trans h2.symm)
   ·exact h1.trans (hh.symm.trans h2.symm)
  omega
 ·have:=E3 h2 h3 hh
  exact .snoc _ _ (ih jY (by omega)) hh
theorem Pp{n:Nat}{ks ks':List E2}(hp:ks.Perm ks')(hb:∀e∈ks,e.1<n∧e.2<n)(h:gF ks):gF ks':=by
 rw[KE (n:=n) ks' (fun e he=>hb e (hp.mem_iff.2 he))]
 have h1:=(KE ks hb).1 h
 have h2:cls n ks'=cls n ks:=by unfold cls;rw[pJ fun u v=>(B7 hp u v).symm]
 rw[h2,←hp.length_eq]
 exact h1
section
variable {α : Type} {e : α → E2} {w : α → Int}
theorem MO:∀ {T:List α},gF (T.map e)→T.Nodup:=by
 intro T
 refine kj (P:=fun T=>gF (T.map e)→T.Nodup) (fun _=>by simp) (fun T i ih h=>?_) T
 rw[aoN,apG,vu]at h
 rw[ao2]
 refine⟨ih h.1,by simp,fun x hx y hy MB=>?_⟩
 rw[aoq]at hy
 subst hy;subst MB
 exact h.2 (kC (aoC.2 ⟨x,hx,rfl⟩))
end
end Go.Proofs.YtjlnnljohemifaaGreat

namespace Go.Proofs.YtjlnnljohemifaaGreat
def bi{α:Type}(q:α→Bool):Nat→List α→List Int
 |_,[]=>[]
 |k,e::r=>(if q e then[(k:Int)]else[])++bi q (k+1) r
section
variable {α : Type}
theorem Pq(q:α→Bool)(e:α):∀ (l:List α) (k:Nat),bi q k (l++[e])=bi q k l++(if q e then[((k+l.length:Nat):Int)]else[]):=by
 intro l
 induction l with
 |nil=>intro k;simp[bi]
 |cons x l ih=>
  intro k
  rw[apt,bi,ih,bi,apU,aoD,show k+1+l.length=k+(l.length+1) by omega]
theorem B8(q:α→Bool){l:List α}{j:Nat}{e:α}(h:l[j]? =some e):bi q 0 (l.take (j+1))=bi q 0 (l.take j)++(if q e then[(j:Int)]else[]):=by
 have hj:=(aoj.1 h).1
 rw[aoT,h]
 show bi q 0 (l.take j++[e])=_
 rw[Pq,aoX,apE (by omega),aoi]
theorem E6(q:α→Bool):∀ (l:List α) (k:Nat) (x:Int),x∈bi q k l↔∃ (i:Nat) (e:α),l[i]? =some e∧q e=true∧x=((k+i:Nat):Int):=by
 intro l
 induction l with
 |nil=>intro k x;simp[bi]
 |cons e l ih=>
  intro k x
  rw[bi,aou,ih]
  constructor
  ·rintro(h| ⟨i,e',h1,h2,h3⟩)
   ·split at h
    ·exact⟨0,e,rfl,by assumption,by rw[aoq.1 h];simp⟩
    ·cases h
   ·exact⟨i+1,e',by simpa using h1,h2,by rw[h3];congr 1;omega⟩
  ·rintro⟨i,e',h1,h2,h3⟩
   cases i with
   |zero=>
    left
    simp only[aoM,aos]at h1
    subst h1
    rw[if_pos h2,h3];simp
   |succ i=>right;exact⟨i,e',by simpa using h1,h2,by rw[h3];congr 1;omega⟩
theorem KF(q:α→Bool):∀ (l:List α) (k:Nat),(bi q k l).Pairwise (· < ·):=by
 intro l
 induction l with
 |nil=>intro k;exact List.Pairwise.nil
 |cons e l ih=>
  intro k
  rw[bi,apo]
  refine⟨by split<;>simp,ih (k+1),fun a ha b hb=>?_⟩
  split at ha
  ·rw[aoq]at ha
   obtain⟨i,_,_,_,h⟩:=(E6 q l (k+1) b).1 hb
   omega
  ·cases ha
theorem pK(q:α→Bool):∀ (l:List α) (k:Nat),(bi q k l).length≤l.length:=by
 intro l
 induction l with
 |nil=>intro k;simp[bi]
 |cons e l ih=>
  intro k
  rw[bi,aor,aoD]
  have:=ih (k+1)
  split<;>simp<;>omega
theorem TE(p q:α→Bool)(l:List α)(k:Nat)(hd:∀e∈l,¬ (p e=true∧q e=true)):(bi p k l++bi q k l).mergeSort (fun x y=>decide (x≤y))=bi (fun e=>p e || q e) k l:=by
 have sE:∀ (l:List α) (k:Nat),(∀e∈l,¬ (p e=true∧q e=true))→(bi p k l++bi q k l).Perm (bi (fun e=>p e || q e) k l):=by
  intro l
  induction l with
  |nil=>intro k _;exact .refl _
  |cons e l ih=>
   intro k hd
   have hi:=ih (k+1) fun x hx=>hd x (aoQ _ hx)
   have h0:=hd e (ao5 ..)
   rw[bi,bi,bi]
   cases hp:p e<;>cases hq:q e
   ·simpa using hi
   ·simp only[api,if_false,apk,if_true,Bool.or_true,List.singleton_append]
    exact apY.trans (hi.cons _)
   ·simp only[api,if_false,apk,if_true,Bool.or_false,List.singleton_append,apt]
    exact hi.cons _
   ·exact absurd ⟨hp,hq⟩ h0
 refine List.Perm.eq_of_pairwise (le:=fun x y:Int=>x≤y) (fun a b _ _ h1 h2=>by omega) ?_ ?_ ((List.mergeSort_perm _ _).trans (sE l k hd))
 ·have:=List.pairwise_mergeSort (le:=fun x y:Int=>decide (x≤y)) (fun a b c h1 h2=>by simp only[aoL]at*;omega) (fun a b=>by simp;omega) (bi p k l++bi q k l)
  exact this.imp fun h=>by simpa using h
 ·exact(KF _ l k).imp fun h=>by omega
end
end Go.Proofs.YtjlnnljohemifaaGreat
