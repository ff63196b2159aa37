/- Texts put behind each other. -/
import Derived.Test.YtjlnnljohemifaaGreatK98
set_option maxRecDepth 100000
set_option maxHeartbeats 8000000
set_option linter.unusedVariables false
set_option linter.unusedSimpArgs false
namespace Go.Proofs.YtjlnnljohemifaaGreat
end Go.Proofs.YtjlnnljohemifaaGreat

namespace Go.Proofs.YtjlnnljohemifaaGreat
theorem Jb{a b:List Int}(h:a.Perm b):a.sum=b.sum:=by
 induction h with
 |nil=>rfl
 |cons x _ ih=>rw[ao5,ao5,ih]
 |swap x y l=>simp only[ao5];omega
 |trans _ _ h1 h2=>rw[h1,h2]
inductive HA:List Int→Int→Prop
 |one (w:Int):HA [w] 0
 |step {P R:List Int} {a b c:Int} (hp:P.Perm (a::b::R)) (AC:a≤b) (hR:∀r∈R,b≤r) (h:HA ((a+b)::R) c):HA P (c+(a+b))
theorem HA.perm{P Q:List Int}{c:Int}(h:HA P c)(hp:Q.Perm P):HA Q c:=by
 cases h with
 |one w=>rw[List.perm_singleton.1 hp];exact .one w
 |step h1 h2 h3 h4=>exact .step (hp.trans h1) h2 h3 h4
end Go.Proofs.YtjlnnljohemifaaGreat

namespace Go.Proofs.YtjlnnljohemifaaGreat
def wP(n:Nat)(f:Nat→Int):Int:=((List.range n).map f).sum
def AI(n:Nat)(f:Nat→Nat):Nat:=((List.range n).map f).sum
theorem nX(n:Nat)(f:Nat→Int):wP (n+1) f=wP n f+f n:=by
 unfold wP
 rw[apl,anH,List.sum_append,aoC,ao5,List.sum_nil]
 omega
theorem jx(n:Nat)(f:Nat→Nat):AI (n+1) f=AI n f+f n:=by
 unfold AI
 rw[apl,anH,List.sum_append,aoC,ao5,List.sum_nil]
 omega
theorem wQ{n:Nat}{f g:Nat→Int}(h:∀i,i<n→f i=g i):wP n f=wP n g:=by
 induction n with
 |zero=>rfl
 |succ n ih=>rw[nX,nX,ih (fun i hi=>h i (by omega)),h n (by omega)]
theorem DD{n:Nat}{f g:Nat→Nat}(h:∀i,i<n→f i=g i):AI n f=AI n g:=by
 induction n with
 |zero=>rfl
 |succ n ih=>rw[jx,jx,ih (fun i hi=>h i (by omega)),h n (by omega)]
theorem DE(n:Nat)(f g:Nat→Int):wP n (fun i=>f i+g i)=wP n f+wP n g:=by
 induction n with
 |zero=>rfl
 |succ n ih=>rw[nX,nX,nX,ih];omega
theorem PI(n:Nat)(f g:Nat→Nat):AI n (fun i=>f i+g i)=AI n f+AI n g:=by
 induction n with
 |zero=>rfl
 |succ n ih=>rw[jx,jx,jx,ih];omega
theorem PJ(n:Nat)(f:Nat→Nat):AI n (fun i=>2*f i)=2*AI n f:=by
 induction n with
 |zero=>rfl
 |succ n ih=>rw[jx,jx,ih];omega
structure K6 where
 eI:List (Int×Nat)
 at_:Nat
 R:Nat→Nat
 d:Nat→Nat
 up:Nat→Nat
def M3(p:Int×Nat):List (Int×Nat)→Int×Nat
 | []=>p
 |q::r=>if q.1<p.1 then M3 q r else M3 p r
def UR:List (Int×Nat)→Int×Nat
 | []=>(0,0)
 |p::r=>M3 p r
def wo(l:List (Int×Nat))(p:Int×Nat):List (Int×Nat):=l.filter fun q=>decide (q.2≠p.2)
def K6.a(s:K6):Int×Nat:=UR s.eI
def K6.b(s:K6):Int×Nat:=UR (wo s.eI s.a)
def K6.step(s:K6):K6:=⟨wo (wo s.eI s.a) s.b++[(s.a.1+s.b.1,s.at_)],s.at_+1,
 fun i=>if i=s.at_ then i else if s.R i=s.a.2∨s.R i=s.b.2 then s.at_ else s.R i,
 fun i=>if i=s.at_ then 0 else if s.R i=s.a.2∨s.R i=s.b.2 then s.d i+1 else s.d i,
 fun i=>if i=s.a.2∨i=s.b.2 then s.at_ else s.up i⟩
def Y0(ws:List Int):K6:=⟨(List.range ws.length).map (fun i=>(ws.getD i 0,i)),ws.length,id,fun _=>0,fun _=>0⟩
def Cz:Nat→K6→K6
 |0,s=>s
 |k+1,s=>(Cz k s).step
theorem HB(p:Int×Nat):∀ (r:List (Int×Nat)),M3 p r∈p::r:=by
 intro r
 induction r generalizing p with
 |nil=>simp[M3]
 |cons q r ih=>
  unfold M3
  split
  ·exact anK _ (ih q)
  ·have:=ih p
   simp only[anm]at this ⊢
   rcases this with h|h
   ·exact .inl h
   ·exact .inr (.inr h)
def DF(l:List (Int×Nat)):Prop:=l.Pairwise fun p q=>p.2<q.2
theorem US(p:Int×Nat):∀ (r:List (Int×Nat)),DF (p::r)→∀q∈p::r,q.2≠(M3 p r).2→(M3 p r).1<q.1∨((M3 p r).1=q.1∧(M3 p r).2<q.2):=by
 intro r
 induction r generalizing p with
 |nil=>
  intro _ q hq aM
  rcases anm.1 hq with rfl|hq
  ·exact absurd rfl aM
  ·cases hq
 |cons c r ih=>
  intro hr q hq aM
  have uC:=aon.1 hr
  have Sd:=aon.1 uC.2
  unfold M3 at aM ⊢
  split at aM
  ·rename_i aK
   rw[if_pos aK]
   rcases anm.1 hq with rfl|hq
   ·by_cases e:c.2=(M3 c r).2
    ·have hm:=HB c r
     rcases anm.1 hm with h|h
     ·rw[h];exact .inl aK
     ·have:=Sd.1 _ h;omega
    ·rcases ih c uC.2 c (by simp) e with h|h<;>exact .inl (by omega)
   ·exact ih c uC.2 q hq aM
  ·rename_i aK
   rw[if_neg aK]
   have Y1:DF (p::r):=aon.2 ⟨fun z hz=>uC.1 z (by simp[hz]),Sd.2⟩
   rcases anm.1 hq with rfl|hq
   ·exact ih q Y1 q (by simp) aM
   ·rcases anm.1 hq with rfl|hq
    ·have M4:=uC.1 q (by simp)
     by_cases e:p.2=(M3 p r).2
     ·have hm:=HB p r
      rcases anm.1 hm with h|h
      ·rw[h];omega
      ·have:=uC.1 _ (anK _ h);omega
     ·rcases ih p Y1 p (by simp) e with h|h
      ·exact .inl (by omega)
      ·by_cases e2:(M3 p r).1=q.1
       ·exact .inr ⟨e2,by omega⟩
       ·exact .inl (by omega)
    ·exact ih p Y1 q (by simp[hq]) aM
structure XM(p:Int×Nat)(l:List (Int×Nat)):Prop where
 m:p∈l
 l:∀q∈l,q.2≠p.2→p.1<q.1∨(p.1=q.1∧p.2<q.2)
theorem M5{l:List (Int×Nat)}(h:DF l)(h0:l≠[]):XM (UR l) l:=by
 cases l with
 |nil=>exact absurd rfl h0
 |cons p r=>exact⟨HB p r,US p r h⟩
theorem lR{l:List (Int×Nat)}{p q:Int×Nat}:q∈wo l p↔q∈l∧q.2≠p.2:=by unfold wo;rw[an6];simp
theorem DF.wo{l:List (Int×Nat)}(h:DF l)(p:Int×Nat):DF (wo l p):=List.Pairwise.sublist List.filter_sublist h
theorem HC{l:List (Int×Nat)}(h:DF l){p:Int×Nat}(hp:p∈l):l.Perm (p::wo l p):=by
 induction l with
 |nil=>cases hp
 |cons c r ih=>
  have h2:=aon.1 h
  unfold wo
  rw[aot]
  rcases anm.1 hp with rfl|hp
  ·rw[if_neg (by simp)]
   have:r.filter (fun q=>decide (q.2≠p.2))=r:=by
    rw[aoH]
    intro q hq
    have:=h2.1 q hq
    simp
    omega
   rw[this]
  ·have hc:=h2.1 p hp
   rw[if_pos (by simp;omega)]
   exact((ih h2.2 hp).cons c).trans (List.Perm.swap _ _ _)
structure Se(ws:List Int)(k:Nat)(s:K6):Prop where
 ids:DF s.eI
 lt:∀p∈s.eI,p.2<s.at_
 at_:s.at_=ws.length+k
 len:s.eI.length+k=ws.length
 rt:∀i,i<s.at_→(∃p∈s.eI,p.2=s.R i)∧i≤s.R i
 NQ:∀p∈s.eI,s.R p.2=p.2∧s.d p.2=0
 upI:∀i,i<s.at_→s.R i≠i→i<s.up i∧s.up i<s.at_∧s.R i=s.R (s.up i)∧s.d i=s.d (s.up i)+1
 wt:∀p∈s.eI,wP ws.length (fun i=>if s.R i=p.2 then ws.getD i 0 else 0)=p.1
 dl:∀i,i<s.at_→s.d i≤k
 kr:∀p∈s.eI,AI ws.length (fun i=>if s.R i=p.2 then 2^ (ws.length - s.d i)else 0)=2^ws.length
 huf:∀c,HA (s.eI.map (·.1)) c→HA ws (c+wP ws.length (fun i=>ws.getD i 0*(s.d i:Int)))
theorem K6.Y2{ws:List Int}{k:Nat}{s:K6}(h:Se ws k s)(hk:k+1<ws.length):XM s.a s.eI∧XM s.b (wo s.eI s.a)∧s.a.2≠s.b.2∧s.b∈s.eI∧s.eI.Perm (s.a::s.b::wo (wo s.eI s.a) s.b):=by
 have hl:=h.len
 have h1:XM s.a s.eI:=M5 h.ids (fun e=>by rw[e]at hl;simp at hl;omega)
 have p1:=HC h.ids h1.m
 have h2:XM s.b (wo s.eI s.a):=M5 (h.ids.wo _) (fun e=>by
  have:=p1.length_eq
  rw[e]at this
  simp at this
  omega)
 obtain⟨m1,m2⟩:=lR.1 h2.m
 exact⟨h1,h2,fun e=>m2 e.symm,m1,p1.trans ((HC (h.ids.wo _) h2.m).cons _)⟩
theorem Se.step{ws:List Int}{k:Nat}{s:K6}(h:Se ws k s)(hk:k+1<ws.length):Se ws (k+1) s.step:=by
 obtain⟨ha,hb,AC,DG,hp⟩:=K6.Y2 h hk
 have tU:=h.at_
 have la:=h.lt _ ha.m
 have lb:=h.lt _ DG
 have bF:∀q,q∈s.step.eI→(q∈s.eI∧q.2≠s.a.2∧q.2≠s.b.2)∨q=(s.a.1+s.b.1,s.at_):=fun q hq=>by
  rcases ann.1 hq with hq|hq
  ·obtain⟨h1,h2⟩:=lR.1 hq
   obtain⟨h3,h4⟩:=lR.1 h1
   exact .inl ⟨h3,h4,h2⟩
  ·exact .inr (by simpa using hq)
 have hR:∀i,i<s.at_→s.step.R i=if s.R i=s.a.2∨s.R i=s.b.2 then s.at_ else s.R i:=fun i hi=>by show(if i=s.at_ then i else _)=_;rw[if_neg (by omega)]
 have hd:∀i,i<s.at_→s.step.d i=if s.R i=s.a.2∨s.R i=s.b.2 then s.d i+1 else s.d i:=fun i hi=>by show(if i=s.at_ then 0 else _)=_;rw[if_neg (by omega)]
 have hRa:s.step.R s.at_=s.at_:=by show(if s.at_=s.at_ then s.at_ else _)=_;rw[if_pos rfl]
 have hda:s.step.d s.at_=0:=by show(if s.at_=s.at_ then 0 else _)=_;rw[if_pos rfl]
 have Y3:∀i,i<s.at_→s.R i<s.at_:=fun i hi=>by obtain⟨⟨p,p1,p2⟩,_⟩:=h.rt i hi;rw[←p2];exact h.lt p p1
 have sa:=h.NQ _ ha.m
 have sb:=h.NQ _ DG
 refine⟨?_,fun p o8=>?_,by show s.at_+1=_;omega,?_,fun i hi=>?_,fun p o8=>?_,fun i hi aM=>?_,fun p o8=>?_,fun i hi=>?_,fun p o8=>?_,fun c hc=>?_⟩
 ·show DF (_++_)
  unfold DF
  rw[aol]
  refine⟨(h.ids.wo _).wo _,by simp,fun q hq z hz=>?_⟩
  obtain⟨h1,_⟩:=lR.1 hq
  obtain⟨h3,_⟩:=lR.1 h1
  rw[anj.1 hz]
  exact h.lt q h3
 ·show p.2<s.at_+1
  rcases bF p o8 with h1|h1
  ·have:=h.lt p h1.1;omega
  ·rw[h1];simp
 ·have h1:=hp.length_eq
  have h2:=h.len
  show(wo (wo s.eI s.a) s.b++[_]).length+(k+1)=_
  simp at h1 ⊢
  omega
 ·have ly:i<s.at_+1:=hi
  by_cases e:i=s.at_
  ·rw[e,hRa]
   exact⟨⟨(s.a.1+s.b.1,s.at_),aob _ (by simp),rfl⟩,ano _⟩
  ·have pe:i<s.at_:=by omega
   obtain⟨⟨p,p1,p2⟩,h4⟩:=h.rt i pe
   rw[hR i pe]
   split
   ·exact⟨⟨(s.a.1+s.b.1,s.at_),aob _ (by simp),rfl⟩,by omega⟩
   ·rename_i hn
    refine⟨⟨p,anr _ (lR.2 ⟨lR.2 ⟨p1,fun e=>hn (.inl (by omega))⟩,fun e=>hn (.inr (by omega))⟩),p2⟩,h4⟩
 ·rcases bF p o8 with ⟨h1,h2,h3⟩|h1
  ·have h4:=h.lt p h1
   obtain⟨h5,h6⟩:=h.NQ p h1
   rw[hR _ h4,hd _ h4,h5,if_neg (by omega),if_neg (by omega)]
   exact⟨rfl,h6⟩
  ·rw[h1];exact⟨hRa,hda⟩
 ·have ly:i<s.at_+1:=hi
  have e:i≠s.at_:=fun e=>aM (by rw[e,hRa])
  have pe:i<s.at_:=by omega
  have DH:s.step.up i=if i=s.a.2∨i=s.b.2 then s.at_ else s.up i:=rfl
  rw[DH]
  by_cases Jc:i=s.a.2∨i=s.b.2
  ·rw[if_pos Jc]
   have hRi:s.R i=i∧s.d i=0:=by
    rcases Jc with e|e
    ·rw[e];exact sa
    ·rw[e];exact sb
   rw[hRa,hda,hR i pe,hd i pe,hRi.1,if_pos Jc,if_pos Jc,hRi.2]
   exact⟨pe,by show s.at_<s.at_+1;omega,rfl,rfl⟩
  ·rw[if_neg Jc]
   have hRi:s.R i≠i:=fun e2=>aM (by
    rw[hR i pe,e2,if_neg Jc])
   obtain⟨u1,u2,u3,u4⟩:=h.upI i pe hRi
   rw[hR i pe,hd i pe,hR _ u2,hd _ u2,←u3]
   refine⟨u1,by show s.up i<s.at_+1;omega,rfl,?_⟩
   split<;>omega
 ·rcases bF p o8 with ⟨h1,h2,h3⟩|h1
  ·rw[←h.wt p h1]
   refine wQ fun i hi=>?_
   have pe:i<s.at_:=by omega
   have:=h.lt p h1
   rw[hR i pe]
   by_cases e:s.R i=s.a.2∨s.R i=s.b.2
   ·rw[if_pos e,if_neg (by omega),if_neg (by omega)]
   ·rw[if_neg e]
  ·rw[h1]
   show wP ws.length (fun i=>if s.step.R i=s.at_ then ws.getD i 0 else 0)=s.a.1+s.b.1
   rw[←h.wt _ ha.m,←h.wt _ DG,←DE]
   refine wQ fun i hi=>?_
   have pe:i<s.at_:=by omega
   have:=Y3 i pe
   rw[hR i pe]
   by_cases e1:s.R i=s.a.2
   ·rw[if_pos (Or.inl e1),if_pos rfl,if_pos e1,if_neg (by omega)];omega
   ·by_cases e2:s.R i=s.b.2
    ·rw[if_pos (Or.inr e2),if_pos rfl,if_neg e1,if_pos e2];omega
    ·have e3:¬ (s.R i=s.a.2∨s.R i=s.b.2):=by omega
     rw[if_neg e3,if_neg (show¬s.R i=s.at_ by omega),if_neg e1,if_neg e2];rfl
 ·have ly:i<s.at_+1:=hi
  by_cases e:i=s.at_
  ·rw[e,hda];omega
  ·have:=h.dl i (by omega)
   rw[hd i (by omega)]
   split<;>omega
 ·rcases bF p o8 with ⟨h1,h2,h3⟩|h1
  ·rw[←h.kr p h1]
   refine DD fun i hi=>?_
   have pe:i<s.at_:=by omega
   have:=h.lt p h1
   rw[hR i pe,hd i pe]
   by_cases e:s.R i=s.a.2∨s.R i=s.b.2
   ·rw[if_pos e,if_neg (by omega),if_neg (by omega)]
   ·rw[if_neg e,if_neg e]
  ·rw[h1]
   have h5:2*AI ws.length (fun i=>if s.step.R i=s.at_ then 2^ (ws.length - s.step.d i)else 0)=2^ws.length+2^ws.length:=by
    rw[←PJ,←h.kr _ ha.m]
    conv=>rhs;rw[h.kr _ ha.m];arg 2;rw[←h.kr _ DG]
    rw[←h.kr _ ha.m,←PI]
    refine DD fun i hi=>?_
    have pe:i<s.at_:=by omega
    have:=Y3 i pe
    have hdl:=h.dl i pe
    rw[hR i pe,hd i pe]
    have e2:2*2^ (ws.length - (s.d i+1))=2^ (ws.length - s.d i):=by
     rw[show ws.length - s.d i=(ws.length - (s.d i+1))+1 by omega,Nat.pow_succ]
     omega
    by_cases e1:s.R i=s.a.2
    ·rw[if_pos (Or.inl e1),if_pos rfl,if_pos (Or.inl e1),if_pos e1,if_neg (by omega),e2,Nat.add_zero]
    ·by_cases e3:s.R i=s.b.2
     ·rw[if_pos (Or.inr e3),if_pos rfl,if_pos (Or.inr e3),if_neg e1,if_pos e3,e2];omega
     ·have e4:¬ (s.R i=s.a.2∨s.R i=s.b.2):=by omega
      rw[if_neg e4,if_neg (show¬s.R i=s.at_ by omega),if_neg e1,if_neg e3]
   show AI ws.length (fun i=>if s.step.R i=s.at_ then 2^ (ws.length - s.step.d i)else 0)=_
   omega
 ·have qJ:HA ((s.a.1+s.b.1)::(wo (wo s.eI s.a) s.b).map (·.1)) c:=by
   refine hc.perm ?_
   show List.Perm _ ((wo (wo s.eI s.a) s.b++[(s.a.1+s.b.1,s.at_)]).map (·.1))
   rw[anH]
   exact aoc (l₁:=[s.a.1+s.b.1])
  have h5:=h.huf (c+(s.a.1+s.b.1)) (.step (hp.map (·.1)) (by
   rcases ha.l _ DG (Ne.symm AC)with h|h<;>omega) (fun r hr=>by
   obtain⟨q,hq,rfl⟩:=anv.1 hr
   obtain⟨h1,h2⟩:=lR.1 hq
   rcases hb.l q h1 h2 with h|h<;>omega) qJ)
  have h6:wP ws.length (fun i=>ws.getD i 0*(s.step.d i:Int))=wP ws.length (fun i=>ws.getD i 0*(s.d i:Int))+(s.a.1+s.b.1):=by
   rw[←h.wt _ ha.m]
   conv=>rhs;arg 2;arg 2;rw[←h.wt _ DG]
   rw[←DE,←DE]
   refine wQ fun i hi=>?_
   have pe:i<s.at_:=by omega
   rw[hd i pe]
   by_cases e1:s.R i=s.a.2
   ·rw[if_pos (Or.inl e1),if_pos e1,if_neg (by omega),show((s.d i+1:Nat):Int)=(s.d i:Int)+1 by omega,Int.mul_add,Int.mul_one];omega
   ·by_cases e2:s.R i=s.b.2
    ·rw[if_pos (Or.inr e2),if_neg e1,if_pos e2,show((s.d i+1:Nat):Int)=(s.d i:Int)+1 by omega,Int.mul_add,Int.mul_one];omega
    ·have e3:¬ (s.R i=s.a.2∨s.R i=s.b.2):=by omega
     rw[if_neg e3,if_neg e1,if_neg e2];omega
  rw[h6]
  rw[show c+(wP ws.length (fun i=>ws.getD i 0*(s.d i:Int))+(s.a.1+s.b.1))=c+(s.a.1+s.b.1)+wP ws.length (fun i=>ws.getD i 0*(s.d i:Int)) by omega]
  exact h5
end Go.Proofs.YtjlnnljohemifaaGreat

namespace Go.Proofs.YtjlnnljohemifaaGreat
def NR(ws:List Int):K6:=Cz (ws.length - 1) (Y0 ws)
end Go.Proofs.YtjlnnljohemifaaGreat

namespace Go.Proofs.YtjlnnljohemifaaGreat
abbrev E2:=Nat×Nat
def Cc(p:Nat→Nat)(e:E2):Nat→Nat:=fun v=>if p v=max (p e.1) (p e.2)then min (p e.1) (p e.2)else p v
def aB(ks:List E2):Nat→Nat:=ks.foldl Cc id
theorem GW:aB []=id:=rfl
theorem lS(ks:List E2)(e:E2):aB (ks++[e])=Cc (aB ks) e:=by unfold aB;rw[List.foldl_append];rfl
theorem jJ{α:Type}{P:List α→Prop}(h0:P [])(h1:∀l x,P l→P (l++[x])):∀l,P l:=by
 intro l
 have:∀r:List α,P r.reverse:=by
  intro r
  induction r with
  |nil=>exact h0
  |cons x r ih=>rw[List.reverse_cons];exact h1 _ _ ih
 have:=this l.reverse
 rwa[List.reverse_reverse]at this
theorem GX:∀ks:List E2,(∀v,aB ks v≤v)∧∀v,aB ks (aB ks v)=aB ks v:=by
 refine jJ ⟨fun v=>ano _,fun v=>rfl⟩ fun ks e ⟨h1,h2⟩=>?_
 rw[lS]
 constructor
 ·intro v
  unfold Cc
  have:=h1 v
  split<;>omega
 ·intro v
  have a:=h2 v
  have b:=h2 e.1
  have c:=h2 e.2
  unfold Cc
  by_cases hv:aB ks v=max (aB ks e.1) (aB ks e.2)
  ·rw[if_pos hv]
   by_cases hm:aB ks e.1≤aB ks e.2
   ·rw[aoA hm,Nat.max_eq_right hm,b]
    split<;>rfl
   ·rw[Nat.min_eq_right (by omega),Nat.max_eq_left (by omega),c]
    split<;>rfl
  ·rw[if_neg hv,a,if_neg hv]
theorem iB(ks:List E2)(v:Nat):aB ks v≤v:=(GX ks).1 v
theorem jy(ks:List E2)(v:Nat):aB ks (aB ks v)=aB ks v:=(GX ks).2 v
def bA(ks:List E2)(u v:Nat):Prop:=aB ks u=aB ks v
theorem bA.rfl{ks:List E2}{u:Nat}:bA ks u u:=Eq.refl _
theorem bA.symm{ks:List E2}{u v:Nat}(h:bA ks u v):bA ks v u:=Eq.symm h
theorem bA.trans{ks:List E2}{u v x:Nat}(h:bA ks u v)(k:bA ks v x):bA ks u x:=Eq.trans h k
theorem tV(ks:List E2)(v:Nat):bA ks (aB ks v) v:=jy ks v
instance(ks:List E2)(u v:Nat):Decidable (bA ks u v):=inferInstanceAs (Decidable (_=_))
theorem tW(ks:List E2)(e:E2)(u v:Nat):bA (ks++[e]) u v↔bA ks u v∨(bA ks u e.1∧bA ks v e.2)∨(bA ks u e.2∧bA ks v e.1):=by
 unfold bA
 rw[lS]
 unfold Cc
 rcases Nat.le_total (aB ks e.1) (aB ks e.2)with h|h
 ·rw[aoA h,Nat.max_eq_right h]
  split<;>split<;>omega
 ·rw[Nat.min_eq_right h,Nat.max_eq_left h]
  split<;>split<;>omega
theorem jO{ks:List E2}{e:E2}(h:e∈ks):bA ks e.1 e.2:=by
 revert h
 refine jJ (P:=fun ks=>e∈ks→bA ks e.1 e.2) (by simp) (fun ks x ih h=>?_) ks
 rw[tW]
 rcases ann.1 h with h|h
 ·exact .inl (ih h)
 ·rw[anj]at h
  subst h
  exact .inr (.inl ⟨bA.rfl,bA.rfl⟩)
theorem DI{ks:List E2}{Q:Nat→Nat→Prop}(hr:∀u,Q u u)(hs:∀u v,Q u v→Q v u)(ht:∀u v x,Q u v→Q v x→Q u x)(he:∀e∈ks,Q e.1 e.2){u v:Nat}(h:bA ks u v):Q u v:=by
 revert he u v
 refine jJ (P:=fun ks=>(∀e∈ks,Q e.1 e.2)→∀ {u v:Nat},bA ks u v→Q u v) ?_ ?_ ks
 ·intro _ u v h
  have:u=v:=h
  subst this
  exact hr u
 ·intro ks x ih he u v h
  have Y4:=fun{u v}=>@ih (fun e h=>he e (anr _ h)) u v
  have hx:=he x (by simp)
  rw[tW]at h
  rcases h with h| ⟨h1,h2⟩| ⟨h1,h2⟩
  ·exact Y4 h
  ·exact ht _ _ _ (Y4 h1) (ht _ _ _ hx (hs _ _ (Y4 h2)))
  ·exact ht _ _ _ (Y4 h1) (ht _ _ _ (hs _ _ hx) (hs _ _ (Y4 h2)))
theorem nY{ks ks':List E2}(h:∀e∈ks,bA ks' e.1 e.2){u v:Nat}(k:bA ks u v):bA ks' u v:=
 DI (fun _=>bA.rfl) (fun _ _=>bA.symm) (fun _ _ _=>bA.trans) h k
theorem dV{ks ks':List E2}(h:∀e∈ks,e∈ks'){u v:Nat}(k:bA ks u v):bA ks' u v:=nY (fun e he=>jO (h e he)) k
theorem Jd(ks:List E2)(v:Nat):aB ks v=v↔∀u,bA ks u v→v≤u:=by
 constructor
 ·intro h u hu
  have:aB ks u=v:=Eq.trans hu h
  have:=iB ks u
  omega
 ·intro h
  have h1:=h _ (tV ks v)
  have:=iB ks v
  omega
theorem nZ{ks ks':List E2}(h:∀u v,bA ks u v↔bA ks' u v):aB ks=aB ks':=by
 funext v
 have h1:bA ks' (aB ks v) v:=(h _ _).1 (tV ks v)
 have h2:bA ks (aB ks' v) v:=(h _ _).2 (tV ks' v)
 have a1:aB ks' (aB ks v)=aB ks' v:=h1
 have a2:aB ks (aB ks' v)=aB ks v:=h2
 have:=iB ks' (aB ks v)
 have:=iB ks (aB ks' v)
 omega
def cls(n:Nat)(ks:List E2):Nat:=((List.range n).filter fun v=>aB ks v==v).length
theorem wq{α:Type}(p q:α→Bool):∀l:List α,(∀x∈l,p x=true→q x=true)→(l.filter p).length≤(l.filter q).length:=by
 intro l
 induction l with
 |nil=>intro _;simp
 |cons x l ih=>
  intro h
  have h1:=ih fun y hy=>h y (anK _ hy)
  have h2:=h x (anZ ..)
  rw[aot,aot]
  cases hp:p x
  ·cases hq:q x<;>simp<;>omega
  ·rw[h2 hp];simp;omega
theorem wu{α:Type}(p q:α→Bool):∀l:List α,(∀x∈l,p x=true→q x=true)→(l.filter p).length=(l.filter q).length→∀x∈l,q x=true→p x=true:=by
 intro l
 induction l with
 |nil=>intro _ _ x hx;cases hx
 |cons x l ih=>
  intro h hl y hy hqy
  have h1:=wq p q l fun y hy=>h y (anK _ hy)
  have h2:=h x (anZ ..)
  rw[aot,aot]at hl
  cases hp:p x
  ·cases hq:q x
   ·rw[hp,hq]at hl
    rcases anm.1 hy with rfl|hy
    ·rw[hqy]at hq;cases hq
    ·exact ih (fun z hz=>h z (anK _ hz)) (by simpa using hl) y hy hqy
   ·rw[hp,hq]at hl;simp at hl;omega
  ·rw[hp,h2 hp]at hl
   rcases anm.1 hy with rfl|hy
   ·exact hp
   ·exact ih (fun z hz=>h z (anK _ hz)) (by simpa using hl) y hy hqy
theorem UT(n:Nat){ks ks':List E2}(h:∀u v,bA ks u v→bA ks' u v):cls n ks'≤cls n ks:=by
 refine wq _ _ _ fun v _ hv=>?_
 rw[beq_iff_eq,Jd]at hv ⊢
 exact fun u hu=>hv u (h u v hu)
theorem UU{n:Nat}{ks ks':List E2}(h:∀u v,bA ks u v→bA ks' u v)(hc:cls n ks'=cls n ks){u v:Nat}(hu:u<n)(hv:v<n)(k:bA ks' u v):bA ks u v:=by
 have key:=wu (fun v=>aB ks' v==v) (fun v=>aB ks v==v) (List.range n) (fun v _ hv=>by
  rw[beq_iff_eq,Jd]at hv ⊢
  exact fun u hu=>hv u (h u v hu)) hc
 have root:∀x,x<n→aB ks' x=aB ks x:=fun x hx=>by
  have hr:=iB ks x
  have h1:=key (aB ks x) (aog.2 (by omega)) (by rw[beq_iff_eq];exact jy ks x)
  rw[beq_iff_eq]at h1
  have h2:aB ks' (aB ks x)=aB ks' x:=h _ _ (tV ks x)
  omega
 show aB ks u=aB ks v
 rw[←root u hu,←root v hv]
 exact k
inductive gh:List E2→Prop
 |nil:gh []
 |snoc (ks:List E2) (e:E2) (h:gh ks) (he:¬bA ks e.1 e.2):gh (ks++[e])
theorem tX{ks:List E2}{e:E2}:gh (ks++[e])↔gh ks∧¬bA ks e.1 e.2:=by
 constructor
 ·intro h
  generalize hk:ks++[e]=l at h
  cases h with
  |nil=>simp at hk
  |snoc ks' e' h he=>
   have:=List.append_inj' hk rfl
   obtain⟨h1,h2⟩:=this
   simp at h2
   subst h1;subst h2
   exact⟨h,he⟩
 ·rintro⟨h,he⟩;exact .snoc ks e h he
theorem DJ{n:Nat}{ks:List E2}{e:E2}(h1:e.1<n)(h2:e.2<n)(hn:¬bA ks e.1 e.2):cls n (ks++[e])+1=cls n ks:=by
 unfold cls
 have hm:max (aB ks e.1) (aB ks e.2)<n:=by have:=iB ks e.1;have:=iB ks e.2;omega
 have aM:aB ks e.1≠aB ks e.2:=hn
 have TX:aB ks (max (aB ks e.1) (aB ks e.2))=max (aB ks e.1) (aB ks e.2):=by
  rcases Nat.le_total (aB ks e.1) (aB ks e.2)with h|h
  ·rw[Nat.max_eq_right h];exact jy ks _
  ·rw[Nat.max_eq_left h];exact jy ks _
 generalize hM:max (aB ks e.1) (aB ks e.2)=M at*
 have hq:∀v,(aB (ks++[e]) v==v)=((aB ks v==v) && !(v==M)):=by
  intro v
  rw[lS]
  unfold Cc
  rw[hM]
  by_cases hv:aB ks v=M
  ·rw[if_pos hv]
   by_cases hvM:v=M
   ·have:¬ (min (aB ks e.1) (aB ks e.2)=v):=by omega
    simp[hvM];omega
   ·have h3:¬ (aB ks v=v):=by omega
    have h4:min (aB ks e.1) (aB ks e.2)≠v:=by
     intro h
     have:aB ks v=v:=by
      rw[←h]
      rcases Nat.le_total (aB ks e.1) (aB ks e.2)with h|h
      ·rw[aoA h];exact jy ks _
      ·rw[Nat.min_eq_right h];exact jy ks _
     exact h3 this
    rw[beq_eq_false_iff_ne.2 h4,beq_eq_false_iff_ne.2 h3];rfl
  ·rw[if_neg hv]
   have:v≠M:=fun h=>hv (by rw[h];exact TX)
   simp[this]
 have UV:∀l:List Nat,l.Nodup→M∈l→(l.filter fun v=>aB (ks++[e]) v==v).length+1=(l.filter fun v=>aB ks v==v).length:=by
  intro l
  induction l with
  |nil=>intro _ h;cases h
  |cons x l ih=>
   intro fW bF
   rw[anu]at fW
   rw[aot,aot,hq]
   by_cases hx:x=M
   ·subst hx
    have GY:(l.filter fun v=>aB (ks++[e]) v==v)=(l.filter fun v=>aB ks v==v):=by
     apply List.filter_congr
     intro y hy
     rw[hq]
     have:y≠x:=fun h=>fW.1 (h▸hy)
     simp[this]
    rw[GY]
    simp[TX]
   ·have hm':M∈l:=by
     rcases anm.1 bF with h|h
     ·exact absurd h.symm hx
     ·exact h
    have:=ih fW.2 hm'
    rw[beq_eq_false_iff_ne.2 hx,aoT,Bool.and_true]
    cases(aB ks x==x)<;>simp<;>omega
 exact UV _ List.nodup_range (aog.2 hm)
theorem yG{n:Nat}:∀ {ks:List E2},gh ks→(∀e∈ks,e.1<n∧e.2<n)→cls n ks+ks.length=n:=by
 intro ks h
 induction h with
 |nil=>intro _;unfold cls;rw[GW,aoH.2 (fun v _=>by simp)];simp
 |snoc ks e h he ih=>
  intro hb
  have h1:=ih fun x hx=>hb x (anr _ hx)
  obtain⟨h2,h3⟩:=hb e (by simp)
  have:=DJ h2 h3 he
  rw[ank,ant]
  omega
theorem Je{ks ks':List E2}(h:gh ks)(hs:ks'.Sublist ks):gh ks':=by
 induction h generalizing ks' with
 |nil=>rw[List.sublist_nil.1 hs];exact .nil
 |snoc ks e h he ih=>
  rcases List.sublist_append_iff.1 hs with ⟨l1,l2,rfl,h1,h2⟩
  have hl:=ih h1
  rcases l2 with _| ⟨x,l2⟩
  ·simpa using hl
  ·have h3:=h2.length_le
   simp at h3
   subst h3
   have:x=e:=by
    have:=h2.subset (anj.2 rfl)
    simpa using this
   subst this
   exact .snoc _ _ hl fun hh=>he (dV (fun y hy=>h1.subset hy) hh)
theorem AJ{ks ks':List E2}(h:ks.Perm ks')(u v:Nat):bA ks u v↔bA ks' u v:=⟨dV fun e he=>h.mem_iff.1 he,dV fun e he=>h.mem_iff.2 he⟩
def qK(A:List Int)(t:Int):Nat:=(A.filter fun x=>decide (x≤t)).length
theorem Jf{A B:List Int}(h:A.Perm B)(t:Int):qK A t=qK B t:=(h.filter _).length_eq
theorem Jg(x:Int)(A:List Int)(t:Int):qK (x::A) t=(if x≤t then 1 else 0)+qK A t:=by
 unfold qK
 rw[aot]
 by_cases h:x≤t
 ·simp[h];omega
 ·simp[h]
theorem PK(A:List Int)(t:Int):qK A t≤A.length:=List.length_filter_le _ _
theorem M6{A:List Int}{t:Int}(h:∀x∈A,x≤t):qK A t=A.length:=by
 unfold qK
 rw[aoH.2 (fun x hx=>by simpa using h x hx)]
theorem Sf{A:List Int}{t:Int}(h:qK A t=A.length):∀x∈A,x≤t:=by
 intro x hx
 have:=wu (fun x=>decide (x≤t)) (fun _=>true) A (fun _ _ _=>rfl) (by rw[show A.filter (fun _=>true)=A from aoH.2 (fun _ _=>rfl)];exact h) x hx rfl
 simpa using this
theorem DK:∀ {A:List Int},A≠[]→∃a∈A,∀x∈A,x≤a:=by
 intro A
 induction A with
 |nil=>intro h;exact absurd rfl h
 |cons x A ih=>
  intro _
  by_cases h:A=[]
  ·subst h;exact⟨x,by simp,by simp⟩
  ·obtain⟨a,ha,hm⟩:=ih h
   by_cases hx:a≤x
   ·exact⟨x,by simp,fun y hy=>(anm.1 hy).elim (fun h=>by omega) (fun h=>apm (hm y h) hx)⟩
   ·exact⟨a,by simp[ha],fun y hy=>(anm.1 hy).elim (fun h=>by omega) (fun h=>hm y h)⟩
theorem ww:∀ (k:Nat) {A B:List Int},A.length=k→B.length=k→(∀t,qK B t≤qK A t)→A.sum≤B.sum∧(A.sum=B.sum→∀t,qK A t=qK B t):=by
 intro k
 induction k with
 |zero=>
  intro A B hA hB _
  obtain rfl:=anL.1 hA
  obtain rfl:=anL.1 hB
  exact⟨aoE _,fun _ _=>rfl⟩
 |succ k ih=>
  intro A B hA hB h
  obtain⟨a,ha,hma⟩:=DK (A:=A) (by intro e;rw[e]at hA;simp at hA)
  obtain⟨b,hb,hmb⟩:=DK (A:=B) (by intro e;rw[e]at hB;simp at hB)
  have pA:=List.perm_cons_erase ha
  have pB:=List.perm_cons_erase hb
  have lA:(A.erase a).length=k:=by have:=pA.length_eq;simp at this;omega
  have lB:(B.erase b).length=k:=by have:=pB.length_eq;simp at this;omega
  have AC:a≤b:=by
   have h1:=h b
   rw[M6 hmb]at h1
   have h2:=PK A b
   exact Sf (by omega) a ha
  have hcA:∀t,qK A t=(if a≤t then 1 else 0)+qK (A.erase a) t:=fun t=>by rw[Jf pA,Jg]
  have hcB:∀t,qK B t=(if b≤t then 1 else 0)+qK (B.erase b) t:=fun t=>by rw[Jf pB,Jg]
  have mJ:∀t,qK (B.erase b) t≤qK (A.erase a) t:=by
   intro t
   have h0:=h t
   rw[hcA,hcB]at h0
   by_cases h1:a≤t
   ·by_cases h2:b≤t
    ·rw[if_pos h1,if_pos h2]at h0;omega
    ·have:qK (A.erase a) t=(A.erase a).length:=M6 fun x hx=>apm (hma x (List.mem_of_mem_erase hx)) h1
     have:=PK (B.erase b) t
     omega
   ·rw[if_neg h1,if_neg (show¬b≤t by omega)]at h0;omega
  obtain⟨i1,i2⟩:=ih lA lB mJ
  rw[Jb pA,Jb pB,ao5,ao5]
  refine⟨by omega,fun he t=>?_⟩
  have e1:a=b:=by omega
  have e2:=i2 (by omega) t
  rw[hcA,hcB,e2,e1]
section
variable {α : Type} (e : α → E2) (w : α → Int)
def yB(T:List α)(t:Int):List α:=T.filter fun i=>decide (w i≤t)
theorem tY(T:List α)(t:Int):qK (T.map w) t=(yB w T t).length:=by
 unfold qK yB
 induction T with
 |nil=>rfl
 |cons x T ih=>rw[an3,aot,aot];split<;>simp_all
def Loc(E T:List α):Prop:=∀i∈E,bA ((yB w T (w i)).map e) (e i).1 (e i).2
variable {e w}
theorem PL{T:List α}(h:gh (T.map e))(t:Int):gh ((yB w T t).map e):=Je h (List.filter_sublist.map e)
theorem HD{E T:List α}(h:∀i∈T,i∈E)(t:Int):∀x∈(yB w T t).map e,x∈(yB w E t).map e:=by
 intro x hx
 obtain⟨i,hi,rfl⟩:=anv.1 hx
 rw[yB,an6]at hi
 exact anv.2 ⟨i,an6.2 ⟨h i hi.1,hi.2⟩,rfl⟩
theorem HE{n:Nat}{T:List α}(ha:gh (T.map e))(hb:∀i∈T,(e i).1<n∧(e i).2<n)(t:Int):cls n ((yB w T t).map e)+(yB w T t).length=n:=by
 have:=yG (n:=n) (PL (w:=w) ha t) (fun x hx=>by
  obtain⟨i,hi,rfl⟩:=anv.1 hx
  exact hb i (an6.1 hi).1)
 rwa[anz]at this
theorem HF{n:Nat}{E T:List α}(hs:∀i∈T,i∈E)(ha:gh (T.map e))(hb:∀i∈E,(e i).1<n∧(e i).2<n):
  Loc e w E T↔∀t,cls n ((yB w E t).map e)+(yB w T t).length=n:=by
 have hbT:∀i∈T,(e i).1<n∧(e i).2<n:=fun i hi=>hb i (hs i hi)
 constructor
 ·intro h t
  have h1:=HE (w:=w) ha hbT t
  have h2:∀u v,bA ((yB w E t).map e) u v↔bA ((yB w T t).map e) u v:=fun u v=>by
   refine⟨nY fun x hx=>?_,dV (HD hs t)⟩
   obtain⟨i,hi,rfl⟩:=anv.1 hx
   rw[yB,an6]at hi
   have hw:w i≤t:=by simpa using hi.2
   refine dV (fun y hy=>?_) (h i hi.1)
   obtain⟨j,hj,rfl⟩:=anv.1 hy
   rw[yB,an6]at hj
   have hjw:w j≤w i:=by simpa using hj.2
   exact anv.2 ⟨j,an6.2 ⟨hj.1,by simp;omega⟩,rfl⟩
  have h3:cls n ((yB w E t).map e)=cls n ((yB w T t).map e):=by
   unfold cls
   rw[nZ h2]
  omega
 ·intro h i hi
  have h1:=HE (w:=w) ha hbT (w i)
  have h2:=h (w i)
  refine UU (n:=n) (fun u v=>dV (HD hs (w i))) (by omega) (hb i hi).1 (hb i hi).2 ?_
  exact jO (anv.2 ⟨i,an6.2 ⟨hi,by simp⟩,rfl⟩)
theorem NS{n:Nat}{E K T:List α}(hsK:∀i∈K,i∈E)(haK:gh (K.map e))(hsT:∀i∈T,i∈E)(haT:gh (T.map e))(hb:∀i∈E,(e i).1<n∧(e i).2<n)
  (aV:K.length=T.length)(hK:Loc e w E K):(K.map w).sum≤(T.map w).sum∧((K.map w).sum=(T.map w).sum↔Loc e w E T):=by
 have hk:=(HF (w:=w) hsK haK hb).1 hK
 have mJ:∀t,qK (T.map w) t≤qK (K.map w) t:=fun t=>by
  rw[tY,tY]
  have h1:=hk t
  have h2:=HE (w:=w) haT (fun i hi=>hb i (hsT i hi)) t
  have h3:=UT n (ks:=(yB w T t).map e) (ks':=(yB w E t).map e) (fun u v=>dV (HD hsT t))
  omega
 obtain⟨g1,g2⟩:=ww K.length (A:=K.map w) (B:=T.map w) (by simp) (by simp[aV]) mJ
 refine⟨g1,fun h=>?_,fun h=>?_⟩
 ·rw[HF (n:=n) hsT haT hb]
  intro t
  have:=g2 h t
  rw[tY,tY]at this
  rw[←this]
  exact hk t
 ·have ht:=(HF (w:=w) hsT haT hb).1 h
  obtain⟨g3,_⟩:=ww K.length (A:=T.map w) (B:=K.map w) (by simp[aV]) (by simp) (fun t=>by
   rw[tY,tY]
   have h1:=hk t
   have h2:=ht t
   omega)
  omega
variable (e) in
def bO(L:List α):List α:=L.foldl (fun out i=>if bA (out.map e) (e i).1 (e i).2 then out else out++[i]) []
theorem mR(L:List α)(i:α):bO e (L++[i])=if bA ((bO e L).map e) (e i).1 (e i).2 then bO e L else bO e L++[i]:=by
 unfold bO
 rw[List.foldl_append]
 rfl
theorem tZ:∀L:List α,gh ((bO e L).map e)∧(∀i∈bO e L,i∈L)∧∀i∈L,bA ((bO e L).map e) (e i).1 (e i).2:=by
 refine jJ ⟨.nil,by simp[bO],by simp⟩ fun L i ⟨h1,h2,h3⟩=>?_
 rw[mR]
 split
 ·rename_i hh
  refine⟨h1,fun x hx=>anr _ (h2 x hx),fun x hx=>?_⟩
  rcases ann.1 hx with hx|hx
  ·exact h3 x hx
  ·rw[anj.1 hx];exact hh
 ·rename_i hh
  rw[anH]
  refine⟨.snoc _ _ h1 hh,fun x hx=>?_,fun x hx=>?_⟩
  ·rcases ann.1 hx with hx|hx
   ·exact anr _ (h2 x hx)
   ·exact aob _ hx
  ·rcases ann.1 hx with hx|hx
   ·exact dV (fun y hy=>anr _ hy) (h3 x hx)
   ·rw[anj.1 hx];exact jO (by simp)
theorem Lh(L1:List α):∀L2:List α,∀i∈bO e L1,i∈bO e (L1++L2):=by
 refine jJ (by simp) fun L2 x ih i hi=>?_
 rw[←aoQ,mR]
 split
 ·exact ih i hi
 ·exact anr _ (ih i hi)
theorem Li{L:List α}(hs:L.Pairwise fun i j=>w i≤w j):Loc e w L (bO e L):=by
 intro i hi
 obtain⟨L1,L2,rfl⟩:=List.append_of_mem hi
 have mJ:∀j∈L1++[i],w j≤w i:=by
  intro j hj
  rcases ann.1 hj with hj|hj
  ·rw[aol]at hs
   exact hs.2.2 j hj i (by simp)
  ·rw[anj.1 hj];exact aoE _
 obtain⟨_,g2,g3⟩:=tZ (e:=e) (L1++[i])
 refine dV (fun x hx=>?_) (g3 i (by simp))
 obtain⟨j,hj,rfl⟩:=anv.1 hx
 have:=Lh (e:=e) (L1++[i]) L2 j hj
 rw[aoQ]at this
 exact anv.2 ⟨j,an6.2 ⟨this,by simpa using mJ j (g2 j hj)⟩,rfl⟩
theorem DL{n:Nat}{E T:List α}(hs:∀i∈T,i∈E)(ha:gh (T.map e))(hb:∀i∈E,(e i).1<n∧(e i).2<n)(hh:∀i∈E,bA (T.map e) (e i).1 (e i).2):cls n (E.map e)+T.length=n:=by
 have h1:=yG (n:=n) ha (fun x hx=>by
  obtain⟨i,hi,rfl⟩:=anv.1 hx
  exact hb i (hs i hi))
 have h2:∀u v,bA (E.map e) u v↔bA (T.map e) u v:=fun u v=>⟨nY fun x hx=>by
  obtain⟨i,hi,rfl⟩:=anv.1 hx
  exact hh i hi,dV fun x hx=>by
  obtain⟨i,hi,rfl⟩:=anv.1 hx
  exact anv.2 ⟨i,hs i hi,rfl⟩⟩
 have h3:cls n (E.map e)=cls n (T.map e):=by unfold cls;rw[nZ h2]
 rw[anz]at h1
 omega
end
section
variable {α : Type} {e : α → E2}
def but(T:List α)(k:Nat):List α:=T.take k++T.drop (k+1)
def Touch(p:E2)(u:Nat):Prop:=p.1=u∨p.2=u
def other(p:E2)(u:Nat):Nat:=p.1+p.2 - u
theorem Lj{ks:List E2}{p:E2}{u:Nat}(t:Touch p u)(h:p∈ks):bA ks u (other p u):=by
 unfold other
 rcases t with t|t
 ·subst t;rw[show p.1+p.2 - p.1=p.2 by omega];exact jO h
 ·subst t;rw[show p.1+p.2 - p.2=p.1 by omega];exact(jO h).symm
theorem Jh{p:E2}{u:Nat}(t:Touch p u):Touch p (other p u)∧other p (other p u)=u:=by
 unfold other Touch at*
 omega
end
end Go.Proofs.YtjlnnljohemifaaGreat

namespace Go.Proofs.YtjlnnljohemifaaGreat
section
variable {α : Type} {e : α → E2} {w : α → Int}
theorem sm{T T':List α}(h:∀i∈T,i∈T'){t t':Int}(ht:t≤t'){u v:Nat}(hh:bA ((yB w T t).map e) u v):bA ((yB w T' t').map e) u v:=by
 refine dV (fun p hp=>?_) hh
 obtain⟨i,hi,rfl⟩:=anv.1 hp
 obtain⟨h1,h2⟩:=an6.1 hi
 refine anv.2 ⟨i,an6.2 ⟨h i h1,?_⟩,rfl⟩
 have:w i≤t:=by simpa using h2
 simpa using apm this ht
theorem PM{T:List α}{i:α}(hi:i∈T){t:Int}(ht:w i≤t){u:Nat}(hu:Touch (e i) u):bA ((yB w T t).map e) u (other (e i) u):=
 Lj hu (anv.2 ⟨i,an6.2 ⟨hi,by simpa using ht⟩,rfl⟩)
structure jP(e:α→E2)(w:α→Int)(E T:List α)(o:List Nat)(k:Nat→Int)(wt:Nat→Prop)(b:Nat→α)(left:List α):Prop where
 HG:∀ (a c:Nat) (t:Int) (va vc:Nat),o[a]? =some va→o[c]? =some vc→a<c→(∀d,a<d→d≤c→k d≤t)→bA ((yB w T t).map e) va vc
 wait:∀x,wt x→∃c vc,o[c]? =some vc∧b x∈E∧Touch (e (b x)) vc∧other (e (b x)) vc=x∧∀a,c<a→a<o.length→k a≤w (b x)
 CA:∀i∈E,∀a va,o[a]? =some va→Touch (e i) va→(a+1=o.length∧i∈left)∨other (e i) va∈o∨(wt (other (e i) va)∧w (b (other (e i) va))≤w i∧∀c,a<c→c<o.length→k c≤w i)
 loc:∀i∈E,(e i).1∈o→(e i).2∈o→bA ((yB w T (w i)).map e) (e i).1 (e i).2
 out:∀x,wt x→x∉o
 nd:o.Nodup
theorem jP.begin{E T:List α}(k:Nat→Int)(b:Nat→α)(r:Nat):jP e w E T [r] k (fun _=>False) b E:=by
 refine⟨fun a c t va vc ha hc RR _=>?_,fun x hx=>hx.elim,fun i hi a va ha ht=>?_,fun i hi h1 h2=>?_,fun x hx=>hx.elim,by simp⟩
 ·have:=(ana.1 hc).1
  simp only[ant]at this
  omega
 ·have:=(ana.1 ha).1
  simp only[ant]at this
  exact .inl ⟨by simp only[ant];omega,hi⟩
 ·rw[anj]at h1 h2
  rw[h1,h2]
  exact bA.rfl
theorem pg{o:List Nat}{x a v:Nat}(h:(o++[x])[a]? =some v):(a<o.length∧o[a]? =some v)∨(a=o.length∧v=x):=by
 by_cases ha:a<o.length
 ·rw[anq ha]at h
  exact .inl ⟨ha,h⟩
 ·have h1:=(ana.1 h).1
  rw[ank,ant]at h1
  have:a=o.length:=by omega
  subst this
  rw[List.getElem?_concat_length]at h
  injection h with h
  exact .inr ⟨rfl,h.symm⟩
theorem jP.enter{E T:List α}{o:List Nat}{k k':Nat→Int}{wt:Nat→Prop}{b:Nat→α}(P:jP e w E T o k wt b []){x:Nat}(hx:wt x)(NT:∀y,wt y→w (b x)≤w (b y))(hk:∀a,a<o.length→k' a=k a)(yC:k' o.length=w (b x)):
  jP e w E (T++[b x]) (o++[x]) k' (fun y=>wt y∧y≠x) b E:=by
 obtain⟨c,vc,hc,hbE,htc,hox,hbk⟩:=P.wait x hx
 have mK:=(ana.1 hc).1
 have HH:∀i∈T,i∈T++[b x]:=fun i hi=>anr _ hi
 have key:∀ (a:Nat) (t:Int) (va:Nat),o[a]? =some va→(∀d,a<d→d≤o.length→k' d≤t)→bA ((yB w (T++[b x]) t).map e) va x:=by
  intro a
  induction a using Nat.strongRecOn with
  |_ a ih=>
   intro t va ha ht
   have TY:=(ana.1 ha).1
   have UW:w (b x)≤t:=by rw[←yC];exact ht _ TY (ano _)
   have eU:bA ((yB w (T++[b x]) t).map e) vc x:=by
    have:=PM (e:=e) (w:=w) (T:=T++[b x]) (i:=b x) (by simp) UW htc
    rwa[hox]at this
   rcases aoG a c with h|h|h
   ·exact(sm HH (aoE t) (P.HG a c t va vc ha hc h (fun d h1 h2=>by rw[←hk d (by omega)];exact ht d h1 (by omega)))).trans eU
   ·subst h
    rw[ha]at hc
    injection hc with hc
    rw[hc]
    exact eU
   ·have PN:k a≤t:=apm (hbk a h TY) UW
    obtain⟨a',rfl⟩:∃a',a=a'+1:=⟨a - 1,by omega⟩
    have ha':o[a']? =some (o[a']'(by omega)):=am8 (by omega)
    have h1:=P.HG a' (a'+1) t _ va ha' ha (by omega) (fun d h1 h2=>by
     have:d=a'+1:=by omega
     rw[this];exact PN)
    refine(sm HH (aoE t) h1).symm.trans (ih a' (by omega) t _ ha' fun d h2 h3=>?_)
    by_cases hd:d=a'+1
    ·rw[hd,hk _ TY];exact PN
    ·exact ht d (by omega) h3
 have Sg:(o++[x]).length=o.length+1:=by simp
 refine⟨fun a d t va vd ha hd had ht=>?_,fun y hy=>?_,fun i hi a va ha tt=>?_,fun i hi h1 h2=>?_,fun y hy hm=>?_,?_⟩
 ·rcases pg ha with ⟨Pt,UX⟩| ⟨Pt,_⟩
  ·rcases pg hd with ⟨NU,iA⟩| ⟨NU,rfl⟩
   ·exact sm HH (aoE t) (P.HG a d t va vd UX iA had fun j h1 h2=>by rw[←hk j (by omega)];exact ht j h1 h2)
   ·subst NU
    exact key a t va UX ht
  ·have:=(ana.1 hd).1
   omega
 ·obtain⟨c2,v2,h1,h2,h3,h4,h5⟩:=P.wait y hy.1
  have hl:=(ana.1 h1).1
  refine⟨c2,v2,by rw[anq hl];exact h1,h2,h3,h4,fun a Pt UX=>?_⟩
  by_cases h:a<o.length
  ·rw[hk a h];exact h5 a Pt h
  ·have:a=o.length:=by omega
   rw[this,yC]
   exact NT y hy.1
 ·rcases pg ha with ⟨Pt,UX⟩| ⟨Pt,_⟩
  ·right
   rcases P.CA i hi a va UX tt with ⟨_,h⟩|h| ⟨h1,h2,h3⟩
   ·cases h
   ·exact .inl (anr _ h)
   ·by_cases lO:other (e i) va=x
    ·exact .inl (by rw[lO];simp)
    ·refine .inr ⟨⟨h1,lO⟩,h2,fun d NU iA=>?_⟩
     by_cases h:d<o.length
     ·rw[hk d h];exact h3 d NU h
     ·have:d=o.length:=by omega
      rw[this,yC]
      exact apm (NT _ h1) h2
  ·exact .inl ⟨by omega,hi⟩
 ·have one:∀va,Touch (e i) va→va∈o→other (e i) va=x→bA ((yB w (T++[b x]) (w i)).map e) va x:=fun va tt hm ho=>by
   obtain⟨a,ha⟩:=List.mem_iff_getElem?.1 hm
   rcases P.CA i hi a va ha tt with ⟨_,h⟩|h| ⟨g1,g2,g3⟩
   ·cases h
   ·rw[ho]at h
    exact absurd h (P.out x hx)
   ·rw[ho]at g2
    refine key a (w i) va ha fun d NU iA=>?_
    by_cases h:d<o.length
    ·rw[hk d h];exact g3 d NU h
    ·have:d=o.length:=by omega
     rw[this,yC]
     exact g2
  rcases ann.1 h1 with h1|h1
  ·rcases ann.1 h2 with h2|h2
   ·exact sm HH (aoE _) (P.loc i hi h1 h2)
   ·rw[anj]at h2
    rw[h2]
    exact one _ (.inl rfl) h1 (by unfold other;omega)
  ·rw[anj]at h1
   rcases ann.1 h2 with h2|h2
   ·rw[h1]
    exact(one _ (.inr rfl) h2 (by unfold other;omega)).symm
   ·rw[anj]at h2
    rw[h1,h2]
    exact bA.rfl
 ·rcases ann.1 hm with hm|hm
  ·exact P.out y hy.1 hm
  ·rw[anj]at hm
   exact hy.2 hm
 ·refine anW.2 ⟨P.nd,by simp,fun y hy z hz e=>?_⟩
  rw[anj]at hz
  rw[e,hz]at hy
  exact P.out x hx hy
theorem jP.skip{E T:List α}{o:List Nat}{k:Nat→Int}{wt:Nat→Prop}{b:Nat→α}{i:α}{left:List α}(P:jP e w E T o k wt b (i::left)){v:Nat}(hv:o[o.length - 1]? =some v)(hs:∀u,Touch (e i) v→u=other (e i) v→u∈o∨(wt u∧w (b u)≤w i)):jP e w E T o k wt b left:=by
 refine⟨P.HG,P.wait,fun i' hi a va ha tt=>?_,P.loc,P.out,P.nd⟩
 rcases P.CA i' hi a va ha tt with ⟨h1,h2⟩|h|h
 ·rcases anm.1 h2 with h2|h2
  ·subst h2
   have ea:a=o.length - 1:=by omega
   rw[ea,hv]at ha
   injection ha with ha
   subst ha
   rcases hs _ tt rfl with h| ⟨g1,g2⟩
   ·exact .inr (.inl h)
   ·exact .inr (.inr ⟨g1,g2,fun c h3 h4=>by omega⟩)
  ·exact .inl ⟨h1,h2⟩
 ·exact .inr (.inl h)
 ·exact .inr (.inr h)
theorem jP.offer{E T:List α}{o:List Nat}{k:Nat→Int}{wt:Nat→Prop}{b:Nat→α}{i:α}{left:List α}(P:jP e w E T o k wt b (i::left)){v u:Nat}(hv:o[o.length - 1]? =some v)(hi:i∈E)(ht:Touch (e i) v)(hu:u=other (e i) v)(bJ:u∉o)(aK:wt u→w i≤w (b u)):
  jP e w E T o k (fun y=>wt y∨y=u) (fun y=>if y=u then i else b y) left:=by
 have hl:=(ana.1 hv).1
 refine⟨P.HG,fun y hy=>?_,fun i' hi' a va ha tt=>?_,P.loc,fun y hy=>?_,P.nd⟩
 ·by_cases TZ:y=u
  ·simp only[if_pos TZ]
   exact⟨o.length - 1,v,hv,hi,ht,by rw[TZ,hu],fun a h1 h2=>by omega⟩
  ·simp only[if_neg TZ]
   exact P.wait y (hy.resolve_right TZ)
 ·rcases P.CA i' hi' a va ha tt with ⟨h1,h2⟩|h| ⟨h1,h2,h3⟩
  ·rcases anm.1 h2 with h2|h2
   ·subst h2
    have ea:a=o.length - 1:=by omega
    rw[ea,hv]at ha
    injection ha with ha
    subst ha
    refine .inr (.inr ⟨.inr hu.symm,?_,fun c h3 h4=>by omega⟩)
    rw[if_pos hu.symm]
    exact aoE _
   ·exact .inl ⟨h1,h2⟩
  ·exact .inr (.inl h)
  ·refine .inr (.inr ⟨.inl h1,?_,h3⟩)
   by_cases TZ:other (e i') va=u
   ·rw[if_pos TZ]
    rw[TZ]at h1 h2
    exact apm (aK h1) h2
   ·rw[if_neg TZ]
    exact h2
 ·rcases hy with hy|hy
  ·exact P.out y hy
  ·rw[hy];exact bJ
theorem NV{T:List α}{done:Nat→Prop}(ha:gh (T.map e))(hT:∀i∈T,done (e i).1∧done (e i).2){i:α}{v:Nat}(ht:Touch (e i) v)(hv:done v)(hu:¬done (other (e i) v)):gh ((T++[i]).map e):=by
 rw[anH,aoC,tX]
 refine⟨ha,fun h=>?_⟩
 have hq:=DI (Q:=fun a b=>a=b∨(done a∧done b)) (fun _=>.inl rfl) (fun a b h=>h.imp Eq.symm And.symm) (fun a b c h1 h2=>by
  rcases h1 with rfl|h1
  ·exact h2
  ·rcases h2 with rfl|h2
   ·exact .inr h1
   ·exact .inr ⟨h1.1,h2.2⟩) (fun p hp=>by
  obtain⟨j,hj,rfl⟩:=anv.1 hp
  exact .inr (hT j hj)) h
 rcases ht with ht|ht
 ·have ho:other (e i) v=(e i).2:=by unfold other;omega
  rw[ho]at hu
  rcases hq with hq|hq
  ·rw[←hq,ht]at hu;exact hu hv
  ·exact hu hq.2
 ·have ho:other (e i) v=(e i).1:=by unfold other;omega
  rw[ho]at hu
  rcases hq with hq|hq
  ·rw[hq,ht]at hu;exact hu hv
  ·exact hu hq.1
structure wx(e:α→E2)(w:α→Int)(E T:List α)(D:Nat→Prop):Prop where
 shut:∀i∈E,∀v,Touch (e i) v→D v→D (other (e i) v)
 loc:∀i∈E,D (e i).1→D (e i).2→bA ((yB w T (w i)).map e) (e i).1 (e i).2
 uD:gh (T.map e)
 ins:∀i∈T,i∈E∧D (e i).1∧D (e i).2
theorem wx.begin(E:List α):wx e w E [] (fun _=>False):=⟨fun _ _ _ _ h=>h,fun _ _ h=>h.elim,.nil,by simp⟩
theorem wx.over{E T T':List α}{D:Nat→Prop}{o:List Nat}{k:Nat→Int}{wt:Nat→Prop}{b:Nat→α}(h:wx e w E T D)(hs:∀i∈T,i∈T')(P:jP e w E T' o k wt b [])(h0:∀x,¬wt x)(ha:gh (T'.map e))(bE:∀i∈T',i∈E∧(D (e i).1∨(e i).1∈o)∧(D (e i).2∨(e i).2∈o)):
  wx e w E T' (fun v=>D v∨v∈o):=by
 have T1:∀i∈E,∀v,Touch (e i) v→v∈o→other (e i) v∈o:=fun i hi v ht hv=>by
  obtain⟨a,ha⟩:=List.mem_iff_getElem?.1 hv
  rcases P.CA i hi a v ha ht with ⟨_,h⟩|h| ⟨h,_⟩
  ·cases h
  ·exact h
  ·exact absurd h (h0 _)
 refine⟨fun i hi v ht hv=>hv.imp (h.shut i hi v ht) (T1 i hi v ht),fun i hi h1 h2=>?_,ha,bE⟩
 have e1:other (e i) (e i).1=(e i).2:=by unfold other;omega
 rcases h1 with h1|h1
 ·have:=h.shut i hi _ (.inl rfl) h1
  rw[e1]at this
  exact sm hs (aoE _) (h.loc i hi h1 this)
 ·have:=T1 i hi _ (.inl rfl) h1
  rw[e1]at this
  exact P.loc i hi h1 this
theorem wx.UY{E T:List α}{D:Nat→Prop}(h:wx e w E T D)(hD:∀i∈E,D (e i).1∧D (e i).2):gh (T.map e)∧(∀i∈T,i∈E)∧Loc e w E T∧∀i∈E,bA (T.map e) (e i).1 (e i).2:=by
 have hl:Loc e w E T:=fun i hi=>h.loc i hi (hD i hi).1 (hD i hi).2
 refine⟨h.uD,fun i hi=>(h.ins i hi).1,hl,fun i hi=>dV (fun p hp=>?_) (hl i hi)⟩
 obtain⟨j,hj,rfl⟩:=anv.1 hp
 exact anv.2 ⟨j,(an6.1 hj).1,rfl⟩
end
end Go.Proofs.YtjlnnljohemifaaGreat

namespace Go.Proofs.YtjlnnljohemifaaGreat
theorem UZ{n:Nat}:∀ks:List E2,(∀e∈ks,e.1<n∧e.2<n)→n≤cls n ks+ks.length:=by
 refine jJ (fun _=>?_) fun ks e ih hb=>?_
 ·unfold cls;rw[GW,aoH.2 (fun v _=>by simp)];simp
 ·have h1:=ih fun x hx=>hb x (anr _ hx)
  obtain⟨h2,h3⟩:=hb e (by simp)
  rw[ank,ant]
  by_cases hh:bA ks e.1 e.2
  ·have:cls n (ks++[e])=cls n ks:=by
    unfold cls
    rw[nZ fun u v=>(tW ks e u v).trans ⟨fun h=>?_,fun h=>.inl h⟩]
    rcases h with h| ⟨h1,h2⟩| ⟨h1,h2⟩
    ·exact h
    ·exact h1.trans (hh.trans h2.symm)
    ·exact h1.trans (hh.symm.trans h2.symm)
   omega
  ·have:=DJ h2 h3 hh
   omega
theorem Ji{n:Nat}:∀ks:List E2,(∀e∈ks,e.1<n∧e.2<n)→(gh ks↔cls n ks+ks.length=n):=by
 intro ks hb
 refine⟨fun h=>yG h hb,?_⟩
 revert hb
 refine jJ (P:=fun ks=>(∀e∈ks,e.1<n∧e.2<n)→cls n ks+ks.length=n→gh ks) (fun _ _=>.nil) (fun ks e ih hb hc=>?_) ks
 have jz:=fun x hx=>hb x (anr _ hx)
 obtain⟨h2,h3⟩:=hb e (by simp)
 have M7:=UZ ks jz
 rw[ank,ant]at hc
 by_cases hh:bA ks e.1 e.2
 ·exfalso
  have:cls n (ks++[e])=cls n ks:=by
   unfold cls
   rw[nZ fun u v=>(tW ks e u v).trans ⟨fun h=>?_,fun h=>.inl h⟩]
   rcases h with h| ⟨h1,h2⟩| ⟨h1,h2⟩
   ·exact h
   ·exact h1.trans (hh.trans h2.symm)
   ·exact h1.trans (hh.symm.trans h2.symm)
  omega
 ·have:=DJ h2 h3 hh
  exact .snoc _ _ (ih jz (by omega)) hh
theorem NW{n:Nat}{ks ks':List E2}(hp:ks.Perm ks')(hb:∀e∈ks,e.1<n∧e.2<n)(h:gh ks):gh ks':=by
 rw[Ji (n:=n) ks' (fun e he=>hb e (hp.mem_iff.2 he))]
 have h1:=(Ji ks hb).1 h
 have h2:cls n ks'=cls n ks:=by unfold cls;rw[nZ fun u v=>(AJ hp u v).symm]
 rw[h2,←hp.length_eq]
 exact h1
section
variable {α : Type} {e : α → E2} {w : α → Int}
theorem Ll:∀ {T:List α},gh (T.map e)→T.Nodup:=by
 intro T
 refine jJ (P:=fun T=>gh (T.map e)→T.Nodup) (fun _=>by simp) (fun T i ih h=>?_) T
 rw[anH,aoC,tX]at h
 rw[anW]
 refine⟨ih h.1,by simp,fun x hx y hy K7=>?_⟩
 rw[anj]at hy
 subst hy;subst K7
 exact h.2 (jO (anv.2 ⟨x,hx,rfl⟩))
end
end Go.Proofs.YtjlnnljohemifaaGreat

namespace Go.Proofs.YtjlnnljohemifaaGreat
def ba{α:Type}(q:α→Bool):Nat→List α→List Int
 |_,[]=>[]
 |k,e::r=>(if q e then[(k:Int)]else[])++ba q (k+1) r
section
variable {α : Type}
theorem NX(q:α→Bool)(e:α):∀ (l:List α) (k:Nat),ba q k (l++[e])=ba q k l++(if q e then[((k+l.length:Nat):Int)]else[]):=by
 intro l
 induction l with
 |nil=>intro k;simp[ba]
 |cons x l ih=>
  intro k
  rw[aop,ba,ih,ba,aoQ,anw,show k+1+l.length=k+(l.length+1) by omega]
theorem AK(q:α→Bool){l:List α}{j:Nat}{e:α}(h:l[j]? =some e):ba q 0 (l.take (j+1))=ba q 0 (l.take j)++(if q e then[(j:Int)]else[]):=by
 have hj:=(ana.1 h).1
 rw[anN,h]
 show ba q 0 (l.take j++[e])=_
 rw[NX,anR,aoA (by omega),am9]
theorem DM(q:α→Bool):∀ (l:List α) (k:Nat) (x:Int),x∈ba q k l↔∃ (i:Nat) (e:α),l[i]? =some e∧q e=true∧x=((k+i:Nat):Int):=by
 intro l
 induction l with
 |nil=>intro k x;simp[ba]
 |cons e l ih=>
  intro k x
  rw[ba,ann,ih]
  constructor
  ·rintro(h| ⟨i,e',h1,h2,h3⟩)
   ·split at h
    ·exact⟨0,e,rfl,by assumption,by rw[anj.1 h];simp⟩
    ·cases h
   ·exact⟨i+1,e',by simpa using h1,h2,by rw[h3];congr 1;omega⟩
  ·rintro⟨i,e',h1,h2,h3⟩
   cases i with
   |zero=>
    left
    simp only[anG,anl]at h1
    subst h1
    rw[if_pos h2,h3];simp
   |succ i=>right;exact⟨i,e',by simpa using h1,h2,by rw[h3];congr 1;omega⟩
theorem Jj(q:α→Bool):∀ (l:List α) (k:Nat),(ba q k l).Pairwise (· < ·):=by
 intro l
 induction l with
 |nil=>intro k;exact List.Pairwise.nil
 |cons e l ih=>
  intro k
  rw[ba,aol]
  refine⟨by split<;>simp,ih (k+1),fun a ha b hb=>?_⟩
  split at ha
  ·rw[anj]at ha
   obtain⟨i,_,_,_,h⟩:=(DM q l (k+1) b).1 hb
   omega
  ·cases ha
theorem n7(q:α→Bool):∀ (l:List α) (k:Nat),(ba q k l).length≤l.length:=by
 intro l
 induction l with
 |nil=>intro k;simp[ba]
 |cons e l ih=>
  intro k
  rw[ba,ank,anw]
  have:=ih (k+1)
  split<;>simp<;>omega
theorem Sh(p q:α→Bool)(l:List α)(k:Nat)(hd:∀e∈l,¬ (p e=true∧q e=true)):(ba p k l++ba q k l).mergeSort (fun x y=>decide (x≤y))=ba (fun e=>p e || q e) k l:=by
 have qN:∀ (l:List α) (k:Nat),(∀e∈l,¬ (p e=true∧q e=true))→(ba p k l++ba q k l).Perm (ba (fun e=>p e || q e) k l):=by
  intro l
  induction l with
  |nil=>intro k _;exact .refl _
  |cons e l ih=>
   intro k hd
   have hi:=ih (k+1) fun x hx=>hd x (anK _ hx)
   have h0:=hd e (anZ ..)
   rw[ba,ba,ba]
   cases hp:p e<;>cases hq:q e
   ·simpa using hi
   ·simp only[aof,if_false,aoh,if_true,Bool.or_true,List.singleton_append]
    exact aoU.trans (hi.cons _)
   ·simp only[aof,if_false,aoh,if_true,Bool.or_false,List.singleton_append,aop]
    exact hi.cons _
   ·exact absurd ⟨hp,hq⟩ h0
 refine List.Perm.eq_of_pairwise (le:=fun x y:Int=>x≤y) (fun a b _ _ h1 h2=>by omega) ?_ ?_ ((List.mergeSort_perm _ _).trans (qN l k hd))
 ·have:=List.pairwise_mergeSort (le:=fun x y:Int=>decide (x≤y)) (fun a b c h1 h2=>by simp only[anF]at*;omega) (fun a b=>by simp;omega) (ba p k l++ba q k l)
  exact this.imp fun h=>by simpa using h
 ·exact(Jj _ l k).imp fun h=>by omega
end
end Go.Proofs.YtjlnnljohemifaaGreat
