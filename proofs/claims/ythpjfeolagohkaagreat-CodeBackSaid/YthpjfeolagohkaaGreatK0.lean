/- Texts put behind each other. -/
import Derived.Test.YthpjfeolagohkaaGreatK98
set_option maxRecDepth 100000
set_option maxHeartbeats 8000000
set_option linter.unusedVariables false
set_option linter.unusedSimpArgs false
namespace Go.Proofs.YthpjfeolagohkaaGreat
def kS(M:Nat)(ns:List Nat):Nat:=(ns.map fun n=>2^ (M - n)).sum
theorem vk(M n:Nat)(ns:List Nat):kS M (n::ns)=2^ (M - n)+kS M ns:=by rfl
theorem Ru(M:Nat)(a b:List Nat):kS M (a++b)=kS M a+kS M b:=by unfold kS;simp
theorem Oy(M:Nat){a b:List Nat}(h:a.Perm b):kS M a=kS M b:=by unfold kS;grind
theorem VQ(M d:Nat):∀ns:List Nat,(∀n∈ns,n≤M)→kS (M+d) ns=2^d*kS M ns:=by
 intro ns
 induction ns with
 |nil=>intro _;simp[kS]
 |cons n ns ih=>
  intro h
  have hn:=h n (by simp)
  rw[vk,vk,ih (by grind),Nat.mul_add,←aqC,show M+d - n=d+(M - n) by omega]
def Iv(M:Nat)(ns:List Nat):Int:=if 2^M<kS M ns then 1 else if kS M ns=2^M then 0 else -1
theorem Rv(M d:Nat){ns:List Nat}(h:∀n∈ns,n≤M):Iv (M+d) ns=Iv M ns:=by
 unfold Iv
 have hp:0<2^d:=by grind
 have e1:2^ (M+d)<kS (M+d) ns↔2^M<kS M ns:=by
  rw[VQ M d ns h,aqC,aqA (2^M)]
  exact Nat.mul_lt_mul_left hp
 have e2:kS (M+d) ns=2^ (M+d)↔kS M ns=2^M:=by
  rw[VQ M d ns h,aqC,aqA (2^M)]
  exact⟨Nat.eq_of_mul_eq_mul_left hp,fun e=>by rw[e]⟩
 simp_all
theorem Oz{M M':Nat}{ns:List Nat}(h:∀n∈ns,n≤M)(h':∀n∈ns,n≤M'):Iv M ns=Iv M' ns:=by
 rcases Nat.le_total M M' with hm|hm
 ·rw[show M'=M+(M' - M) by omega,Rv _ _ h]
 ·rw[show M=M'+(M - M') by omega,Rv _ _ h']
theorem zC(M:Nat){a b:List Nat}(h:a.Perm b):Iv M a=Iv M b:=by unfold Iv;rw[Oy M h]
structure ef(M:Nat)(ns:List Nat)(j free at_:Nat):Prop where
 le:free*2^ (M - at_)+kS M (ns.take j)≤2^M
 ex:free*2^ (M - at_)+kS M (ns.take j)=2^M∨ns.length<free+j
 low:at_≤M
theorem ef.begin(M:Nat)(ns:List Nat):ef M ns 0 1 0:=⟨by simp[kS],.inl (by simp[kS]),apG _⟩
theorem ef.double{M:Nat}{ns:List Nat}{j free at_:Nat}(h:ef M ns j free at_)(aK:at_<M):ef M ns j (free*2) (at_+1):=by
 have e:free*2*2^ (M - (at_+1))=free*2^ (M - at_):=by
  rw[Nat.mul_assoc,←Nat.pow_succ',show(M - (at_+1)).succ=M - at_ by omega]
 refine⟨by rw[e];exact h.le,?_,by omega⟩
 cases h;grind
theorem ef.jump{M:Nat}{ns:List Nat}{j free at_ n:Nat}(h:ef M ns j free at_)(hf:ns.length<free)(h1:at_≤n)(h2:n≤M):ef M ns j free n:=by
 refine⟨?_,.inr (by omega),h2⟩
 have:2^ (M - n)≤2^ (M - at_):=Nat.pow_le_pow_right (by omega) (by omega)
 exact apc (Nat.add_le_add_right (Nat.mul_le_mul_left _ this) _) h.le
theorem ef.aaH{M:Nat}{ns:List Nat}{j at_ n:Nat}(h:ef M ns j 0 at_)(h2:n≤M):ef M ns j 0 n:=by
 refine⟨?_,?_,h2⟩
 ·have:=h.le;omega
 ·have:=h.ex;omega
theorem zD{M:Nat}{ns:List Nat}{j n:Nat}(hn:ns[j]? =some n):kS M (ns.take (j+1))=kS M (ns.take j)+2^ (M - n):=by
 rw[aoM,hn,Ru]
 simp[kS]
theorem xE(M:Nat)(ns:List Nat)(j:Nat):kS M (ns.take j)≤kS M ns:=by
 conv=>rhs;rw[←apt j ns,Ru]
 omega
theorem ef.use{M:Nat}{ns:List Nat}{j free n:Nat}(h:ef M ns j free n)(hn:ns[j]? =some n)(hf:0<free):ef M ns (j+1) (free - 1) n:=by
 have e:(free - 1)*2^ (M - n)+2^ (M - n)=free*2^ (M - n):=by
  rw[←Nat.succ_mul];congr 1;omega
 refine⟨?_,?_,h.low⟩
 ·rw[zD hn]
  have:=h.le
  omega
 cases h;grind [zD]
theorem ef.none{M:Nat}{ns:List Nat}{j n:Nat}(h:ef M ns j 0 n){m:Nat}(hn:ns[j]? =some m):Iv M ns=1:=by
 have hj:=(aoq.1 hn).1
 have h1:=zD (M:=M) hn
 cases h;grind [Iv,xE]
theorem ef.done{M:Nat}{ns:List Nat}{free at_:Nat}(h:ef M ns ns.length free at_):Iv M ns=if free=0 then 0 else -1:=by
 have h1:=h.le
 have h2:=h.ex
 rw[aoQ]at h1 h2
 unfold Iv
 by_cases hf:free=0
 ·simp_all
 ·have h3:0<free*2^ (M - at_):=Nat.mul_pos (by omega) (by grind)
  omega
end Go.Proofs.YthpjfeolagohkaaGreat

namespace Go.Proofs.YthpjfeolagohkaaGreat
def dI:List Bool→Nat:=List.foldl (fun a b=>2*a+b.toNat) 0
theorem aaI(w:List Bool):∀a:Nat,w.foldl (fun a b=>2*a+b.toNat) a=a*2^w.length+dI w:=by
 unfold dI
 induction w with
 |nil=>grind
 |cons b w ih=>
  grind
theorem E9(w t:List Bool):dI (w++t)=dI w*2^t.length+dI t:=by
 conv=>lhs;unfold dI
 rw[List.foldl_append,aaI]
 rfl
theorem Rx(b:Bool):dI [b]=b.toNat:=by unfold dI;simp
theorem jA(w:List Bool)(b:Bool):dI (w++[b])=2*dI w+b.toNat:=by rw[E9,Rx];grind
theorem I8(w:List Bool):dI w<2^w.length:=by
 have:∀r:List Bool,dI r.reverse<2^r.length:=by
  intro r
  induction r with
  |nil=>simp[dI]
  |cons b r ih=>
   rw[List.reverse_cons,jA,aoI,Nat.pow_succ]
   have:b.toNat≤1:=by cases b<;>simp
   omega
 have:=this w.reverse
 grind
theorem xF(n:Nat):dI (List.replicate n false)=0:=by
 induction n with
 |zero=>rfl
 |succ n ih=>rw[apv,jA,ih];rfl
def Pm:List Bool→List Bool
 | []=>[]
 |false::r=>true::r
 |true::r=>false::Pm r
def dM(w:List Bool):List Bool:=(Pm w.reverse).reverse
theorem KH:∀r,(Pm r).length=r.length
 | []=>rfl
 |false::r=>rfl
 |true::r=>by rw[Pm,aoI,aoI,KH r]
theorem tF(w:List Bool):(dM w).length=w.length:=by grind [dM,KH]
theorem KI:dM []=[]:=rfl
theorem Iw(w:List Bool):dM (w++[false])=w++[true]:=by grind [Pm,dM]
theorem Fa(w:List Bool):dM (w++[true])=dM w++[false]:=by grind [Pm,dM]
theorem Ry:∀ (r:List Bool),dI r.reverse+1<2^r.length→dI (dM r.reverse)=dI r.reverse+1:=by
 intro r
 induction r with
 |nil=>grind
 |cons b r ih=>
  intro h
  rw[List.reverse_cons]at h ⊢
  rw[aoI,Nat.pow_succ,jA]at h
  cases b
  ·rw[Iw,jA,jA];rfl
  grind [Fa,jA]
theorem Xa{w:List Bool}(h:dI w+1<2^w.length):dI (dM w)=dI w+1:=by
 have:=Ry w.reverse
 grind
def is(n:Nat)(w:List Bool):List Bool:=w++List.replicate (n - w.length) false
theorem Rz{n:Nat}{w:List Bool}(h:w.length≤n):(is n w).length=n:=by unfold is;grind
theorem RA(n:Nat)(w:List Bool):dI (is n w)=dI w*2^ (n - w.length):=by grind [is,E9,xF]
def iu:List Bool→List Nat→List (List Bool)
 |_,[]=>[]
 |last,n::ns=>is n (dM last)::iu (is n (dM last)) ns
theorem MN(M:Nat):∀ (ns:List Nat) (last:List Bool) (S:Nat),(∀n∈ns,last.length≤n∧n≤M)→ns.Pairwise (· ≤ ·)→last.length≤M→dI last*2^ (M - last.length)=S→S+2^ (M - last.length)+kS M ns≤2^M→
  ∀k w,(iu last ns)[k]? =some w→ns[k]? =some w.length∧dI w*2^ (M - w.length)=S+2^ (M - last.length)+kS M (ns.take k):=by
 intro ns
 induction ns with
 |nil=>grind [iu]
 |cons n ns ih=>
  intro last S hb hp hlM hS hr k w hk
  obtain⟨h1,h2⟩:=hb n (by simp)
  rw[apw]at hp
  rw[vk]at hr
  have fC:0<2^ (M - n):=by grind
  have eT:dI last+1<2^last.length:=by
   apply aoJ
   intro bS
   have:2^last.length*2^ (M - last.length)≤(dI last+1)*2^ (M - last.length):=apI _ (by omega)
   rw[←aqC,show last.length+(M - last.length)=M by omega,apy,aqp,hS]at this
   omega
  have hv:dI (is n (dM last))*2^ (M - n)=S+2^ (M - last.length):=by
   rw[RA,tF,Xa eT,Nat.mul_assoc,←aqC,show n - last.length+(M - n)=M - last.length by omega,apy,aqp,hS]
  have aR:(is n (dM last)).length=n:=Rz (by rw[tF];exact h1)
  cases k with
  |zero=>
   grind [iu,kS]
  |succ k=>
   simp only[iu,api]at hk
   obtain⟨a,b⟩:=ih (is n (dM last)) (S+2^ (M - last.length)) (by grind) hp.2 (by omega) (by grind) (by grind) k w hk
   grind [vk]
theorem BR{M:Nat}{ns:List Nat}(h1:∀n∈ns,1≤n∧n≤M)(hp:ns.Pairwise (· ≤ ·))(hr:kS M ns≤2^M){k:Nat}{w:List Bool}(hk:(iu [] ns)[k]? =some w):
  ns[k]? =some w.length∧dI w*2^ (M - w.length)=kS M (ns.take k):=by
 cases ns with
 |nil=>simp[iu]at hk
 |cons n ns=>
  obtain⟨g1,g2⟩:=h1 n (by simp)
  rw[apw]at hp
  rw[vk]at hr
  have e:is n (dM [])=List.replicate n false:=by rw[KI];unfold is;simp
  have aR:(List.replicate n false).length=n:=by grind
  cases k with
  |zero=>
   grind [iu,kS,xF]
  |succ k=>
   simp only[iu,e,api]at hk
   obtain⟨a,b⟩:=MN M ns (List.replicate n false) 0 (by grind) hp.2 (by omega) (by rw[xF];simp) (by grind) k w hk
   grind [vk]
theorem MO{M:Nat}{ns:List Nat}(h1:∀n∈ns,1≤n∧n≤M)(hp:ns.Pairwise (· ≤ ·))(hr:kS M ns≤2^M){i k:Nat}{w v:List Bool}(hi:(iu [] ns)[i]? =some w)(hk:(iu [] ns)[k]? =some v)(aQ:i≠k):¬w<+:v:=by
 rintro⟨t,rfl⟩
 obtain⟨a1,a2⟩:=BR h1 hp hr hi
 obtain⟨b1,b2⟩:=BR h1 hp hr hk
 have hM:=(h1 _ (aow b1)).2
 rw[aoy]at b1 b2 hM
 have fC:0<2^ (M - w.length):=by grind
 rcases Nat.lt_or_gt_of_ne aQ with aK|aK
 ·have h2:kS M (ns.take (i+1))≤kS M (ns.take k):=by
   have:=xE M (ns.take k) (i+1)
   grind
  rw[zD a1]at h2
  have h3:dI (w++t)*2^ (M - (w.length+t.length))< (dI w+1)*2^ (M - w.length):=by
   have e:2^ (M - w.length)=2^t.length*2^ (M - (w.length+t.length)):=by rw[←aqC];congr 1;omega
   rw[e,←Nat.mul_assoc]
   refine Nat.mul_lt_mul_of_pos_right ?_ (by grind)
   rw[E9,apy,aqp]
   have:=I8 t
   omega
  grind
 ·have ht:t.length=0:=by
   have:=apl.1 hp k i (by grind) (by grind) aK
   rw[(aoq.1 b1).2,(aoq.1 a1).2]at this
   omega
  have:t=[]:=by grind
  subst this
  rw[ao3]at b2
  rw[apo,Nat.add_zero]at b1 b2
  have h2:kS M (ns.take (k+1))≤kS M (ns.take i):=by
   have:=xE M (ns.take i) (k+1)
   grind
  rw[zD b1]at h2
  omega
end Go.Proofs.YthpjfeolagohkaaGreat

namespace Go.Proofs.YthpjfeolagohkaaGreat
structure pg(ws:List (List Bool)):Prop where
 ne:∀w∈ws,w≠[]
 free:∀ (i k:Nat) (w v:List Bool),ws[i]? =some w→ws[k]? =some v→w<+:v→i=k
def bitsOf(ws:List (List Bool))(ss:List Nat):List Bool:=ss.flatMap fun s=>ws.getD s []
theorem dQ(ws:List (List Bool))(s:Nat)(ss:List Nat):bitsOf ws (s::ss)=ws.getD s []++bitsOf ws ss:=rfl
theorem xG(ws:List (List Bool))(a b:List Nat):bitsOf ws (a++b)=bitsOf ws a++bitsOf ws b:=by grind [bitsOf]
def MC(ws:List (List Bool))(ss:List Nat):Prop:=∀s∈ss,s<ws.length
theorem RB{ws:List (List Bool)}{s:Nat}{w:List Bool}(h:ws[s]? =some w):ws.getD s []=w:=by grind
theorem Dr{ws:List (List Bool)}{s:Nat}(h:s<ws.length):ws[s]? =some (ws.getD s []):=by grind
theorem pg.front{ws:List (List Bool)}(h:pg ws):∀ (out du:List Nat) (rest:List Bool),MC ws out→MC ws du→bitsOf ws out++rest=bitsOf ws du→∃q,du=out++q∧rest=bitsOf ws q:=by
 intro out
 induction out with
 |nil=>grind [bitsOf]
 |cons s out ih=>
  intro du rest h1 h2 he
  have hs:=Dr (h1 s (by simp))
  cases du with
  |nil=>
   exfalso
   rw[dQ,apk]at he
   have:ws.getD s []=[]:=(List.append_eq_nil_iff.1 he).1
   cases h;grind
  |cons s' du=>
   have BO:=Dr (h2 s' (by simp))
   rw[dQ,dQ,apk]at he
   have e:s=s':=by
    have p1:ws.getD s []<+:ws.getD s' []++bitsOf ws du:=⟨_,he⟩
    have p2:ws.getD s' []<+:ws.getD s' []++bitsOf ws du:=⟨_,rfl⟩
    rcases List.prefix_or_prefix_of_prefix p1 p2 with p|p
    ·exact h.free _ _ _ _ hs BO p
    ·exact(h.free _ _ _ _ BO hs p).symm
   subst e
   obtain⟨q,e1,e2⟩:=ih du rest (fun x hx=>h1 x (by grind)) (fun x hx=>h2 x (by grind)) (List.append_cancel_left he)
   grind
theorem pg.one{ws:List (List Bool)}(h:pg ws){a b:List Nat}(ha:MC ws a)(hb:MC ws b)(e:bitsOf ws a=bitsOf ws b):a=b:=by
 obtain⟨q,e1,e2⟩:=h.front a b [] ha hb (by grind)
 cases q with
 |nil=>grind
 |cons s q=>
  exfalso
  rw[dQ]at e2
  have hs:=Dr (hb s (by grind))
  exact h.ne _ (by grind) (List.append_eq_nil_iff.1 e2.symm).1
theorem pg.stuck{ws:List (List Bool)}(h:pg ws){out:List Nat}{rest:List Bool}(ho:MC ws out)(hr:rest≠[])(bS:∀w∈ws,¬w<+:rest):∀du,MC ws du→bitsOf ws out++rest≠bitsOf ws du:=by
 intro du h' e
 obtain⟨q,e1,e2⟩:=h.front out du rest ho h' e
 cases q with
 |nil=>exact hr e2
 |cons s q=>
  have hs:=Dr (h' s (by grind))
  exact bS _ (aow hs) ⟨bitsOf ws q,by rw[←dQ];grind⟩
structure Lf where
 a:Nat
 b:Nat
 s:Int
def Lf.nx(x:Lf)(c:Bool):Nat:=if c then x.b else x.a
def Lf.go(x:Lf)(c:Bool)(k:Nat):Lf:=if c then⟨x.a,k,x.s⟩else⟨k,x.b,x.s⟩
theorem Lf.VR(x:Lf)(c c':Bool)(k:Nat):(x.go c k).nx c'=if c=c' then k else x.nx c':=by cases c<;>cases c'<;>rfl
theorem Lf.ae9(x:Lf)(c:Bool)(k:Nat):(x.go c k).s=x.s:=by cases c<;>rfl
structure jN(tr:List Lf)(fD:List (List Bool))(P:List (Nat×List Bool))(q0:List Bool):Prop where
 len:tr.length=fD.length
 root:fD[0]? =some []
 nd:fD.Nodup
 DS:∀ (i:Nat) (x:Lf) (q:List Bool) (c:Bool),tr[i]? =some x→fD[i]? =some q→(x.nx c=0∧q++[c]∉fD)∨(x.nx c≠0∧fD[x.nx c]? =some (q++[c]))
 sym:∀ (i:Nat) (x:Lf) (q:List Bool),tr[i]? =some x→fD[i]? =some q→(x.s= -1∧∀s,(s,q)∉P)∨∃s:Nat,x.s=(s:Int)∧(s,q)∈P
 pre:∀q,q∈fD↔q=[]∨(∃ (s:Nat) (w:List Bool),(s,w)∈P∧q<+:w)∨q<+:q0
theorem jN.new:jN [⟨0,0, -1⟩] [[]] [] []:=by
 refine⟨rfl,rfl,by simp,fun i x q c hx hq=>?_,fun i x q hx hq=>?_,fun q=>?_⟩
 ·cases i with
  |zero=>
   simp at hx hq
   subst hx;subst hq
   left
   exact⟨by cases c<;>rfl,by simp⟩
  |succ i=>grind
 ·grind
 ·simp
theorem zE{α:Type}{l:List α}(h:l.Nodup){i k:Nat}{x:α}(hi:l[i]? =some x)(hk:l[k]? =some x):i=k:=by
 obtain⟨h1,h2⟩:=aoq.1 hi
 obtain⟨h3,h4⟩:=aoq.1 hk
 apply aoJ
 intro aQ
 rcases Nat.lt_or_gt_of_ne aQ with aK|aK
 ·exact apl.1 h i k h1 h3 aK (by grind)
 ·exact apl.1 h k i h3 h1 aK (by grind)
theorem jN.step{tr:List Lf}{fD:List (List Bool)}{P:List (Nat×List Bool)}{q0:List Bool}(h:jN tr fD P q0){at_:Nat}{x:Lf}{c:Bool}(hx:tr[at_]? =some x)(hq:fD[at_]? =some q0)(hn:x.nx c≠0):
  fD[x.nx c]? =some (q0++[c])∧jN tr fD P (q0++[c]):=by
 rcases h.DS at_ x q0 c hx hq with ⟨h0,_⟩| ⟨_,h1⟩
 ·omega
 refine⟨h1,h.len,h.root,h.nd,h.DS,h.sym,fun q=>?_⟩
 rw[h.pre q]
 constructor
 ·grind
 ·rintro(h2|h2|h2)
  ·grind
  ·simp_all
  ·rcases aqq.1 h2 with h3|h3
   ·subst h3
    rcases(h.pre (q0++[c])).1 (by grind)with h4|h4|h4
    ·grind
    ·grind
    grind
   grind
theorem jN.grow{tr:List Lf}{fD:List (List Bool)}{P:List (Nat×List Bool)}{q0:List Bool}(h:jN tr fD P q0){at_:Nat}{x:Lf}{c:Bool}(hx:tr[at_]? =some x)(hq:fD[at_]? =some q0)(hn:x.nx c=0):
  jN (tr.set at_ (x.go c tr.length)++[⟨0,0, -1⟩]) (fD++[q0++[c]]) P (q0++[c])∧(fD++[q0++[c]])[tr.length]? =some (q0++[c]):=by
 have hl:=h.len
 obtain⟨lC,_⟩:=aoq.1 hx
 have ph:q0++[c]∉fD:=by
  rcases h.DS at_ x q0 c hx hq with ⟨_,h1⟩| ⟨h1,_⟩
  ·exact h1
  ·exact absurd hn h1
 have hnP:∀s,(s,q0++[c])∉P:=fun s hs=>ph ((h.pre _).2 (.inr (.inl ⟨s,_,hs,List.prefix_refl _⟩)))
 have fC:0<fD.length:=(aoq.1 h.root).1
 have eT:(fD++[q0++[c]])[tr.length]? =some (q0++[c]):=by rw[hl,aoP (aoB _),apq];rfl
 have aaK:∀i q,i<fD.length→(fD++[q0++[c]])[i]? =some q→fD[i]? =some q:=fun i q hi hq=>by rwa[aoF hi]at hq
 have Xb:∀i q,fD[i]? =some q→(fD++[q0++[c]])[i]? =some q:=fun i q hq=>by rw[aoF (aoq.1 hq).1];exact hq
 refine⟨⟨by simp[hl],Xb 0 _ h.root,?_,fun i y q c' hy GV=>?_,fun i y q hy GV=>?_,fun q=>?_⟩,eT⟩
 ·rw[aph]
  refine⟨h.nd,by simp,fun a ha b hb e=>?_⟩
  rw[aoH]at hb
  subst hb;subst e
  exact ph ha
 ·by_cases hi:i<tr.length
  ·rw[aoF (by simpa using hi)]at hy
   have OA:=aaK i q (by omega) GV
   by_cases Q3:i=at_
   ·subst Q3
    rw[aox hi]at hy
    injection hy with hy
    subst hy
    rw[hq]at OA
    injection OA with OA
    subst OA
    rw[Lf.VR]
    by_cases hc:c=c'
    ·subst hc
     rw[if_pos rfl]
     right
     exact⟨by omega,eT⟩
    ·rw[if_neg hc]
     rcases h.DS i x q0 c' hx hq with ⟨h1,h2⟩| ⟨h1,h2⟩
     ·left
      refine⟨h1,fun hm=>?_⟩
      rcases aoL.1 hm with hm|hm
      ·exact h2 hm
      ·rw[aoH]at hm
       have:=List.append_cancel_left hm
       simp at this
       exact hc this.symm
     ·exact .inr ⟨h1,Xb _ _ h2⟩
   ·rw[aov (Ne.symm Q3)]at hy
    rcases h.DS i y q c' hy OA with ⟨h1,h2⟩| ⟨h1,h2⟩
    ·left
     refine⟨h1,fun hm=>?_⟩
     rcases aoL.1 hm with hm|hm
     ·exact h2 hm
     ·rw[aoH]at hm
      have:=List.append_inj' hm rfl
      rw[this.1]at OA
      exact Q3 (zE h.nd OA hq)
    ·exact .inr ⟨h1,Xb _ _ h2⟩
  ·have jB:i=tr.length:=by
    have:=(aoq.1 hy).1
    simp at this;omega
   subst jB
   rw[aoP (by simp)]at hy
   simp at hy
   subst hy
   rw[eT]at GV
   injection GV with GV
   subst GV
   left
   refine⟨by cases c'<;>rfl,fun hm=>?_⟩
   rcases aoL.1 hm with hm|hm
   ·rcases(h.pre _).1 hm with h2| ⟨s,w,h3,h4⟩|h2
    ·simp at h2
    ·exact ph ((h.pre _).2 (.inr (.inl ⟨s,w,h3,(List.prefix_append _ _).trans h4⟩)))
    ·have:=h2.length_le;simp at this;omega
   ·rw[aoH]at hm
    have:=aoD List.length hm
    simp at this
 ·by_cases hi:i<tr.length
  ·rw[aoF (by simpa using hi)]at hy
   have OA:=aaK i q (by omega) GV
   by_cases Q3:i=at_
   ·subst Q3
    rw[aox hi]at hy
    injection hy with hy
    subst hy
    rw[Lf.ae9]
    exact h.sym i x q hx OA
   ·rw[aov (Ne.symm Q3)]at hy
    exact h.sym i y q hy OA
  ·have jB:i=tr.length:=by
    have:=(aoq.1 hy).1
    simp at this;omega
   subst jB
   rw[aoP (by simp)]at hy
   simp at hy
   subst hy
   rw[eT]at GV
   injection GV with GV
   subst GV
   exact .inl ⟨rfl,hnP⟩
 ·rw[aoL,aoH,h.pre q]
  constructor
  ·rintro((h2|h2|h2)|h2)
   ·exact .inl h2
   ·exact .inr (.inl h2)
   ·exact .inr (.inr (h2.trans (List.prefix_append _ _)))
   ·exact .inr (.inr (h2▸List.prefix_refl _))
  ·rintro(h2|h2|h2)
   ·exact .inl (.inl h2)
   ·exact .inl (.inr (.inl h2))
   ·rcases aqq.1 h2 with h3|h3
    ·exact .inr h3
    ·exact .inl (.inr (.inr h3))
theorem jN.MP{tr:List Lf}{fD:List (List Bool)}{P:List (Nat×List Bool)}{w:List Bool}(h:jN tr fD P w){at_:Nat}{x:Lf}(hx:tr[at_]? =some x)(hq:fD[at_]? =some w)(s:Nat):
  jN (tr.set at_ ⟨x.a,x.b,s⟩) fD ((s,w)::P) []:=by
 obtain⟨lC,_⟩:=aoq.1 hx
 refine⟨by simp[h.len],h.root,h.nd,fun i y q c hy GV=>?_,fun i y q hy GV=>?_,fun q=>?_⟩
 ·by_cases Q3:i=at_
  ·subst Q3
   rw[aox lC]at hy
   injection hy with hy
   subst hy
   exact h.DS i x q c hx GV
  ·rw[aov (Ne.symm Q3)]at hy
   exact h.DS i y q c hy GV
 ·by_cases Q3:i=at_
  ·grind
  ·rw[aov (Ne.symm Q3)]at hy
   have hqw:q≠w:=fun e=>Q3 (zE h.nd (e▸GV) hq)
   rcases h.sym i y q hy GV with ⟨h1,h2⟩| ⟨s',h1,h2⟩
   ·simp_all
   grind
 cases h;grind
structure Ds(tr:List Lf)(fD:List (List Bool))(ws:List (List Bool)):Prop where
 BS:∃P,jN tr fD P []∧∀s w,(s,w)∈P↔ws[s]? =some w
structure zF(fD:List (List Bool))(ws:List (List Bool))(out:List Nat)(vE:List Bool)(at_:Nat):Prop where
 path:fD[at_]? =some vE
 open_:∀w∈ws,¬w<+:vE
 inw:MC ws out
theorem Ds.at{tr:List Lf}{fD ws:List (List Bool)}(h:Ds tr fD ws){k:Nat}{q:List Bool}(hq:fD[k]? =some q):∃x,tr[k]? =some x:=by
 obtain⟨P,t,_⟩:=h.BS
 exact⟨_,aop (by rw[t.len];grind)⟩
theorem zF.begin{tr:List Lf}{fD ws:List (List Bool)}(h:Ds tr fD ws)(hf:pg ws):zF fD ws [] [] 0:=by
 obtain⟨P,t,_⟩:=h.BS
 exact⟨t.root,fun w hw hp=>hf.ne w hw (by grind),by intro s hs;cases hs⟩
theorem zF.fail{tr:List Lf}{fD ws:List (List Bool)}(h:Ds tr fD ws)(hf:pg ws){out:List Nat}{vE:List Bool}{at_:Nat}(r:zF fD ws out vE at_){x:Lf}(hx:tr[at_]? =some x){c:Bool}(hn:x.nx c=0)(rest:List Bool):
  ∀du,MC ws du→bitsOf ws out++(vE++c::rest)≠bitsOf ws du:=by
 obtain⟨P,t,hP⟩:=h.BS
 have bS:vE++[c]∉fD:=by
  rcases t.DS at_ x vE c hx r.path with ⟨_,h1⟩| ⟨h1,_⟩
  ·exact h1
  ·omega
 refine hf.stuck r.inw (by simp) fun w hw hp=>?_
 obtain⟨s,hs⟩:=aoN hw
 have p2:vE++[c]<+:vE++c::rest:=⟨rest,by simp⟩
 have bad:vE++[c]<+:w→False:=fun hq=>bS ((t.pre _).2 (.inr (.inl ⟨s,w,(hP s w).2 hs,hq⟩)))
 rcases List.prefix_or_prefix_of_prefix hp p2 with h3|h3
 ·rcases aqq.1 h3 with h4|h4
  ·grind
  ·exact r.open_ w hw h4
 grind
theorem zF.go{tr:List Lf}{fD ws:List (List Bool)}(h:Ds tr fD ws)(hf:pg ws){out:List Nat}{vE:List Bool}{at_:Nat}(r:zF fD ws out vE at_){x y:Lf}(hx:tr[at_]? =some x){c:Bool}(hn:x.nx c≠0)(hy:tr[x.nx c]? =some y):
  (y.s= -1∧zF fD ws out (vE++[c]) (x.nx c))∨∃s:Nat,y.s=(s:Int)∧s<ws.length∧zF fD ws (out++[s]) [] 0∧bitsOf ws (out++[s])=bitsOf ws out++(vE++[c]):=by
 obtain⟨P,t,hP⟩:=h.BS
 have hq:fD[x.nx c]? =some (vE++[c]):=by
  rcases t.DS at_ x vE c hx r.path with ⟨h1,_⟩| ⟨_,h1⟩
  ·omega
  ·exact h1
 rcases t.sym _ y _ hy hq with ⟨h1,h2⟩| ⟨s,h1,h2⟩
 ·left
  refine⟨h1,hq,fun w hw hp=>?_,r.inw⟩
  rcases aqq.1 hp with h4|h4
  ·obtain⟨s,hs⟩:=aoN hw
   simp_all
  ·exact r.open_ w hw h4
 ·right
  have hs:=(hP s _).1 h2
  have aK:=(aoq.1 hs).1
  refine⟨s,h1,aK,⟨t.root,fun w hw hp=>hf.ne w hw (by grind),fun z hz=>?_⟩,?_⟩
  ·rcases aoL.1 hz with hz|hz
   ·exact r.inw z hz
   grind
  ·rw[xG,dQ,RB hs]
   show bitsOf ws out++((vE++[c])++[])=_
   grind
theorem zF.left{tr:List Lf}{fD ws:List (List Bool)}(h:Ds tr fD ws)(hf:pg ws){out:List Nat}{vE:List Bool}{at_:Nat}(r:zF fD ws out vE at_)(h0:at_≠0):
  ∀du,MC ws du→bitsOf ws out++vE≠bitsOf ws du:=by
 obtain⟨P,t,hP⟩:=h.BS
 refine hf.stuck r.inw (fun e=>?_) r.open_
 cases r;cases t;grind [zE]
theorem zF.whole{tr:List Lf}{fD ws:List (List Bool)}(h:Ds tr fD ws){out:List Nat}{vE:List Bool}(r:zF fD ws out vE 0):vE=[]:=by
 obtain⟨P,t,hP⟩:=h.BS
 cases r;cases t;grind
end Go.Proofs.YthpjfeolagohkaaGreat

namespace Go.Proofs.YthpjfeolagohkaaGreat
theorem I9{r:Nat→Nat→Prop}(BT:∀a,¬r a a)(tr:∀a b c,r a b→r b c→r a c):∀l1 l2:List Nat,l1.Pairwise r→l2.Pairwise r→(∀a,a∈l1↔a∈l2)→l1=l2:=by
 intro l1
 induction l1 with
 |nil=>
  intro l2 _ _ h
  cases l2 with
  |nil=>rfl
  |cons b l2=>have:=(h b).2 (by simp);grind
 |cons a l1 ih=>
  intro l2 h1 h2 h
  cases l2 with
  |nil=>grind
  |cons b l2=>
   rw[apw]at h1 h2
   have BP:a=b:=by
    rcases apa.1 ((h a).1 (by simp))with e|e
    ·exact e
    ·grind
   grind
def sD(l:List Nat)(s t:Nat):Prop:=l.getD s 0<l.getD t 0∨(l.getD s 0=l.getD t 0∧s<t)
theorem KJ(l:List Nat)(a:Nat):¬sD l a a:=by unfold sD;omega
theorem Uc(l:List Nat)(a b c:Nat):sD l a b→sD l b c→sD l a c:=by unfold sD;omega
def KK(l:List Nat)(m:Nat):List Nat:=(List.range m).flatMap fun n=>(List.range l.length).filter fun s=>decide (l.getD s 0=n+1)
def RC(l:List Nat):List Nat:=KK l 128
theorem Pn(l:List Nat)(m:Nat):KK l (m+1)=KK l m++(List.range l.length).filter fun s=>decide (l.getD s 0=m+1):=by unfold KK;rw[aqc,List.flatMap_append];simp
theorem Fb(l:List Nat)(m s:Nat):s∈KK l m↔s<l.length∧1≤l.getD s 0∧l.getD s 0≤m:=by
 unfold KK
 rw[List.mem_flatMap]
 constructor
 ·grind
 ·rintro⟨h1,h2,h3⟩
  exact⟨l.getD s 0 - 1,by grind,by grind⟩
theorem RD(n:Nat):(List.range n).Pairwise (· < ·):=List.pairwise_lt_range
theorem tG(l:List Nat):∀m,(KK l m).Pairwise (sD l):=by
 intro m
 induction m with
 |zero=>simp[KK]
 |succ m ih=>
  rw[Pn,aqw]
  refine⟨ih,?_,fun a ha b hb=>?_⟩
  ·have h1:((List.range l.length).filter fun s=>decide (l.getD s 0=m+1)).Pairwise (· < ·):=(RD _).filter _
   refine List.Pairwise.imp_of_mem (fun{a b} ha hb h=>?_) h1
   have e1:=of_decide_eq_true (ap3.1 ha).2
   have e2:=of_decide_eq_true (ap3.1 hb).2
   exact .inr ⟨by omega,h⟩
  ·have e1:=(Fb l m a).1 ha
   have e2:=of_decide_eq_true (ap3.1 hb).2
   exact .inl (by omega)
structure RE(l:List Nat):Prop where
 low:∀n∈l,1≤n∧n≤128
 room:kS 128 l≤2^128
theorem zG{l:List Nat}{s:Nat}(h:s<l.length):l.getD s 0∈l:=by
 grind
theorem Xc{l o:List Nat}(h:∀n∈l,1≤n∧n≤128)(hp:o.Perm (List.range l.length))(hs:o.Pairwise (sD l)):o=RC l:=by
 grind [RC,I9,KJ,Uc,tG,Fb]
def rP(l:List Nat)(st:List Bool×List (List Bool))(s:Nat):List Bool×List (List Bool):=(is (l.getD s 0) (dM st.1),st.2.set s (is (l.getD s 0) (dM st.1)))
def tH(l o:List Nat):List Bool×List (List Bool):=o.foldl (rP l) ([],List.replicate l.length [])
theorem aaM(l:List Nat):∀ (o:List Nat) (last:List Bool) (out:List (List Bool)),o.Nodup→(∀s∈o,s<out.length)→
  (o.foldl (rP l) (last,out)).2.length=out.length∧(∀j s:Nat,o[j]? =some s→(o.foldl (rP l) (last,out)).2[s]? =(iu last (o.map fun s=>l.getD s 0))[j]?)∧∀s,s∉o→(o.foldl (rP l) (last,out)).2[s]? =out[s]? :=by
 intro o
 induction o with
 |nil=>grind
 |cons x o ih=>
  grind [iu,rP]
theorem Po(l:List Nat):(List.range l.length).map (fun s=>l.getD s 0)=l:=by
 apply ao7
 grind
theorem Ix{l o:List Nat}(h:RE l)(hp:o.Perm (List.range l.length))(hs:o.Pairwise (sD l)):(tH l o).2.length=l.length∧(∀s w,(tH l o).2[s]? =some w→w.length=l.getD s 0)∧pg (tH l o).2:=by
 have hn:o.Nodup:=List.Nodup.perm List.nodup_range hp.symm
 have bF:∀s,s∈o↔s<l.length:=fun s=>by rw[hp.mem_iff,apx]
 obtain⟨h1,h2,h3⟩:=aaM l o [] (List.replicate l.length []) hn (fun s hs=>by rw[aoY];exact(bF s).1 hs)
 have e:(tH l o).2=(o.foldl (rP l) ([],List.replicate l.length [])).2:=rfl
 rw[←e]at h1 h2 h3
 rw[aoY]at h1
 have rQ:∀n∈o.map (fun s=>l.getD s 0),1≤n∧n≤128:=fun n hn=>by
  obtain⟨s,hs,rfl⟩:=ao8.1 hn
  exact h.low _ (zG ((bF s).1 hs))
 have sE:(o.map fun s=>l.getD s 0).Pairwise (· ≤ ·):=by
  rw[aqB]
  exact hs.imp fun{a b} h=>by unfold sD at h;omega
 have Pp:kS 128 (o.map fun s=>l.getD s 0)≤2^128:=by
  have hq:(o.map fun s=>l.getD s 0).Perm l:=by
   have:=hp.map fun s=>l.getD s 0
   rwa[Po]at this
  rw[Oy 128 hq]
  exact h.room
 have find:∀s w,(tH l o).2[s]? =some w→∃j,o[j]? =some s∧(iu [] (o.map fun s=>l.getD s 0))[j]? =some w:=fun s w hw=>by
  have aK:s<l.length:=by have:=(aoq.1 hw).1;omega
  obtain⟨j,hj⟩:=aoN ((bF s).2 aK)
  exact⟨j,hj,by rw[←h2 j s hj];exact hw⟩
 have len:∀s w,(tH l o).2[s]? =some w→w.length=l.getD s 0:=fun s w hw=>by
  obtain⟨j,hj,hc⟩:=find s w hw
  have:=(BR rQ sE Pp hc).1
  rw[aoG,hj]at this
  injection this with this
  exact this.symm
 refine⟨h1,len,⟨fun w hw e=>?_,fun i k w v hi hk Ud=>?_⟩⟩
 ·obtain⟨s,hs⟩:=aoN hw
  have h4:=len s w hs
  have aK:s<l.length:=by have:=(aoq.1 hs).1;omega
  have:=(h.low _ (zG aK)).1
  rw[e]at h4
  have h4:0=l.getD s 0:=h4
  omega
 ·obtain⟨j,hj,hc⟩:=find i w hi
  obtain⟨j',Xd,GW⟩:=find k v hk
  by_cases e:j=j'
  ·subst e
   rw[hj]at Xd
   injection Xd
  ·exact absurd Ud (MO rQ sE Pp hc GW e)
end Go.Proofs.YthpjfeolagohkaaGreat

namespace Go.Proofs.YthpjfeolagohkaaGreat
def jO(c:Nat):List Bool:=(List.range 8).map fun i=>decide (c / 2^ (7 - i)%2=1)
theorem vl(c:Nat):(jO c).length=8:=by simp[jO]
theorem RF(c i:Nat)(h:i<8):(jO c)[i]? =some (decide (c / 2^ (7 - i)%2=1)):=by
 unfold jO
 rw[aoG,apz h]
 rfl
theorem RG(c:Nat):jO c=[decide (c / 128%2=1),decide (c / 64%2=1),decide (c / 32%2=1),decide (c / 16%2=1),decide (c / 8%2=1),decide (c / 4%2=1),decide (c / 2%2=1),decide (c / 1%2=1)]:=rfl
theorem Pq(n:Nat):(decide (n%2=1)).toNat=n%2:=by
 rcases Nat.mod_two_eq_zero_or_one n with h|h<;>rw[h]<;>rfl
theorem MQ{c:Nat}(h:c<256):dI (jO c)=c:=by
 rw[RG]
 unfold dI
 simp only[List.foldl_cons,List.foldl_nil,Pq]
 omega
theorem MR{q:List Bool}(h:q.length=8):jO (dI q)=q:=by
 match q,h with
 | [a,b,c,d,e,f,g,k],_=>
  cases a<;>cases b<;>cases c<;>cases d<;>cases e<;>cases f<;>cases g<;>cases k<;>decide
def bytesOf(w:List Bool):List Nat:=(List.range (w.length / 8)).map fun j=>dI ((w.drop (8*j)).take 8)
def aM(b:List Nat):List Bool:=b.flatMap jO
theorem nQ(w:List Bool):(bytesOf w).length=w.length / 8:=by simp[bytesOf]
theorem nR(b:List Nat):(aM b).length=8*b.length:=by
 induction b with
 |nil=>rfl
 |cons c b ih=>simp only[aM,apU,aoy,vl,aoI]at*;omega
theorem MS{w:List Bool}{j:Nat}(h:j<w.length / 8):(bytesOf w)[j]? =some (dI ((w.drop (8*j)).take 8)):=by
 unfold bytesOf
 rw[aoG,apz h]
 rfl
theorem l9{q w:List Bool}(h:q.length=8):bytesOf (q++w)=dI q::bytesOf w:=by
 unfold bytesOf
 rw[aoy,h,show(8+w.length) / 8=w.length / 8+1 by omega,List.range_succ_eq_map,apg,apE]
 congr 1
 ·rw[Nat.mul_zero,apO,aqk h]
 ·apply apu
  intro j _
  show dI (((q++w).drop (8*(j+1))).take 8)=_
  rw[show 8*(j+1)=q.length+8*j by omega,List.drop_append,List.drop_eq_nil_of_le (by omega),apD,Nat.add_sub_cancel_left]
theorem DT{b:List Nat}(h:∀c∈b,c<256):bytesOf (aM b)=b:=by
 induction b with
 |nil=>rfl
 |cons c b ih=>
  show bytesOf (jO c++aM b)=_
  rw[l9 (vl c),MQ (h c (by simp)),ih fun x hx=>h x (apd _ hx)]
theorem kV:∀ (n:Nat) (w:List Bool),w.length=8*n→aM (bytesOf w)=w:=by
 intro n
 induction n with
 |zero=>
  intro w h
  obtain rfl:w=[]:=ao4.1 (by omega)
  rfl
 |succ n ih=>
  intro w h
  have e:w=w.take 8++w.drop 8:=(apt 8 w).symm
  have h8:(w.take 8).length=8:=by rw[aoS];omega
  rw[e,l9 h8]
  show jO (dI (w.take 8))++aM (bytesOf (w.drop 8))=_
  rw[MR h8,ih (w.drop 8) (by rw[apV];omega)]
def eG(n:Nat):Nat:=(8 - n%8)%8
def cN(w:List Bool):List Bool:=w++List.replicate (eG w.length) false
theorem BU(w:List Bool):(cN w).length=w.length+eG w.length:=by simp[cN]
theorem pj(w:List Bool):(cN w).length=8*((w.length+7) / 8):=by rw[BU];unfold eG;omega
def nS(w:List Bool):List Nat:=eG w.length::bytesOf (cN w)
theorem Iy(w:List Bool):(nS w).length=1+(w.length+7) / 8:=by
 unfold nS
 rw[aoI,nQ,pj]
 omega
theorem RH{q:List Bool}(h:q.length≤8):dI q<256:=by
 have h1:=I8 q
 have h2:2^q.length≤2^8:=Nat.pow_le_pow_right (by decide) h
 omega
theorem RI(w:List Bool):∀c∈nS w,c<256:=by
 intro c hc
 rcases apa.1 hc with rfl|hc
 ·unfold eG;omega
 ·obtain⟨j,_,rfl⟩:=ao8.1 hc
  exact RH (by rw[aoS];omega)
structure Ja(k:Nat)(b:List Nat):Prop where
 low:k<8
 some_:k=0∨b≠[]
 eU:b.length≤131072
theorem Ja.le{k:Nat}{b:List Nat}(h:Ja k b):k≤(aM b).length:=by
 rw[nR]
 have h1:=h.low
 rcases h.some_ with h2|h2
 ·omega
 ·have:=List.length_pos_iff.2 h2;omega
theorem RJ{k:Nat}{b:List Nat}(h:Ja k b)(hb:∀c∈b,c<256):
  nS ((aM b).take ((aM b).length - k))=k::b↔(aM b).drop ((aM b).length - k)=List.replicate k false:=by
 have hk:=h.le
 have aR:=nR b
 have hl:((aM b).take ((aM b).length - k)).length=(aM b).length - k:=by rw[aoS];omega
 have hm:eG ((aM b).take ((aM b).length - k)).length=k:=by
  rw[hl,aR]
  have h1:=h.low
  unfold eG
  rw[aR]at hk
  omega
 unfold nS
 rw[List.cons.injEq,hm]
 constructor
 ·rintro⟨_,h2⟩
  have h3:=aoD aM h2
  rw[kV _ _ (pj _)]at h3
  unfold cN at h3
  rw[hm]at h3
  have h4:(aM b).take ((aM b).length - k)++List.replicate k false=(aM b).take ((aM b).length - k)++(aM b).drop ((aM b).length - k):=by rw[h3,apt]
  exact(List.append_cancel_left h4).symm
 ·intro h2
  refine⟨rfl,?_⟩
  have h3:cN ((aM b).take ((aM b).length - k))=aM b:=by
   unfold cN
   rw[hm,←h2,apt]
  rw[h3,DT hb]
theorem Ps(w:List Bool):(aM (bytesOf (cN w))).take ((aM (bytesOf (cN w))).length - eG w.length)=w:=by
 rw[kV _ _ (pj _),BU,aql]
 unfold cN
 rw[List.take_left]
end Go.Proofs.YthpjfeolagohkaaGreat

namespace Go.Proofs.YthpjfeolagohkaaGreat
end Go.Proofs.YthpjfeolagohkaaGreat

namespace Go.Proofs.YthpjfeolagohkaaGreat
structure Ar where
 g:List (Nat×Bool)
 wt:List Int
 nx:Nat
 ct:Int
 mo:Nat
def Ar.bV(A:Ar)(x:Int):Nat:=(A.g.getD x.toNat (0,false)).1
def Ar.live(A:Ar)(x:Int):Prop:=0≤x∧(A.g[x.toNat]?).map (·.2)=some true
instance(A:Ar)(x:Int):Decidable (A.live x):=by unfold Ar.live;exact inferInstance
def Ar.pick(A:Ar):Option (Int×Ar):=
 if A.wt≠[]then some (A.wt.getLastD 0,{A with wt:=A.wt.dropLast})else if A.nx=A.g.length then none else some ((A.nx:Int),{A with nx:=A.nx+1})
def Ar.out(A:Ar)(x:Int):Ar:={A with g:=A.g.set x.toNat (A.bV x+1,true),ct:=A.ct+1}
def Ar.back(A:Ar)(x:Int):Ar:={A with g:=A.g.set x.toNat (A.bV x,false),ct:=A.ct - 1,wt:=if A.bV x<A.mo then A.wt++[x]else A.wt}
def Ar.aO(A:Ar):Nat:=A.g.countP (·.2)
theorem count_set{L:List (Nat×Bool)}{i:Nat}{y:Nat×Bool}(h:L[i]? =some y)(v:Nat)(b:Bool):(L.set i (v,b)).countP (·.2)+y.2.toNat=L.countP (·.2)+b.toNat:=by
 induction L generalizing i with
 |nil=>simp at h
 |cons a r ih=>
  cases i with
  |zero=>
   simp at h
   subst h
   rw[apM,apW,apW]
   cases a.2<;>cases b<;>simp
  |succ i=>
   have:=ih (i:=i) (by simpa using h)
   rw[apb,apW,apW]
   omega
structure xH(A:Ar):Prop where
 wl:∀x∈A.wt,¬A.live x∧x<A.nx∧0≤x
 wd:A.wt.Nodup
 fr:∀x:Int,A.nx≤x→¬A.live x
 ct:A.ct=A.aO
 nx:A.nx≤A.g.length
theorem Ar.get{A:Ar}{x:Int}(hx:0≤x∧x<A.g.length):∃b,A.g[x.toNat]? =some (A.bV x,b)∧(A.live x↔b=true):=by
 obtain⟨y,hy⟩:∃y,A.g[x.toNat]? =some y:=⟨_,aop (by omega)⟩
 refine⟨y.2,?_,?_⟩
 ·unfold Ar.bV
  rw[aou,hy];rfl
 ·unfold Ar.live
  rw[hy]
  simp[hx.1]
theorem Ar.zH{A:Ar}{x:Int}(h:A.live x):0≤x∧x<A.g.length:=by
 obtain⟨h0,h1⟩:=h
 cases hy:A.g[x.toNat]? with
 |none=>rw[hy]at h1;cases h1
 |some y=>
  have:=(aoq.1 hy).1
  omega
theorem Ar.zI{A A':Ar}{x:Int}(h:A.pick=some (x,A'))(ok:xH A):(0≤x∧x<A.g.length)∧¬A.live x∧x∉A'.wt∧x<A'.nx∧A'.g=A.g∧A'.ct=A.ct∧A'.mo=A.mo:=by
 have ET:=ok.nx
 unfold Ar.pick at h
 split at h
 ·rename_i aQ
  injection h with h
  injection h with h1 h2
  subst h1 h2
  have hw:A.wt=A.wt.dropLast++[A.wt.getLastD 0]:=by
   conv=>lhs;rw[←List.dropLast_concat_getLast aQ]
   rw[List.getLastD_eq_getLast?,List.getLast?_eq_some_getLast aQ]
   rfl
  have hm:A.wt.getLastD 0∈A.wt:=by rw[hw];simp
  have h5:=ok.wl _ hm
  refine⟨by omega,h5.1,fun hd=>?_,h5.2.1,rfl,rfl,rfl⟩
  have gU:=ok.wd
  rw[hw,aph]at gU
  exact gU.2.2 _ hd _ (by simp) rfl
 ·split at h
  ·cases h
  ·rename_i h1 h2
   injection h with h
   injection h with h3 h4
   subst h3 h4
   refine⟨by omega,ok.fr _ (aqr _),fun hm=>?_,by simp only;omega,rfl,rfl,rfl⟩
   have:=ok.wl _ hm
   omega
theorem Ar.mD{A A':Ar}{x y:Int}{v:Nat}{b:Bool}(hx:0≤x∧x<A.g.length)(h:A'.g=A.g.set x.toNat (v,b))(hy:0≤y):A'.live y↔if y=x then b=true else A.live y:=by
 unfold Ar.live
 rw[h]
 by_cases e:y=x
 ·rw[if_pos e,e,aox (by omega)]
  simp[hx.1]
 ·rw[if_neg e,aov (by omega)]
theorem Ar.OB{A A':Ar}{x y:Int}{v:Nat}{b:Bool}(hx:0≤x∧x<A.g.length)(h:A'.g=A.g.set x.toNat (v,b))(hy:0≤y):A'.bV y=if y=x then v else A.bV y:=by
 unfold Ar.bV
 rw[h,aou,aou]
 by_cases e:y=x
 ·rw[if_pos e,e,aox (by omega)];rfl
 ·rw[if_neg e,aov (by omega)]
theorem xH.out{A A':Ar}{x:Int}(ok:xH A')(hg:A'.g=A.g)(hx:0≤x∧x<A'.g.length)(hl:¬A'.live x)(hw:x∉A'.wt)(hn:x<A'.nx):xH (A'.out x):=by
 obtain⟨b,hb,Dt⟩:=Ar.get hx
 have Xe:b=false:=by cases b;rfl;exact absurd (Dt.2 rfl) hl
 refine⟨fun y hy=>?_,ok.wd,fun y hy sE=>?_,?_,?_⟩
 ·obtain⟨h1,h2,h3⟩:=ok.wl y hy
  refine⟨fun h=>?_,h2,h3⟩
  rw[Ar.mD (A:=A') hx rfl h3,if_neg (fun e=>hw (by rw[←e];exact hy))]at h
  exact h1 h
 ·have hy0:=sE.1
  have vF:(A'.nx:Int)≤y:=hy
  rw[Ar.mD (A:=A') hx rfl hy0,if_neg (by omega)]at sE
  exact ok.fr y vF sE
 ·have:=count_set hb (A'.bV x+1) true
  rw[Xe]at this
  have h2:=ok.ct
  show A'.ct+1=(((A'.g.set x.toNat (A'.bV x+1,true)).countP (·.2):Nat):Int)
  unfold Ar.aO at h2
  simp at this
  omega
 ·show A'.nx≤(A'.g.set x.toNat _).length
  rw[aot];exact ok.nx
theorem xH.back{A:Ar}{x:Int}(ok:xH A)(hl:A.live x):xH (A.back x):=by
 have hx:=Ar.zH hl
 obtain⟨b,hb,Dt⟩:=Ar.get hx
 have Zo:=Dt.1 hl
 have G6:x<A.nx:=aoJ fun h=>ok.fr x (by omega) hl
 have Zp:x∉A.wt:=fun h=>(ok.wl x h).1 hl
 have VS:¬ (A.back x).live x:=fun h=>by
  rw[Ar.mD (A:=A) hx rfl hx.1,if_pos rfl]at h
  cases h
 have BV:∀y,0≤y→(A.back x).live y→A.live y:=fun y h0 h=>by
  rw[Ar.mD (A:=A) hx rfl h0]at h
  split at h
  ·cases h
  ·exact h
 refine⟨fun y hy=>?_,?_,fun y hy sE=>ok.fr y hy (BV y sE.1 sE),?_,?_⟩
 ·have vF:y∈(if A.bV x<A.mo then A.wt++[x]else A.wt):=hy
  have Kt:y∈A.wt∨y=x:=by
   split at vF
   ·rcases aoL.1 vF with h|h
    ·exact .inl h
    ·exact .inr (aoH.1 h)
   ·exact .inl vF
  rcases Kt with h|h
  ·obtain⟨h1,h2,h3⟩:=ok.wl y h
   exact⟨fun h4=>h1 (BV y h3 h4),h2,h3⟩
  ·rw[h];exact⟨VS,G6,hx.1⟩
 ·show(if A.bV x<A.mo then A.wt++[x]else A.wt).Nodup
  split
  ·rw[aph]
   refine⟨ok.wd,by simp,fun u hu v hv e=>Zp ?_⟩
   rw[aoH.1 hv]at e
   rw[←e];exact hu
  ·exact ok.wd
 ·have:=count_set hb (A.bV x) false
  rw[Zo]at this
  have h2:=ok.ct
  show A.ct - 1=(((A.g.set x.toNat (A.bV x,false)).countP (·.2):Nat):Int)
  unfold Ar.aO at h2
  simp at this
  omega
 ·show A.nx≤(A.g.set x.toNat _).length
  rw[aot];exact ok.nx
theorem Ar.OC(A:Ar):A.aO≤A.g.length:=List.countP_le_length
end Go.Proofs.YthpjfeolagohkaaGreat

namespace Go.Proofs.YthpjfeolagohkaaGreat
inductive G7:List Int→Int→Prop
 |one (w:Int):G7 [w] 0
 |step {P R:List Int} {a b c:Int} (hp:P.Perm (a::b::R)) (BP:a≤b) (hR:∀r∈R,b≤r) (h:G7 ((a+b)::R) c):G7 P (c+(a+b))
theorem G7.perm{P Q:List Int}{c:Int}(h:G7 P c)(hp:Q.Perm P):G7 Q c:=by
 cases h with
 |one w=>rw[List.perm_singleton.1 hp];exact .one w
 |step h1 h2 h3 h4=>exact .step (hp.trans h1) h2 h3 h4
end Go.Proofs.YthpjfeolagohkaaGreat
