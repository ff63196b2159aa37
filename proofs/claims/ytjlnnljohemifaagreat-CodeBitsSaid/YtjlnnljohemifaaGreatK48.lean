/- Texts put behind each other. -/
import Derived.Test.YtjlnnljohemifaaGreatK98
import Derived.Test.YtjlnnljohemifaaGreatK0
set_option maxRecDepth 100000
set_option maxHeartbeats 8000000
set_option linter.unusedVariables false
set_option linter.unusedSimpArgs false
namespace Go.Proofs.YtjlnnljohemifaaGreat
def lB(M:Nat)(ns:List Nat):Nat:=(ns.map fun n=>2^ (M - n)).sum
theorem aiO(M:Nat):lB M []=0:=rfl
theorem aa5(M n:Nat)(ns:List Nat):lB M (n::ns)=2^ (M - n)+lB M ns:=by unfold lB;simp
theorem ahD(M:Nat)(a b:List Nat):lB M (a++b)=lB M a+lB M b:=by unfold lB;simp
theorem aeX(M:Nat){a b:List Nat}(h:a.Perm b):lB M a=lB M b:=by unfold lB;exact(h.map _).sum_nat
theorem aiD(M d:Nat):∀ns:List Nat,(∀n∈ns,n≤M)→lB (M+d) ns=2^d*lB M ns:=by
 intro ns
 induction ns with
 |nil=>intro _;simp[lB]
 |cons n ns ih=>
  intro h
  have hn:=h n (by simp)
  rw[aa5,aa5,ih fun x hx=>h x (anZ _ hx),Nat.mul_add,←Nat.pow_add,show M+d - n=d+(M - n) by omega]
def krS(M:Nat)(ns:List Nat):Int:=if 2^M<lB M ns then 1 else if lB M ns=2^M then 0 else -1
theorem ahE(M d:Nat){ns:List Nat}(h:∀n∈ns,n≤M):krS (M+d) ns=krS M ns:=by
 unfold krS
 have hp:0<2^d:=Nat.pow_pos (by omega)
 have e1:2^ (M+d)<lB (M+d) ns↔2^M<lB M ns:=by
  rw[aiD M d ns h,Nat.pow_add,Nat.mul_comm (2^M)]
  exact Nat.mul_lt_mul_left hp
 have e2:lB (M+d) ns=2^ (M+d)↔lB M ns=2^M:=by
  rw[aiD M d ns h,Nat.pow_add,Nat.mul_comm (2^M)]
  exact⟨Nat.eq_of_mul_eq_mul_left hp,fun e=>by rw[e]⟩
 simp only[e1,e2]
theorem agL{M M':Nat}{ns:List Nat}(h:∀n∈ns,n≤M)(h':∀n∈ns,n≤M'):krS M ns=krS M' ns:=by
 rcases Nat.le_total M M' with hm|hm
 ·rw[show M'=M+(M' - M) by omega,ahE _ _ h]
 ·rw[show M=M'+(M - M') by omega,ahE _ _ h']
theorem acS(M:Nat){a b:List Nat}(h:a.Perm b):krS M a=krS M b:=by unfold krS;rw[aeX M h]
structure A8(M:Nat)(ns:List Nat)(j free at_:Nat):Prop where
 le:free*2^ (M - at_)+lB M (ns.take j)≤2^M
 ex:free*2^ (M - at_)+lB M (ns.take j)=2^M∨ns.length<free+j
 low:at_≤M
theorem A8.begin(M:Nat)(ns:List Nat):A8 M ns 0 1 0:=⟨by simp[lB],.inl (by simp[lB]),ao2 _⟩
theorem A8.double{M:Nat}{ns:List Nat}{j free at_:Nat}(h:A8 M ns j free at_)(aO:at_<M):A8 M ns j (free*2) (at_+1):=by
 have e:free*2*2^ (M - (at_+1))=free*2^ (M - at_):=by
  rw[Nat.mul_assoc,←Nat.pow_succ',show(M - (at_+1)).succ=M - at_ by omega]
 refine⟨by rw[e];exact h.le,?_,by omega⟩
 rw[e]
 rcases h.ex with h|h
 ·exact .inl h
 ·exact .inr (by omega)
theorem A8.jump{M:Nat}{ns:List Nat}{j free at_ n:Nat}(h:A8 M ns j free at_)(hf:ns.length<free)(h1:at_≤n)(h2:n≤M):A8 M ns j free n:=by
 refine⟨?_,.inr (by omega),h2⟩
 have:2^ (M - n)≤2^ (M - at_):=Nat.pow_le_pow_right (by omega) (by omega)
 exact aor (Nat.add_le_add_right (Nat.mul_le_mul_left _ this) _) h.le
theorem A8.aj1{M:Nat}{ns:List Nat}{j at_ n:Nat}(h:A8 M ns j 0 at_)(h2:n≤M):A8 M ns j 0 n:=by
 refine⟨?_,?_,h2⟩
 ·have:=h.le;simpa using this
 ·have:=h.ex;simpa using this
theorem aa7{M:Nat}{ns:List Nat}{j n:Nat}(hn:ns[j]? =some n):lB M (ns.take (j+1))=lB M (ns.take j)+2^ (M - n):=by
 rw[aoa,hn,ahD]
 simp[lB]
theorem abK(M:Nat)(ns:List Nat)(j:Nat):lB M (ns.take j)≤lB M ns:=by
 conv=>rhs;rw[←List.take_append_drop j ns,ahD]
 omega
theorem A8.use{M:Nat}{ns:List Nat}{j free n:Nat}(h:A8 M ns j free n)(hn:ns[j]? =some n)(hf:0<free):A8 M ns (j+1) (free - 1) n:=by
 have e:(free - 1)*2^ (M - n)+2^ (M - n)=free*2^ (M - n):=by
  rw[←Nat.succ_mul];congr 1;omega
 refine⟨?_,?_,h.low⟩
 ·rw[aa7 hn]
  have:=h.le
  omega
 ·rw[aa7 hn]
  rcases h.ex with h|h
  ·left;omega
  ·right;omega
theorem A8.none{M:Nat}{ns:List Nat}{j n:Nat}(h:A8 M ns j 0 n){m:Nat}(hn:ns[j]? =some m):krS M ns=1:=by
 have hj:=(anu.1 hn).1
 have h1:=aa7 (M:=M) hn
 have h2:=abK M ns (j+1)
 have h3:0<2^ (M - m):=Nat.pow_pos (by omega)
 unfold krS
 rw[if_pos]
 rcases h.ex with h|h
 ·rw[aod]at h;omega
 ·omega
theorem A8.done{M:Nat}{ns:List Nat}{free at_:Nat}(h:A8 M ns ns.length free at_):krS M ns=if free=0 then 0 else -1:=by
 have h1:=h.le
 have h2:=h.ex
 rw[an4]at h1 h2
 unfold krS
 by_cases hf:free=0
 ·subst hf
  rw[aod]at h1 h2
  have:lB M ns=2^M:=by omega
  rw[if_neg (by omega),if_pos this,if_pos rfl]
 ·have h3:0<free*2^ (M - at_):=Nat.mul_pos (by omega) (Nat.pow_pos (by omega))
  rw[if_neg (by omega),if_neg (by omega),if_neg hf]
end Go.Proofs.YtjlnnljohemifaaGreat

namespace Go.Proofs.YtjlnnljohemifaaGreat
def wE:List Bool→Nat:=List.foldl (fun a b=>2*a+b.toNat) 0
theorem aj2(w:List Bool):∀a:Nat,w.foldl (fun a b=>2*a+b.toNat) a=a*2^w.length+wE w:=by
 unfold wE
 induction w with
 |nil=>intro a;simp
 |cons b w ih=>
  intro a
  rw[List.foldl_cons,List.foldl_cons,ih,ih (2*0+b.toNat),anO,Nat.pow_succ,aoM,aoM]
  have:2*a*2^w.length=a*(2^w.length*2):=by rw[Nat.mul_comm 2 a,Nat.mul_assoc,Nat.mul_comm 2]
  omega
theorem acW(w t:List Bool):wE (w++t)=wE w*2^t.length+wE t:=by
 conv=>lhs;unfold wE
 rw[List.foldl_append,aj2]
 rfl
theorem ahF(b:Bool):wE [b]=b.toNat:=by unfold wE;simp
theorem D8(w:List Bool)(b:Bool):wE (w++[b])=2*wE w+b.toNat:=by rw[acW,ahF];simp;omega
theorem acX(w:List Bool):wE w<2^w.length:=by
 have:∀r:List Bool,wE r.reverse<2^r.length:=by
  intro r
  induction r with
  |nil=>simp[wE]
  |cons b r ih=>
   rw[List.reverse_cons,D8,anO,Nat.pow_succ]
   have:b.toNat≤1:=by cases b<;>simp
   omega
 have:=this w.reverse
 rwa[List.reverse_reverse,List.length_reverse]at this
theorem abL(n:Nat):wE (List.replicate n false)=0:=by
 induction n with
 |zero=>rfl
 |succ n ih=>rw[apx,D8,ih];rfl
def ahb:List Bool→List Bool
 | []=>[]
 |false::r=>true::r
 |true::r=>false::ahb r
def w9(w:List Bool):List Bool:=(ahb w.reverse).reverse
theorem afr:∀r,(ahb r).length=r.length
 | []=>rfl
 |false::r=>rfl
 |true::r=>by rw[ahb,anO,anO,afr r]
theorem aaM(w:List Bool):(w9 w).length=w.length:=by unfold w9;rw[List.length_reverse,afr,List.length_reverse]
theorem afs:w9 []=[]:=rfl
theorem aeN(w:List Bool):w9 (w++[false])=w++[true]:=by unfold w9;rw[List.reverse_append];simp[ahb]
theorem adR(w:List Bool):w9 (w++[true])=w9 w++[false]:=by unfold w9;rw[List.reverse_append];simp[ahb]
theorem ahG:∀ (r:List Bool),wE r.reverse+1<2^r.length→wE (w9 r.reverse)=wE r.reverse+1:=by
 intro r
 induction r with
 |nil=>intro h;simp at h
 |cons b r ih=>
  intro h
  rw[List.reverse_cons]at h ⊢
  rw[anO,Nat.pow_succ,D8]at h
  cases b
  ·rw[aeN,D8,D8];rfl
  ·have h1:true.toNat=1:=rfl
   rw[h1]at h
   rw[adR,D8,D8,ih (by omega)]
   have h0:false.toNat=0:=rfl
   rw[h0,h1]
   omega
theorem aiP{w:List Bool}(h:wE w+1<2^w.length):wE (w9 w)=wE w+1:=by
 have:=ahG w.reverse
 rw[List.reverse_reverse,List.length_reverse]at this
 exact this h
def Hr(n:Nat)(w:List Bool):List Bool:=w++List.replicate (n - w.length) false
theorem ahH{n:Nat}{w:List Bool}(h:w.length≤n):(Hr n w).length=n:=by unfold Hr;simp;omega
theorem ahI(n:Nat)(w:List Bool):wE (Hr n w)=wE w*2^ (n - w.length):=by unfold Hr;rw[acW,abL,aog];omega
def A9:List Bool→List Nat→List (List Bool)
 |_,[]=>[]
 |last,n::ns=>Hr n (w9 last)::A9 (Hr n (w9 last)) ns
theorem abP:∀ (ns:List Nat) (last:List Bool),(A9 last ns).length=ns.length
 | [],_=>rfl
 |n::ns,last=>by rw[A9,anO,anO,abP ns]
theorem afY(M:Nat):∀ (ns:List Nat) (last:List Bool) (S:Nat),(∀n∈ns,last.length≤n∧n≤M)→ns.Pairwise (· ≤ ·)→last.length≤M→wE last*2^ (M - last.length)=S→S+2^ (M - last.length)+lB M ns≤2^M→
  ∀k w,(A9 last ns)[k]? =some w→ns[k]? =some w.length∧wE w*2^ (M - w.length)=S+2^ (M - last.length)+lB M (ns.take k):=by
 intro ns
 induction ns with
 |nil=>intro last S _ _ _ _ _ k w hk;simp[A9]at hk
 |cons n ns ih=>
  intro last S hb hp hlM hS hr k w hk
  obtain⟨h1,h2⟩:=hb n (by simp)
  rw[aoR]at hp
  rw[aa5]at hr
  have fY:0<2^ (M - n):=Nat.pow_pos (by omega)
  have iY:wE last+1<2^last.length:=by
   apply anW
   intro bK
   have:2^last.length*2^ (M - last.length)≤(wE last+1)*2^ (M - last.length):=aoT _ (by omega)
   rw[←Nat.pow_add,show last.length+(M - last.length)=M by omega,aoM,Nat.one_mul,hS]at this
   omega
  have hv:wE (Hr n (w9 last))*2^ (M - n)=S+2^ (M - last.length):=by
   rw[ahI,aaM,aiP iY,Nat.mul_assoc,←Nat.pow_add,show n - last.length+(M - n)=M - last.length by omega,aoM,Nat.one_mul,hS]
  have aX:(Hr n (w9 last)).length=n:=ahH (by rw[aaM];exact h1)
  cases k with
  |zero=>
   simp only[A9,anY,anE]at hk
   subst hk
   rw[aX]
   exact⟨by simp,by rw[hv];simp[lB]⟩
  |succ k=>
   simp only[A9,aov]at hk
   obtain⟨a,b⟩:=ih (Hr n (w9 last)) (S+2^ (M - last.length)) (fun x hx=>⟨by rw[aX];exact hp.1 x hx,(hb x (anZ _ hx)).2⟩) hp.2 (by rw[aX];exact h2) (by rw[aX];exact hv) (by rw[aX];omega) k w hk
   refine⟨by rw[aov];exact a,?_⟩
   rw[b,aX,List.take_succ_cons,aa5]
   omega
theorem aa9{M:Nat}{ns:List Nat}(h1:∀n∈ns,1≤n∧n≤M)(hp:ns.Pairwise (· ≤ ·))(hr:lB M ns≤2^M){k:Nat}{w:List Bool}(hk:(A9 [] ns)[k]? =some w):
  ns[k]? =some w.length∧wE w*2^ (M - w.length)=lB M (ns.take k):=by
 cases ns with
 |nil=>simp[A9]at hk
 |cons n ns=>
  obtain⟨g1,g2⟩:=h1 n (by simp)
  rw[aoR]at hp
  rw[aa5]at hr
  have e:Hr n (w9 [])=List.replicate n false:=by rw[afs];unfold Hr;simp
  have aX:(List.replicate n false).length=n:=aog
  cases k with
  |zero=>
   simp only[A9,e,anY,anE]at hk
   subst hk
   rw[aX,abL]
   exact⟨by simp,by simp[lB]⟩
  |succ k=>
   simp only[A9,e,aov]at hk
   obtain⟨a,b⟩:=afY M ns (List.replicate n false) 0 (fun x hx=>⟨by rw[aX];exact hp.1 x hx,(h1 x (anZ _ hx)).2⟩) hp.2 (by rw[aX];exact g2) (by rw[abL];simp) (by rw[aX];omega) k w hk
   refine⟨by rw[aov];exact a,?_⟩
   rw[b,aX,List.take_succ_cons,aa5]
   omega
theorem af1{M:Nat}{ns:List Nat}(h1:∀n∈ns,1≤n∧n≤M)(hp:ns.Pairwise (· ≤ ·))(hr:lB M ns≤2^M){i k:Nat}{w v:List Bool}(hi:(A9 [] ns)[i]? =some w)(hk:(A9 [] ns)[k]? =some v)(aP:i≠k):¬w<+:v:=by
 rintro⟨t,rfl⟩
 obtain⟨a1,a2⟩:=aa9 h1 hp hr hi
 obtain⟨b1,b2⟩:=aa9 h1 hp hr hk
 have hM:=(h1 _ (anz b1)).2
 rw[anD]at b1 b2 hM
 have fY:0<2^ (M - w.length):=Nat.pow_pos (by omega)
 rcases Nat.lt_or_gt_of_ne aP with aO|aO
 ·have h2:lB M (ns.take (i+1))≤lB M (ns.take k):=by
   have:=abK M (ns.take k) (i+1)
   rwa[apu,aoQ (by omega)]at this
  rw[aa7 a1]at h2
  have h3:wE (w++t)*2^ (M - (w.length+t.length))< (wE w+1)*2^ (M - w.length):=by
   have e:2^ (M - w.length)=2^t.length*2^ (M - (w.length+t.length)):=by rw[←Nat.pow_add];congr 1;omega
   rw[e,←Nat.mul_assoc]
   refine Nat.mul_lt_mul_of_pos_right ?_ (Nat.pow_pos (by omega))
   rw[acW,aoM,Nat.one_mul]
   have:=acX t
   omega
  rw[aoM,Nat.one_mul]at h3
  omega
 ·have ht:t.length=0:=by
   have:=List.pairwise_iff_getElem.1 hp k i (anu.1 b1).1 (anu.1 a1).1 aO
   rw[(anu.1 b1).2,(anu.1 a1).2]at this
   omega
  have:t=[]:=an5.1 ht
  subst this
  rw[aon]at b2
  rw[aoH,Nat.add_zero]at b1 b2
  have h2:lB M (ns.take (k+1))≤lB M (ns.take i):=by
   have:=abK M (ns.take i) (k+1)
   rwa[apu,aoQ (by omega)]at this
  rw[aa7 b1]at h2
  omega
end Go.Proofs.YtjlnnljohemifaaGreat

namespace Go.Proofs.YtjlnnljohemifaaGreat
structure aaN(ws:List (List Bool)):Prop where
 ne:∀w∈ws,w≠[]
 free:∀ (i k:Nat) (w v:List Bool),ws[i]? =some w→ws[k]? =some v→w<+:v→i=k
def bitsOf(ws:List (List Bool))(ss:List Nat):List Bool:=ss.flatMap fun s=>ws.getD s []
theorem A4(ws:List (List Bool))(s:Nat)(ss:List Nat):bitsOf ws (s::ss)=ws.getD s []++bitsOf ws ss:=rfl
theorem af2(ws:List (List Bool))(a b:List Nat):bitsOf ws (a++b)=bitsOf ws a++bitsOf ws b:=List.flatMap_append ..
def InW(ws:List (List Bool))(ss:List Nat):Prop:=∀s∈ss,s<ws.length
theorem adS{ws:List (List Bool)}{s:Nat}{w:List Bool}(h:ws[s]? =some w):ws.getD s []=w:=by rw[anx,h];rfl
theorem adT{ws:List (List Bool)}{s:Nat}(h:s<ws.length):ws[s]? =some (ws.getD s []):=by rw[anx,ans h];rfl
theorem aaN.front{ws:List (List Bool)}(h:aaN ws):∀ (out aaj:List Nat) (rest:List Bool),InW ws out→InW ws aaj→bitsOf ws out++rest=bitsOf ws aaj→∃q,aaj=out++q∧rest=bitsOf ws q:=by
 intro out
 induction out with
 |nil=>intro aaj rest _ _ he;exact⟨aaj,rfl,he⟩
 |cons s out ih=>
  intro aaj rest h1 h2 he
  have hs:=adT (h1 s (by simp))
  cases aaj with
  |nil=>
   exfalso
   rw[A4,apq]at he
   have:ws.getD s []=[]:=(List.append_eq_nil_iff.1 he).1
   exact h.ne _ (anz hs) this
  |cons s' aaj=>
   have Dz:=adT (h2 s' (by simp))
   rw[A4,A4,apq]at he
   have e:s=s':=by
    have p1:ws.getD s []<+:ws.getD s' []++bitsOf ws aaj:=⟨_,he⟩
    have p2:ws.getD s' []<+:ws.getD s' []++bitsOf ws aaj:=⟨_,rfl⟩
    rcases List.prefix_or_prefix_of_prefix p1 p2 with p|p
    ·exact h.free _ _ _ _ hs Dz p
    ·exact(h.free _ _ _ _ Dz hs p).symm
   subst e
   obtain⟨q,e1,e2⟩:=ih aaj rest (fun x hx=>h1 x (anZ _ hx)) (fun x hx=>h2 x (anZ _ hx)) (List.append_cancel_left he)
   exact⟨q,by rw[e1];rfl,e2⟩
theorem aaN.stuck{ws:List (List Bool)}(h:aaN ws){out:List Nat}{rest:List Bool}(ho:InW ws out)(hr:rest≠[])(bK:∀w∈ws,¬w<+:rest):∀aaj,InW ws aaj→bitsOf ws out++rest≠bitsOf ws aaj:=by
 intro aaj h' e
 obtain⟨q,e1,e2⟩:=h.front out aaj rest ho h' e
 cases q with
 |nil=>exact hr e2
 |cons s q=>
  have hs:=adT (h' s (by rw[e1];simp))
  exact bK _ (anz hs) ⟨bitsOf ws q,by rw[←A4];exact e2.symm⟩
structure be where
 a:Nat
 b:Nat
 s:Int
def be.nx(x:be)(c:Bool):Nat:=if c then x.b else x.a
def be.go(x:be)(c:Bool)(k:Nat):be:=if c then⟨x.a,k,x.s⟩else⟨k,x.b,x.s⟩
theorem be.aiE(x:be)(c c':Bool)(k:Nat):(x.go c k).nx c'=if c=c' then k else x.nx c':=by cases c<;>cases c'<;>rfl
theorem be.amV(x:be)(c:Bool)(k:Nat):(x.go c k).s=x.s:=by cases c<;>rfl
structure aao(tr:List be)(G9:List (List Bool))(P:List (Nat×List Bool))(q0:List Bool):Prop where
 len:tr.length=G9.length
 root:G9[0]? =some []
 nd:G9.Nodup
 Ov:∀ (i:Nat) (x:be) (q:List Bool) (c:Bool),tr[i]? =some x→G9[i]? =some q→(x.nx c=0∧q++[c]∉G9)∨(x.nx c≠0∧G9[x.nx c]? =some (q++[c]))
 sym:∀ (i:Nat) (x:be) (q:List Bool),tr[i]? =some x→G9[i]? =some q→(x.s= -1∧∀s,(s,q)∉P)∨∃s:Nat,x.s=(s:Int)∧(s,q)∈P
 pre:∀q,q∈G9↔q=[]∨(∃ (s:Nat) (w:List Bool),(s,w)∈P∧q<+:w)∨q<+:q0
theorem aao.new:aao [⟨0,0, -1⟩] [[]] [] []:=by
 refine⟨rfl,rfl,by simp,fun i x q c hx hq=>?_,fun i x q hx hq=>?_,fun q=>?_⟩
 ·cases i with
  |zero=>
   simp at hx hq
   subst hx;subst hq
   left
   exact⟨by cases c<;>rfl,by simp⟩
  |succ i=>simp at hx
 ·cases i with
  |zero=>
   simp at hx
   subst hx
   left
   exact⟨rfl,by simp⟩
  |succ i=>simp at hx
 ·simp
theorem ac1{α:Type}{l:List α}(h:l.Nodup){i k:Nat}{x:α}(hi:l[i]? =some x)(hk:l[k]? =some x):i=k:=by
 obtain⟨h1,h2⟩:=anu.1 hi
 obtain⟨h3,h4⟩:=anu.1 hk
 apply anW
 intro aP
 rcases Nat.lt_or_gt_of_ne aP with aO|aO
 ·exact List.pairwise_iff_getElem.1 h i k h1 h3 aO (by rw[h2,h4])
 ·exact List.pairwise_iff_getElem.1 h k i h3 h1 aO (by rw[h2,h4])
theorem aao.step{tr:List be}{G9:List (List Bool)}{P:List (Nat×List Bool)}{q0:List Bool}(h:aao tr G9 P q0){at_:Nat}{x:be}{c:Bool}(hx:tr[at_]? =some x)(hq:G9[at_]? =some q0)(hn:x.nx c≠0):
  G9[x.nx c]? =some (q0++[c])∧aao tr G9 P (q0++[c]):=by
 rcases h.Ov at_ x q0 c hx hq with ⟨h0,_⟩| ⟨_,h1⟩
 ·exact absurd h0 hn
 refine⟨h1,h.len,h.root,h.nd,h.Ov,h.sym,fun q=>?_⟩
 rw[h.pre q]
 constructor
 ·rintro(h2|h2|h2)
  ·exact .inl h2
  ·exact .inr (.inl h2)
  ·exact .inr (.inr (h2.trans (List.prefix_append _ _)))
 ·rintro(h2|h2|h2)
  ·exact .inl h2
  ·exact .inr (.inl h2)
  ·rcases List.prefix_concat_iff.1 h2 with h3|h3
   ·subst h3
    rcases(h.pre (q0++[c])).1 (anz h1)with h4|h4|h4
    ·exact .inl h4
    ·exact .inr (.inl h4)
    ·exact .inr (.inr h4)
   ·exact .inr (.inr h3)
theorem aao.grow{tr:List be}{G9:List (List Bool)}{P:List (Nat×List Bool)}{q0:List Bool}(h:aao tr G9 P q0){at_:Nat}{x:be}{c:Bool}(hx:tr[at_]? =some x)(hq:G9[at_]? =some q0)(hn:x.nx c=0):
  aao (tr.set at_ (x.go c tr.length)++[⟨0,0, -1⟩]) (G9++[q0++[c]]) P (q0++[c])∧(G9++[q0++[c]])[tr.length]? =some (q0++[c]):=by
 have hl:=h.len
 obtain⟨u0,_⟩:=anu.1 hx
 have qH:q0++[c]∉G9:=by
  rcases h.Ov at_ x q0 c hx hq with ⟨_,h1⟩| ⟨h1,_⟩
  ·exact h1
  ·exact absurd hn h1
 have hnP:∀s,(s,q0++[c])∉P:=fun s hs=>qH ((h.pre _).2 (.inr (.inl ⟨s,_,hs,List.prefix_refl _⟩)))
 have fY:0<G9.length:=(anu.1 h.root).1
 have iY:(G9++[q0++[c]])[tr.length]? =some (q0++[c]):=by rw[hl,anX (anG _),aoI];rfl
 have aj4:∀i q,i<G9.length→(G9++[q0++[c]])[i]? =some q→G9[i]? =some q:=fun i q hi hq=>by rwa[anJ hi]at hq
 have aiQ:∀i q,G9[i]? =some q→(G9++[q0++[c]])[i]? =some q:=fun i q hq=>by rw[anJ (anu.1 hq).1];exact hq
 refine⟨⟨by simp[hl],aiQ 0 _ h.root,?_,fun i y q c' hy hq'=>?_,fun i y q hy hq'=>?_,fun q=>?_⟩,iY⟩
 ·rw[aof]
  refine⟨h.nd,by simp,fun a ha b hb e=>?_⟩
  rw[anC]at hb
  subst hb;subst e
  exact qH ha
 ·by_cases hi:i<tr.length
  ·rw[anJ (by simpa using hi)]at hy
   have hq2:=aj4 i q (by omega) hq'
   by_cases hia:i=at_
   ·subst hia
    rw[anB hi]at hy
    injection hy with hy
    subst hy
    rw[hq]at hq2
    injection hq2 with hq2
    subst hq2
    rw[be.aiE]
    by_cases hc:c=c'
    ·subst hc
     rw[if_pos rfl]
     right
     exact⟨by omega,iY⟩
    ·rw[if_neg hc]
     rcases h.Ov i x q0 c' hx hq with ⟨h1,h2⟩| ⟨h1,h2⟩
     ·left
      refine⟨h1,fun hm=>?_⟩
      rcases anH.1 hm with hm|hm
      ·exact h2 hm
      ·rw[anC]at hm
       have:=List.append_cancel_left hm
       simp at this
       exact hc this.symm
     ·exact .inr ⟨h1,aiQ _ _ h2⟩
   ·rw[anA (Ne.symm hia)]at hy
    rcases h.Ov i y q c' hy hq2 with ⟨h1,h2⟩| ⟨h1,h2⟩
    ·left
     refine⟨h1,fun hm=>?_⟩
     rcases anH.1 hm with hm|hm
     ·exact h2 hm
     ·rw[anC]at hm
      have:=List.append_inj' hm rfl
      rw[this.1]at hq2
      exact hia (ac1 h.nd hq2 hq)
    ·exact .inr ⟨h1,aiQ _ _ h2⟩
  ·have mI:i=tr.length:=by
    have:=(anu.1 hy).1
    simp at this;omega
   subst mI
   rw[anX (by simp)]at hy
   simp at hy
   subst hy
   rw[iY]at hq'
   injection hq' with hq'
   subst hq'
   left
   refine⟨by cases c'<;>rfl,fun hm=>?_⟩
   rcases anH.1 hm with hm|hm
   ·rcases(h.pre _).1 hm with h2| ⟨s,w,h3,h4⟩|h2
    ·simp at h2
    ·exact qH ((h.pre _).2 (.inr (.inl ⟨s,w,h3,(List.prefix_append _ _).trans h4⟩)))
    ·have:=h2.length_le;simp at this;omega
   ·rw[anC]at hm
    have:=anP List.length hm
    simp at this
 ·by_cases hi:i<tr.length
  ·rw[anJ (by simpa using hi)]at hy
   have hq2:=aj4 i q (by omega) hq'
   by_cases hia:i=at_
   ·subst hia
    rw[anB hi]at hy
    injection hy with hy
    subst hy
    rw[be.amV]
    exact h.sym i x q hx hq2
   ·rw[anA (Ne.symm hia)]at hy
    exact h.sym i y q hy hq2
  ·have mI:i=tr.length:=by
    have:=(anu.1 hy).1
    simp at this;omega
   subst mI
   rw[anX (by simp)]at hy
   simp at hy
   subst hy
   rw[iY]at hq'
   injection hq' with hq'
   subst hq'
   exact .inl ⟨rfl,hnP⟩
 ·rw[anH,anC,h.pre q]
  constructor
  ·rintro((h2|h2|h2)|h2)
   ·exact .inl h2
   ·exact .inr (.inl h2)
   ·exact .inr (.inr (h2.trans (List.prefix_append _ _)))
   ·exact .inr (.inr (h2▸List.prefix_refl _))
  ·rintro(h2|h2|h2)
   ·exact .inl (.inl h2)
   ·exact .inl (.inr (.inl h2))
   ·rcases List.prefix_concat_iff.1 h2 with h3|h3
    ·exact .inr h3
    ·exact .inl (.inr (.inr h3))
theorem aao.VQ{tr:List be}{G9:List (List Bool)}{P:List (Nat×List Bool)}{w:List Bool}(h:aao tr G9 P w){at_:Nat}{x:be}(hx:tr[at_]? =some x)(hq:G9[at_]? =some w)(s:Nat):
  aao (tr.set at_ ⟨x.a,x.b,s⟩) G9 ((s,w)::P) []:=by
 obtain⟨u0,_⟩:=anu.1 hx
 refine⟨by simp[h.len],h.root,h.nd,fun i y q c hy hq'=>?_,fun i y q hy hq'=>?_,fun q=>?_⟩
 ·by_cases hia:i=at_
  ·subst hia
   rw[anB u0]at hy
   injection hy with hy
   subst hy
   exact h.Ov i x q c hx hq'
  ·rw[anA (Ne.symm hia)]at hy
   exact h.Ov i y q c hy hq'
 ·by_cases hia:i=at_
  ·subst hia
   rw[anB u0]at hy
   injection hy with hy
   subst hy
   rw[hq]at hq'
   injection hq' with hq'
   subst hq'
   exact .inr ⟨s,rfl,by simp⟩
  ·rw[anA (Ne.symm hia)]at hy
   have hqw:q≠w:=fun e=>hia (ac1 h.nd (e▸hq') hq)
   rcases h.sym i y q hy hq' with ⟨h1,h2⟩| ⟨s',h1,h2⟩
   ·left
    refine⟨h1,fun s' hm=>?_⟩
    rcases anF.1 hm with hm|hm
    ·injection hm with _ hm;exact hqw hm
    ·exact h2 s' hm
   ·exact .inr ⟨s',h1,anZ _ h2⟩
 ·rw[h.pre q]
  constructor
  ·rintro(h2| ⟨s',v,h2,h3⟩|h2)
   ·exact .inl h2
   ·exact .inr (.inl ⟨s',v,anZ _ h2,h3⟩)
   ·exact .inr (.inl ⟨s,w,by simp,h2⟩)
  ·rintro(h2| ⟨s',v,h2,h3⟩|h2)
   ·exact .inl h2
   ·rcases anF.1 h2 with h2|h2
    ·injection h2 with _ h2
     subst h2
     exact .inr (.inr h3)
    ·exact .inr (.inl ⟨s',v,h2,h3⟩)
   ·exact .inl (List.prefix_nil.1 h2)
structure adA(tr:List be)(G9:List (List Bool))(ws:List (List Bool)):Prop where
 adm:∃P,aao tr G9 P []∧∀s w,(s,w)∈P↔ws[s]? =some w
structure ac2(G9:List (List Bool))(ws:List (List Bool))(out:List Nat)(cur:List Bool)(at_:Nat):Prop where
 path:G9[at_]? =some cur
 open_:∀w∈ws,¬w<+:cur
 inw:InW ws out
theorem adA.at{tr:List be}{G9 ws:List (List Bool)}(h:adA tr G9 ws){k:Nat}{q:List Bool}(hq:G9[k]? =some q):∃x,tr[k]? =some x:=by
 obtain⟨P,t,_⟩:=h.adm
 exact⟨_,ans (by rw[t.len];exact(anu.1 hq).1)⟩
theorem ac2.begin{tr:List be}{G9 ws:List (List Bool)}(h:adA tr G9 ws)(hf:aaN ws):ac2 G9 ws [] [] 0:=by
 obtain⟨P,t,_⟩:=h.adm
 exact⟨t.root,fun w hw hp=>hf.ne w hw (List.prefix_nil.1 hp),by intro s hs;cases hs⟩
theorem ac2.fail{tr:List be}{G9 ws:List (List Bool)}(h:adA tr G9 ws)(hf:aaN ws){out:List Nat}{cur:List Bool}{at_:Nat}(r:ac2 G9 ws out cur at_){x:be}(hx:tr[at_]? =some x){c:Bool}(hn:x.nx c=0)(rest:List Bool):
  ∀aaj,InW ws aaj→bitsOf ws out++(cur++c::rest)≠bitsOf ws aaj:=by
 obtain⟨P,t,hP⟩:=h.adm
 have bK:cur++[c]∉G9:=by
  rcases t.Ov at_ x cur c hx r.path with ⟨_,h1⟩| ⟨h1,_⟩
  ·exact h1
  ·exact absurd hn h1
 refine hf.stuck r.inw (by simp) fun w hw hp=>?_
 obtain⟨s,hs⟩:=an6 hw
 have p2:cur++[c]<+:cur++c::rest:=⟨rest,by simp⟩
 have bad:cur++[c]<+:w→False:=fun hq=>bK ((t.pre _).2 (.inr (.inl ⟨s,w,(hP s w).2 hs,hq⟩)))
 rcases List.prefix_or_prefix_of_prefix hp p2 with h3|h3
 ·rcases List.prefix_concat_iff.1 h3 with h4|h4
  ·exact bad (h4▸List.prefix_refl _)
  ·exact r.open_ w hw h4
 ·exact bad h3
theorem ac2.go{tr:List be}{G9 ws:List (List Bool)}(h:adA tr G9 ws)(hf:aaN ws){out:List Nat}{cur:List Bool}{at_:Nat}(r:ac2 G9 ws out cur at_){x y:be}(hx:tr[at_]? =some x){c:Bool}(hn:x.nx c≠0)(hy:tr[x.nx c]? =some y):
  (y.s= -1∧ac2 G9 ws out (cur++[c]) (x.nx c))∨∃s:Nat,y.s=(s:Int)∧s<ws.length∧ac2 G9 ws (out++[s]) [] 0∧bitsOf ws (out++[s])=bitsOf ws out++(cur++[c]):=by
 obtain⟨P,t,hP⟩:=h.adm
 have hq:G9[x.nx c]? =some (cur++[c]):=by
  rcases t.Ov at_ x cur c hx r.path with ⟨h1,_⟩| ⟨_,h1⟩
  ·exact absurd h1 hn
  ·exact h1
 rcases t.sym _ y _ hy hq with ⟨h1,h2⟩| ⟨s,h1,h2⟩
 ·left
  refine⟨h1,hq,fun w hw hp=>?_,r.inw⟩
  rcases List.prefix_concat_iff.1 hp with h4|h4
  ·obtain⟨s,hs⟩:=an6 hw
   exact h2 s ((hP s _).2 (h4▸hs))
  ·exact r.open_ w hw h4
 ·right
  have hs:=(hP s _).1 h2
  have aO:=(anu.1 hs).1
  refine⟨s,h1,aO,⟨t.root,fun w hw hp=>hf.ne w hw (List.prefix_nil.1 hp),fun z hz=>?_⟩,?_⟩
  ·rcases anH.1 hz with hz|hz
   ·exact r.inw z hz
   ·rw[anC.1 hz];exact aO
  ·rw[af2,A4,adS hs]
   show bitsOf ws out++((cur++[c])++[])=_
   rw[aon]
theorem ac2.left{tr:List be}{G9 ws:List (List Bool)}(h:adA tr G9 ws)(hf:aaN ws){out:List Nat}{cur:List Bool}{at_:Nat}(r:ac2 G9 ws out cur at_)(h0:at_≠0):
  ∀aaj,InW ws aaj→bitsOf ws out++cur≠bitsOf ws aaj:=by
 obtain⟨P,t,hP⟩:=h.adm
 refine hf.stuck r.inw (fun e=>?_) r.open_
 have hp:=r.path
 rw[e]at hp
 exact h0 (ac1 t.nd hp t.root)
theorem ac2.whole{tr:List be}{G9 ws:List (List Bool)}(h:adA tr G9 ws){out:List Nat}{cur:List Bool}(r:ac2 G9 ws out cur 0):cur=[]:=by
 obtain⟨P,t,hP⟩:=h.adm
 have hp:=r.path
 rw[t.root]at hp
 injection hp with hp
 exact hp.symm
end Go.Proofs.YtjlnnljohemifaaGreat

namespace Go.Proofs.YtjlnnljohemifaaGreat
theorem aeY{r:Nat→Nat→Prop}(vk:∀a,¬r a a)(tr:∀a b c,r a b→r b c→r a c):∀l1 l2:List Nat,l1.Pairwise r→l2.Pairwise r→(∀a,a∈l1↔a∈l2)→l1=l2:=by
 intro l1
 induction l1 with
 |nil=>
  intro l2 _ _ h
  cases l2 with
  |nil=>rfl
  |cons b l2=>have:=(h b).2 (by simp);simp at this
 |cons a l1 ih=>
  intro l2 h1 h2 h
  cases l2 with
  |nil=>have:=(h a).1 (by simp);simp at this
  |cons b l2=>
   rw[aoR]at h1 h2
   have zI:a=b:=by
    rcases anF.1 ((h a).1 (by simp))with e|e
    ·exact e
    ·rcases anF.1 ((h b).2 (by simp))with e'|e'
     ·exact e'.symm
     ·exact absurd (tr _ _ _ (h1.1 b e') (h2.1 a e)) (vk a)
   subst zI
   rw[ih l2 h1.2 h2.2 fun x=>?_]
   constructor
   ·intro hx
    rcases anF.1 ((h x).1 (anZ _ hx))with e|e
    ·subst e;exact absurd (h1.1 x hx) (vk x)
    ·exact e
   ·intro hx
    rcases anF.1 ((h x).2 (anZ _ hx))with e|e
    ·subst e;exact absurd (h2.1 x hx) (vk x)
    ·exact e
def aax(l:List Nat)(s t:Nat):Prop:=l.getD s 0<l.getD t 0∨(l.getD s 0=l.getD t 0∧s<t)
theorem adV(l:List Nat)(a:Nat):¬aax l a a:=by unfold aax;omega
theorem aii(l:List Nat)(a b c:Nat):aax l a b→aax l b c→aax l a c:=by unfold aax;omega
def aft(l:List Nat)(m:Nat):List Nat:=(List.range m).flatMap fun n=>(List.range l.length).filter fun s=>decide (l.getD s 0=n+1)
def af5(l:List Nat):List Nat:=aft l 128
theorem ahd(l:List Nat)(m:Nat):aft l (m+1)=aft l m++(List.range l.length).filter fun s=>decide (l.getD s 0=m+1):=by unfold aft;rw[apA,List.flatMap_append];simp
theorem ac3(l:List Nat)(m s:Nat):s∈aft l m↔s<l.length∧1≤l.getD s 0∧l.getD s 0≤m:=by
 unfold aft
 rw[List.mem_flatMap]
 constructor
 ·rintro⟨n,hn,hs⟩
  rw[aop,aoy,anU]at hs
  rw[aoy]at hn
  omega
 ·rintro⟨h1,h2,h3⟩
  exact⟨l.getD s 0 - 1,aoy.2 (by omega),aop.2 ⟨aoy.2 h1,anI (by omega)⟩⟩
theorem ahJ(n:Nat):(List.range n).Pairwise (· < ·):=List.pairwise_lt_range
theorem aap(l:List Nat):∀m,(aft l m).Pairwise (aax l):=by
 intro m
 induction m with
 |zero=>simp[aft]
 |succ m ih=>
  rw[ahd,apk]
  refine⟨ih,?_,fun a ha b hb=>?_⟩
  ·have h1:((List.range l.length).filter fun s=>decide (l.getD s 0=m+1)).Pairwise (· < ·):=(ahJ _).filter _
   refine List.Pairwise.imp_of_mem (fun{a b} ha hb h=>?_) h1
   have e1:=of_decide_eq_true (aop.1 ha).2
   have e2:=of_decide_eq_true (aop.1 hb).2
   exact .inr ⟨by omega,h⟩
  ·have e1:=(ac3 l m a).1 ha
   have e2:=of_decide_eq_true (aop.1 hb).2
   exact .inl (by omega)
structure af7(l:List Nat):Prop where
 low:∀n∈l,1≤n∧n≤128
 room:lB 128 l≤2^128
theorem aay{l:List Nat}{s:Nat}(h:s<l.length):l.getD s 0∈l:=by
 rw[anx,ans h]
 exact List.getElem_mem h
theorem aiR{l o:List Nat}(h:∀n∈l,1≤n∧n≤128)(hp:o.Perm (List.range l.length))(hs:o.Pairwise (aax l)):o=af5 l:=by
 refine aeY (adV l) (aii l) _ _ hs (aap l 128) fun a=>?_
 rw[hp.mem_iff,aoy]
 unfold af5
 rw[ac3]
 exact⟨fun ha=>⟨ha,h _ (aay ha)⟩,fun ha=>ha.1⟩
def aaB(l:List Nat)(st:List Bool×List (List Bool))(s:Nat):List Bool×List (List Bool):=(Hr (l.getD s 0) (w9 st.1),st.2.set s (Hr (l.getD s 0) (w9 st.1)))
def aaG(l o:List Nat):List Bool×List (List Bool):=o.foldl (aaB l) ([],List.replicate l.length [])
theorem aiF(l:List Nat):∀ (o:List Nat) (last:List Bool) (out:List (List Bool)),o.Nodup→(∀s∈o,s<out.length)→
  (o.foldl (aaB l) (last,out)).2.length=out.length∧(∀j s:Nat,o[j]? =some s→(o.foldl (aaB l) (last,out)).2[s]? =(A9 last (o.map fun s=>l.getD s 0))[j]?)∧∀s,s∉o→(o.foldl (aaB l) (last,out)).2[s]? =out[s]? :=by
 intro o
 induction o with
 |nil=>intro last out _ _;exact⟨rfl,fun j s h=>by simp at h,fun _ _=>rfl⟩
 |cons x o ih=>
  intro last out hn hb
  rw[anN]at hn
  have hx:=hb x (by simp)
  obtain⟨h1,h2,h3⟩:=ih (Hr (l.getD x 0) (w9 last)) (out.set x (Hr (l.getD x 0) (w9 last))) hn.2 (fun s hs=>by rw[anv];exact hb s (anZ _ hs))
  have e:(x::o).foldl (aaB l) (last,out)=o.foldl (aaB l) (Hr (l.getD x 0) (w9 last),out.set x (Hr (l.getD x 0) (w9 last))):=rfl
  rw[e]
  refine⟨by rw[h1,anv],fun j s hj=>?_,fun s hs=>?_⟩
  ·cases j with
   |zero=>
    simp only[anY,anE]at hj
    subst hj
    rw[h3 _ hn.1,anB hx]
    rfl
   |succ j=>
    rw[aov]at hj
    rw[h2 j s hj]
    rfl
  ·rw[anF,not_or]at hs
   rw[h3 s hs.2,anA (Ne.symm hs.1)]
theorem aeP(l:List Nat):(List.range l.length).map (fun s=>l.getD s 0)=l:=by
 apply aoo
 intro k
 rw[anR]
 by_cases hk:k<l.length
 ·rw[List.getElem?_range hk,ans hk,Option.map_some,anx,ans hk];rfl
 ·rw[anK (by simp;omega),anK (by omega)];rfl
theorem aeR{l o:List Nat}(h:af7 l)(hp:o.Perm (List.range l.length))(hs:o.Pairwise (aax l)):(aaG l o).2.length=l.length∧(∀s w,(aaG l o).2[s]? =some w→w.length=l.getD s 0)∧aaN (aaG l o).2:=by
 have hn:o.Nodup:=List.Nodup.perm List.nodup_range hp.symm
 have bL:∀s,s∈o↔s<l.length:=fun s=>by rw[hp.mem_iff,aoy]
 obtain⟨h1,h2,h3⟩:=aiF l o [] (List.replicate l.length []) hn (fun s hs=>by rw[aog];exact(bL s).1 hs)
 have e:(aaG l o).2=(o.foldl (aaB l) ([],List.replicate l.length [])).2:=rfl
 rw[←e]at h1 h2 h3
 rw[aog]at h1
 have sE:∀n∈o.map (fun s=>l.getD s 0),1≤n∧n≤128:=fun n hn=>by
  obtain⟨s,hs,rfl⟩:=anS.1 hn
  exact h.low _ (aay ((bL s).1 hs))
 have rU:(o.map fun s=>l.getD s 0).Pairwise (· ≤ ·):=by
  rw[List.pairwise_map]
  exact hs.imp fun{a b} h=>by unfold aax at h;omega
 have RE:lB 128 (o.map fun s=>l.getD s 0)≤2^128:=by
  have hq:(o.map fun s=>l.getD s 0).Perm l:=by
   have:=hp.map fun s=>l.getD s 0
   rwa[aeP]at this
  rw[aeX 128 hq]
  exact h.room
 have find:∀s w,(aaG l o).2[s]? =some w→∃j,o[j]? =some s∧(A9 [] (o.map fun s=>l.getD s 0))[j]? =some w:=fun s w hw=>by
  have aO:s<l.length:=by have:=(anu.1 hw).1;omega
  obtain⟨j,hj⟩:=an6 ((bL s).2 aO)
  exact⟨j,hj,by rw[←h2 j s hj];exact hw⟩
 have len:∀s w,(aaG l o).2[s]? =some w→w.length=l.getD s 0:=fun s w hw=>by
  obtain⟨j,hj,hc⟩:=find s w hw
  have:=(aa9 sE rU RE hc).1
  rw[anR,hj]at this
  injection this with this
  exact this.symm
 refine⟨h1,len,⟨fun w hw e=>?_,fun i k w v hi hk aiS=>?_⟩⟩
 ·obtain⟨s,hs⟩:=an6 hw
  have h4:=len s w hs
  have aO:s<l.length:=by have:=(anu.1 hs).1;omega
  have:=(h.low _ (aay aO)).1
  rw[e]at h4
  have h4:0=l.getD s 0:=h4
  omega
 ·obtain⟨j,hj,hc⟩:=find i w hi
  obtain⟨j',hj',Kl⟩:=find k v hk
  by_cases e:j=j'
  ·subst e
   rw[hj]at hj'
   injection hj'
  ·exact absurd aiS (af1 sE rU RE hc Kl e)
end Go.Proofs.YtjlnnljohemifaaGreat

namespace Go.Proofs.YtjlnnljohemifaaGreat
def bytesOf(w:List Bool):List Nat:=(List.range (w.length / 8)).map fun j=>wE ((w.drop (8*j)).take 8)
theorem afu(w:List Bool):(bytesOf w).length=w.length / 8:=by simp[bytesOf]
theorem agb{w:List Bool}{j:Nat}(h:j<w.length / 8):(bytesOf w)[j]? =some (wE ((w.drop (8*j)).take 8)):=by
 unfold bytesOf
 rw[anR,List.getElem?_range h]
 rfl
theorem UI{q w:List Bool}(h:q.length=8):bytesOf (q++w)=wE q::bytesOf w:=by
 unfold bytesOf
 rw[anD,h,show(8+w.length) / 8=w.length / 8+1 by omega,List.range_succ_eq_map,aom,List.map_map]
 congr 1
 ·rw[Nat.mul_zero,List.drop_zero,List.take_left' h]
 ·apply apn
  intro j _
  show wE (((q++w).drop (8*(j+1))).take 8)=_
  rw[show 8*(j+1)=q.length+8*j by omega,List.drop_append,List.drop_eq_nil_of_le (by omega),aoB,Nat.add_sub_cancel_left]
def S5(n:Nat):Nat:=(8 - n%8)%8
def zo(w:List Bool):List Bool:=w++List.replicate (S5 w.length) false
theorem ahe(w:List Bool):(zo w).length=w.length+S5 w.length:=by simp[zo]
theorem ahh(w:List Bool):(zo w).length=8*((w.length+7) / 8):=by rw[ahe];unfold S5;omega
def adW(w:List Bool):List Nat:=S5 w.length::bytesOf (zo w)
theorem aiT{q:List Bool}(h:q.length≤8):wE q<256:=by
 have h1:=acX q
 have h2:2^q.length≤2^8:=Nat.pow_le_pow_right (by decide) h
 omega
end Go.Proofs.YtjlnnljohemifaaGreat

namespace Go.Proofs.YtjlnnljohemifaaGreat
theorem ahi:∀ {w v:List Bool},w.length=v.length→wE w=wE v→w=v:=by
 have:∀w v:List Bool,w.length=v.length→wE w.reverse=wE v.reverse→w=v:=by
  intro w
  induction w with
  |nil=>
   intro v hl _
   cases v with
   |nil=>rfl
   |cons b v=>simp at hl
  |cons a w ih=>
   intro v hl hv
   cases v with
   |nil=>simp at hl
   |cons b v=>
    rw[List.reverse_cons,List.reverse_cons,D8,D8]at hv
    have e1:a=b:=by cases a<;>cases b<;>simp at hv<;>first|rfl|omega
    subst e1
    rw[ih v (by simpa using hl) (by omega)]
 intro w v hl hv
 have:=this w.reverse v.reverse (by simpa using hl) (by rw[List.reverse_reverse,List.reverse_reverse];exact hv)
 simpa using this
theorem aij(f:Nat→Nat)(h0:f 0=0)(v:Nat):∀n,v<f n→∃k,k<n∧f k≤v∧v<f (k+1):=by
 intro n
 induction n with
 |zero=>intro h;omega
 |succ n ih=>
  intro h
  by_cases hn:v<f n
  ·obtain⟨k,h1,h2⟩:=ih hn
   exact⟨k,by omega,h2⟩
  ·exact⟨n,by omega,by omega,h⟩
theorem agf{M:Nat}{ns:List Nat}(h1:∀n∈ns,1≤n∧n≤M)(hp:ns.Pairwise (· ≤ ·))(hr:lB M ns=2^M){b:List Bool}(hb:b.length=M):∃ (k:Nat) (w:List Bool),(A9 [] ns)[k]? =some w∧w<+:b:=by
 have hv:wE b<lB M (ns.take ns.length):=by rw[an4,hr,←hb];exact acX b
 obtain⟨k,hk,k1,k2⟩:=aij (fun k=>lB M (ns.take k)) (by simp[aiO]) (wE b) ns.length hv
 have hkn:ns[k]? =some ns[k]:=ans hk
 rw[aa7 hkn]at k2
 have YO:k< (A9 [] ns).length:=by rw[abP];exact hk
 have hw:(A9 [] ns)[k]? =some (A9 [] ns)[k]:=ans YO
 generalize (A9 [] ns)[k]=w at hw
 obtain⟨e1,e2⟩:=aa9 h1 hp (by omega) hw
 rw[hkn]at e1
 injection e1 with e1
 have hM:=(h1 _ (List.getElem_mem hk)).2
 rw[e1]at k2 hM
 rw[←e2]at k1 k2
 refine⟨k,w,hw,?_⟩
 have hd:=acW (b.take w.length) (b.drop w.length)
 rw[List.take_append_drop,List.length_drop,hb]at hd
 have aO:=acX (b.drop w.length)
 rw[List.length_drop,hb]at aO
 have hP:0<2^ (M - w.length):=Nat.pow_pos (by omega)
 generalize 2^ (M - w.length)=P at*
 have Rm:wE (b.take w.length)=wE w:=by
  generalize wE (b.take w.length)=t at*
  generalize wE (b.drop w.length)=r at*
  generalize wE w=u at*
  have h3:u*P< (t+1)*P:=by rw[aoM];omega
  have h4:t*P< (u+1)*P:=by rw[aoM];omega
  have:=Nat.lt_of_mul_lt_mul_right h3
  have:=Nat.lt_of_mul_lt_mul_right h4
  omega
 have:b.take w.length=w:=ahi (by rw[aoj];omega) Rm
 rw[←this]
 exact List.take_prefix _ _
theorem agh{l o:List Nat}(h:af7 l)(aj6:lB 128 l=2^128)(hp:o.Perm (List.range l.length))(hs:o.Pairwise (aax l)){b:List Bool}(hb:b.length=128):∃ (s:Nat) (w:List Bool),(aaG l o).2[s]? =some w∧w<+:b:=by
 have hn:o.Nodup:=List.Nodup.perm List.nodup_range hp.symm
 have bL:∀s,s∈o↔s<l.length:=fun s=>by rw[hp.mem_iff,aoy]
 have ZL:(o.map fun s=>l.getD s 0).Perm l:=by
  have:=hp.map (fun s=>l.getD s 0)
  rwa[aeP]at this
 obtain⟨_,f2,_⟩:=aiF l o [] (List.replicate l.length []) hn (fun s hs=>by rw[aog];exact(bL s).1 hs)
 obtain⟨k,w,hk,hw⟩:=agf (M:=128) (ns:=o.map fun s=>l.getD s 0) (fun n hn=>h.low n (ZL.mem_iff.1 hn)) (by
  rw[List.pairwise_map]
  exact hs.imp fun{a b} zI=>by unfold aax at zI;omega) (by rw[aeX 128 ZL];exact aj6) hb
 have YO:k<o.length:=by
  have:=(anu.1 hk).1
  rw[abP,anQ]at this
  exact this
 refine⟨o[k],w,?_,hw⟩
 have:=f2 k o[k] (ans YO)
 rw[hk]at this
 exact this
theorem ahj{ws:List (List Bool)}(aP:∀w∈ws,w≠[])(EW:∀w∈ws,w.length≤128)(hf:∀b:List Bool,b.length=128→∃ (s:Nat) (w:List Bool),ws[s]? =some w∧w<+:b):
  ∀ (n:Nat) (b:List Bool),b.length≤n→∃k ss,k≤128∧InW ws ss∧bitsOf ws ss=b++List.replicate k false:=by
 intro n
 induction n with
 |zero=>
  intro b hb
  have:b=[]:=an5.1 (by omega)
  subst this
  exact⟨0,[],by omega,fun s hs=>(by cases hs),rfl⟩
 |succ n ih=>
  intro b hb
  by_cases h0:b=[]
  ·subst h0
   exact⟨0,[],by omega,fun s hs=>(by cases hs),rfl⟩
  obtain⟨s,w,hw,aiS⟩:=hf ((b++List.replicate 128 false).take 128) (by rw[aoj];simp)
  have hwm:=anz hw
  have hwl:=EW w hwm
  have hws:s<ws.length:=(anu.1 hw).1
  have aj7:w<+:b++List.replicate 128 false:=aiS.trans (List.take_prefix _ _)
  have heq:w=(b++List.replicate 128 false).take w.length:=List.prefix_iff_eq_take.1 aj7
  by_cases oY:w.length≤b.length
  ·rw[List.take_append_of_le_length oY]at heq
   have fY:0<w.length:=List.length_pos_iff.2 (aP w hwm)
   obtain⟨k,ss,h1,h2,h3⟩:=ih (b.drop w.length) (by rw[List.length_drop];omega)
   refine⟨k,s::ss,h1,fun t ht=>?_,?_⟩
   ·rcases anF.1 ht with rfl|ht
    ·exact hws
    ·exact h2 t ht
   ·rw[A4,h3,adS hw,←apq]
    congr 1
    conv=>lhs;rw[heq]
    rw[aoj,aoQ oY,List.take_append_drop]
  ·refine⟨w.length - b.length,[s],by omega,fun t ht=>by rw[anC.1 ht];exact hws,?_⟩
   rw[A4,adS hw]
   show w++[]=_
   rw[aon]
   conv=>lhs;rw[heq]
   rw[List.take_append,List.take_of_length_le (by omega),List.take_replicate,aoQ (by omega)]
end Go.Proofs.YtjlnnljohemifaaGreat

namespace Go.Proofs.YtjlnnljohemifaaGreat
theorem ahk{n:Nat}{f:Nat→Nat}(h:∀i,i<n→f i=0):BF n f=0:=by
 induction n with
 |zero=>rfl
 |succ n ih=>rw[jT,ih (fun i hi=>h i (by omega)),h n (by omega)]
theorem aeS{n:Nat}{f:Nat→Int}(h:∀i,i<n→f i=0):xT n f=0:=by
 induction n with
 |zero=>rfl
 |succ n ih=>rw[pj,ih (fun i hi=>h i (by omega)),h n (by omega)];rfl
theorem ahK{n k:Nat}(hk:k<n)(f:Nat→Int):xT n (fun i=>if i=k then f i else 0)=f k:=by
 induction n with
 |zero=>omega
 |succ n ih=>
  rw[pj]
  by_cases h:k=n
  ·rw[aeS (fun i hi=>by rw[if_neg (by omega)]),if_pos h.symm,h];omega
  ·rw[ih (by omega),if_neg (by omega)];omega
theorem ahM{n k:Nat}(hk:k<n)(f:Nat→Nat):BF n (fun i=>if i=k then f i else 0)=f k:=by
 induction n with
 |zero=>omega
 |succ n ih=>
  rw[jT]
  by_cases h:k=n
  ·rw[ahk (fun i hi=>by rw[if_neg (by omega)]),if_pos h.symm,h];omega
  ·rw[ih (by omega),if_neg (by omega)];omega
def adX(ws:List Int):List Nat:=(List.range ws.length).map (Du (ws.length - 1) (ZG ws)).d
theorem EM.inj{l:List (Int×Nat)}(h:EM l){p q:Int×Nat}(hp:p∈l)(hq:q∈l)(e:p.2=q.2):p=q:=by
 induction l with
 |nil=>cases hp
 |cons c r ih=>
  have h2:=aoR.1 h
  rcases anF.1 hp with rfl|hp
  ·rcases anF.1 hq with rfl|hq
   ·rfl
   ·have:=h2.1 q hq;omega
  ·rcases anF.1 hq with e2|hq
   ·have:=h2.1 p hp;rw[e2]at e;omega
   ·exact ih h2.2 hp hq
theorem Ys.eq{p q:Int×Nat}{l:List (Int×Nat)}(h:EM l)(h1:Ys p l)(h2:Ys q l):p=q:=by
 by_cases e:p.2=q.2
 ·exact h.inj h1.m h2.m e
 ·have a:=h1.l q h2.m (Ne.symm e)
  have b:=h2.l p h1.m e
  omega
theorem aaP(ws:List Int):(List.range ws.length).map (fun i=>ws.getD i 0)=ws:=by
 apply aoo
 intro i
 rw[anR]
 by_cases h:i<ws.length
 ·rw[List.getElem?_range h,ans h]
  simp[anx,ans h]
 ·rw[anK (by simp;omega),anK (by omega)]
  rfl
theorem Te.init(ws:List Int):Te ws 0 (ZG ws):=by
 have hm:∀p∈(ZG ws).eR,p.2<ws.length∧p.1=ws.getD p.2 0:=fun p hp=>by
  obtain⟨i,hi,rfl⟩:=anS.1 hp
  exact⟨aoy.1 hi,rfl⟩
 refine⟨?_,fun p hp=>(hm p hp).1,rfl,?_,fun i hi=>⟨⟨(ws.getD i 0,i),anS.2 ⟨i,aoy.2 hi,rfl⟩,rfl⟩,anG _⟩,fun p _=>⟨rfl,rfl⟩,fun i hi h=>absurd rfl h,fun p hp=>?_,fun i _=>anG _,fun p hp=>?_,fun c hc=>?_⟩
 ·unfold EM ZG
  rw[List.pairwise_map]
  exact List.pairwise_lt_range
 ·simp[ZG]
 ·obtain⟨h1,h2⟩:=hm p hp
  rw[h2]
  exact ahK h1 (fun i=>ws.getD i 0)
 ·obtain⟨h1,h2⟩:=hm p hp
  exact ahM h1 (fun _=>2^ (ws.length - 0))
 ·have h1:(ZG ws).eR.map (·.1)=ws:=by
   unfold ZG
   rw[List.map_map]
   exact aaP ws
  rw[h1]at hc
  rw[aeS (fun i _=>by show ws.getD i 0*((0:Nat):Int)=0;simp),Int.add_zero]
  exact hc
theorem Te.run(ws:List Int):∀k,k<ws.length→Te ws k (Du k (ZG ws)):=by
 intro k
 induction k with
 |zero=>intro _;exact Te.init ws
 |succ k ih=>intro hk;exact(ih (by omega)).step hk
end Go.Proofs.YtjlnnljohemifaaGreat

namespace Go.Proofs.YtjlnnljohemifaaGreat
structure agn(ws:List Int)(s:LZ):Prop where
 at_:s.at_=2*ws.length - 1
 root:∀i,i<s.at_→s.R i=2*ws.length - 2
 Ra:s.d (2*ws.length - 2)=0
 up:∀i,i<2*ws.length - 2→i<s.up i∧s.up i≤2*ws.length - 2∧s.d i=s.d (s.up i)+1
 dl:∀i,i<s.at_→s.d i≤ws.length - 1
 kr:BF ws.length (fun i=>2^ (ws.length - s.d i))=2^ws.length
 huf:IH ws (xT ws.length (fun i=>ws.getD i 0*(s.d i:Int)))
theorem agn.VQ{ws:List Int}(hn:1≤ws.length):agn ws (OK ws):=by
 have h:=Te.run ws (ws.length - 1) (by omega)
 unfold OK
 generalize Du (ws.length - 1) (ZG ws)=s at*
 have u0:=h.at_
 have hl:=h.len
 obtain⟨p,hp⟩:∃p,s.eR=[p]:=by
  match s.eR,hl with
  | [p],_=>exact⟨p,rfl⟩
  | [],hl=>simp at hl;omega
  |_::_::_,hl=>simp at hl;omega
 have vw:p∈s.eR:=by rw[hp];simp
 have NS:=h.lt p vw
 have hR:∀i,i<s.at_→s.R i=p.2∧i≤p.2:=fun i hi=>by
  obtain⟨⟨q,hq,e⟩,h2⟩:=h.rt i hi
  rw[hp,anC]at hq
  rw[hq]at e
  omega
 have sL:p.2=2*ws.length - 2:=by
  have:=(hR (s.at_ - 1) (by omega)).2
  omega
 obtain⟨_,hd⟩:=h.OJ p vw
 refine⟨by omega,fun i hi=>by rw[(hR i hi).1,sL],by rw[←sL];exact hd,fun i hi=>?_,fun i hi=>h.dl i hi,?_,?_⟩
 ·obtain⟨u1,u2,u3,u4⟩:=h.upI i (by omega) (by rw[(hR i (by omega)).1];omega)
  exact⟨u1,by omega,u4⟩
 ·rw[←h.kr p vw]
  exact EK fun i hi=>by rw[if_pos (hR i (by omega)).1]
 ·have:=h.huf 0 (by rw[hp];exact .one _)
  rwa[Int.zero_add]at this
theorem aiU(M n:Nat)(d:Nat→Nat):lB M ((List.range n).map d)=BF n fun i=>2^ (M - d i):=by
 unfold lB BF
 rw[List.map_map]
 rfl
theorem ahN(ws:List Int):(adX ws).length=ws.length:=by unfold adX;simp
theorem ae0{ws:List Int}(hn:1≤ws.length):∀n∈adX ws,n≤ws.length - 1:=by
 intro n h
 obtain⟨i,hi,rfl⟩:=anS.1 h
 have hi:=aoy.1 hi
 exact(agn.VQ hn).dl i (by rw[(agn.VQ hn).at_];omega)
theorem afv{ws:List Int}(hn:2≤ws.length):∀n∈adX ws,1≤n:=by
 intro n h
 obtain⟨i,hi,rfl⟩:=anS.1 h
 have hi:=aoy.1 hi
 have:=(agn.VQ (ws:=ws) (by omega)).up i (by omega)
 show 1≤(OK ws).d i
 omega
theorem ahl{ws:List Int}(hn:1≤ws.length):lB ws.length (adX ws)=2^ws.length:=by
 unfold adX
 rw[aiU]
 exact(agn.VQ hn).kr
theorem afy{n:Nat}{f:Nat→Int}(h:∀i,i<n→0≤f i):0≤xT n f:=by
 induction n with
 |zero=>exact aoX _
 |succ n ih=>
  rw[pj]
  have:=ih fun i hi=>h i (by omega)
  have:=h n (by omega)
  omega
end Go.Proofs.YtjlnnljohemifaaGreat
