/-
  Texts put behind each other by a program: Kraft, HufO, HufI, HufE.
-/
set_option linter.unusedVariables false
set_option linter.unusedSimpArgs false
namespace Go.Proofs.YtjlnnljohemifaaGreat
def kS(M:Nat)(ns:List Nat):Nat:=(ns.map fun n=>2^ (M - n)).sum
theorem Bq(M n:Nat)(ns:List Nat):kS M (n::ns)=2^ (M - n)+kS M ns:=by unfold kS;simp
theorem QZ(M:Nat)(a b:List Nat):kS M (a++b)=kS M a+kS M b:=by unfold kS;simp
theorem Js(M:Nat){a b:List Nat}(h:a.Perm b):kS M a=kS M b:=by unfold kS;exact(h.map _).sum_nat
theorem Q0(M d:Nat):∀ns:List Nat,(∀n∈ns,n≤M)→kS (M+d) ns=2^d*kS M ns:=by
 intro ns
 induction ns with
 |nil=>intro _;simp[kS]
 |cons n ns ih=>
  intro h
  have hn:=h n (by simp)
  rw[Bq,Bq,ih fun x hx=>h x (List.mem_cons_of_mem _ hx),Nat.mul_add,←Nat.pow_add,show M+d - n=d+(M - n) by omega]
def IU(M:Nat)(ns:List Nat):Int:=if 2^M<kS M ns then 1 else if kS M ns=2^M then 0 else -1
theorem Q1(M d:Nat){ns:List Nat}(h:∀n∈ns,n≤M):IU (M+d) ns=IU M ns:=by
 unfold IU
 have hp:0<2^d:=Nat.pow_pos (by omega)
 have e1:2^ (M+d)<kS (M+d) ns↔2^M<kS M ns:=by
  rw[Q0 M d ns h,Nat.pow_add,Nat.mul_comm (2^M)]
  exact Nat.mul_lt_mul_left hp
 have e2:kS (M+d) ns=2^ (M+d)↔kS M ns=2^M:=by
  rw[Q0 M d ns h,Nat.pow_add,Nat.mul_comm (2^M)]
  exact⟨Nat.eq_of_mul_eq_mul_left hp,fun e=>by rw[e]⟩
 simp only[e1,e2]
theorem Oi{M M':Nat}{ns:List Nat}(h:∀n∈ns,n≤M)(h':∀n∈ns,n≤M'):IU M ns=IU M' ns:=by
 rcases Nat.le_total M M' with hm|hm
 ·rw[show M'=M+(M' - M) by omega,Q1 _ _ h]
 ·rw[show M=M'+(M - M') by omega,Q1 _ _ h']
theorem Br(M:Nat){a b:List Nat}(h:a.Perm b):IU M a=IU M b:=by unfold IU;rw[Js M h]
structure eF(M:Nat)(ns:List Nat)(j free at_:Nat):Prop where
 le:free*2^ (M - at_)+kS M (ns.take j)≤2^M
 ex:free*2^ (M - at_)+kS M (ns.take j)=2^M∨ns.length<free+j
 low:at_≤M
theorem eF.begin(M:Nat)(ns:List Nat):eF M ns 0 1 0:=⟨by simp[kS],.inl (by simp[kS]),Nat.zero_le _⟩
theorem eF.double{M:Nat}{ns:List Nat}{j free at_:Nat}(h:eF M ns j free at_)(aR:at_<M):eF M ns j (free*2) (at_+1):=by
 have e:free*2*2^ (M - (at_+1))=free*2^ (M - at_):=by
  rw[Nat.mul_assoc,←Nat.pow_succ',show(M - (at_+1)).succ=M - at_ by omega]
 refine⟨by rw[e];exact h.le,?_,by omega⟩
 rw[e]
 rcases h.ex with h|h
 ·exact .inl h
 ·exact .inr (by omega)
theorem eF.jump{M:Nat}{ns:List Nat}{j free at_ n:Nat}(h:eF M ns j free at_)(hf:ns.length<free)(h1:at_≤n)(h2:n≤M):eF M ns j free n:=by
 refine⟨?_,.inr (by omega),h2⟩
 have:2^ (M - n)≤2^ (M - at_):=Nat.pow_le_pow_right (by omega) (by omega)
 exact Nat.le_trans (Nat.add_le_add_right (Nat.mul_le_mul_left _ this) _) h.le
theorem eF.Y8{M:Nat}{ns:List Nat}{j at_ n:Nat}(h:eF M ns j 0 at_)(h2:n≤M):eF M ns j 0 n:=by
 refine⟨?_,?_,h2⟩
 ·have:=h.le;simpa using this
 ·have:=h.ex;simpa using this
theorem Jt{M:Nat}{ns:List Nat}{j n:Nat}(hn:ns[j]? =some n):kS M (ns.take (j+1))=kS M (ns.take j)+2^ (M - n):=by
 rw[List.take_add_one,hn,QZ]
 simp[kS]
theorem MH(M:Nat)(ns:List Nat)(j:Nat):kS M (ns.take j)≤kS M ns:=by
 conv=>rhs;rw[←List.take_append_drop j ns,QZ]
 omega
theorem eF.use{M:Nat}{ns:List Nat}{j free n:Nat}(h:eF M ns j free n)(hn:ns[j]? =some n)(hf:0<free):eF M ns (j+1) (free - 1) n:=by
 have e:(free - 1)*2^ (M - n)+2^ (M - n)=free*2^ (M - n):=by
  rw[←Nat.succ_mul];congr 1;omega
 refine⟨?_,?_,h.low⟩
 ·rw[Jt hn]
  have:=h.le
  omega
 ·rw[Jt hn]
  rcases h.ex with h|h
  ·left;omega
  ·right;omega
theorem eF.none{M:Nat}{ns:List Nat}{j n:Nat}(h:eF M ns j 0 n){m:Nat}(hn:ns[j]? =some m):IU M ns=1:=by
 have hj:=(List.getElem?_eq_some_iff.1 hn).1
 have h1:=Jt (M:=M) hn
 have h2:=MH M ns (j+1)
 have h3:0<2^ (M - m):=Nat.pow_pos (by omega)
 unfold IU
 rw[if_pos]
 rcases h.ex with h|h
 ·rw[Nat.zero_mul]at h;omega
 ·omega
theorem eF.done{M:Nat}{ns:List Nat}{free at_:Nat}(h:eF M ns ns.length free at_):IU M ns=if free=0 then 0 else -1:=by
 have h1:=h.le
 have h2:=h.ex
 rw[List.take_length]at h1 h2
 unfold IU
 by_cases hf:free=0
 ·subst hf
  rw[Nat.zero_mul]at h1 h2
  have:kS M ns=2^M:=by omega
  rw[if_neg (by omega),if_pos this,if_pos rfl]
 ·have h3:0<free*2^ (M - at_):=Nat.mul_pos (by omega) (Nat.pow_pos (by omega))
  rw[if_neg (by omega),if_neg (by omega),if_neg hf]
end Go.Proofs.YtjlnnljohemifaaGreat

namespace Go.Proofs.YtjlnnljohemifaaGreat
def nj(P:List (Int×Nat)):Int:=(P.map fun p=>p.1*(p.2:Int)).sum
def vj(P:List (Int×Nat)):List Nat:=P.map (·.2)
theorem O3:nj []=0:=rfl
theorem dZ(p:Int×Nat)(P:List (Int×Nat)):nj (p::P)=p.1*(p.2:Int)+nj P:=by unfold nj;rw[List.map_cons,List.sum_cons]
theorem Q3{a b:List Int}(h:a.Perm b):a.sum=b.sum:=by
 induction h with
 |nil=>rfl
 |cons x _ ih=>rw[List.sum_cons,List.sum_cons,ih]
 |swap x y l=>simp only[List.sum_cons];omega
 |trans _ _ h1 h2=>rw[h1,h2]
theorem FU{P Q:List (Int×Nat)}(h:P.Perm Q):nj P=nj Q:=Q3 (h.map _)
theorem pJ(p:Int×Nat)(P:List (Int×Nat)):vj (p::P)=p.2::vj P:=rfl
theorem Q4{a w x y:Int}(h1:a≤w)(h2:x≤y):a*y+w*x≤a*x+w*y:=by
 have h:=Int.mul_nonneg (a:=w - a) (b:=y - x) (by omega) (by omega)
 rw[Int.sub_mul,Int.mul_sub,Int.mul_sub]at h
 omega
theorem Y9{a:Int}:∀ (R:List (Int×Nat)) (ma:Nat),(∀p∈R,a≤p.1)→
  ∃mx R',ma≤mx∧(mx::vj R').Perm (ma::vj R)∧R'.map (·.1)=R.map (·.1)∧(∀p∈R',p.2≤mx)∧a*(mx:Int)+nj R'≤a*(ma:Int)+nj R:=by
 intro R
 induction R with
 |nil=>intro ma _;exact⟨ma,[],Nat.le_refl _,List.Perm.refl _,rfl,by simp,Int.le_refl _⟩
 |cons p R ih=>
  obtain⟨w,m⟩:=p
  intro ma h
  have hw:a≤w:=h (w,m) (by simp)
  by_cases hm:ma<m
  ·obtain⟨mx,R',h1,h2,h3,h4,h5⟩:=ih m (fun q hq=>h q (by simp[hq]))
   refine⟨mx,(w,ma)::R',by omega,?_,by simp[h3],fun q hq=>?_,?_⟩
   ·rw[pJ,pJ]
    exact(List.Perm.swap _ _ _).trans (h2.cons ma)
   ·rcases List.mem_cons.1 hq with rfl|hq
    ·exact by show ma≤mx;omega
    ·exact h4 q hq
   ·rw[dZ,dZ]
    have:=Q4 hw (x:=(ma:Int)) (y:=(m:Int)) (by omega)
    simp only
    omega
  ·obtain⟨mx,R',h1,h2,h3,h4,h5⟩:=ih ma (fun q hq=>h q (by simp[hq]))
   refine⟨mx,(w,m)::R',h1,?_,by simp[h3],fun q hq=>?_,?_⟩
   ·rw[pJ,pJ]
    exact((List.Perm.swap _ _ _).trans (h2.cons m)).trans (List.Perm.swap _ _ _)
   ·rcases List.mem_cons.1 hq with rfl|hq
    ·exact by show m≤mx;omega
    ·exact h4 q hq
   ·rw[dZ,dZ]
    omega
theorem VA(M:Nat)(n:Nat)(ns:List Nat):1≤kS M (n::ns):=by
 rw[Bq]
 have:=Nat.pow_pos (a:=2) (n:=M - n) (by omega)
 omega
theorem Tp{a b:Int}{ma mb M:Nat}{R:List (Int×Nat)}(h0:0≤a)(zJ:a≤b)(hR:∀p∈R,a≤p.1∧b≤p.1)(hM:ma≤M∧mb≤M∧∀p∈R,p.2≤M)(hk:kS M (ma::mb::vj R)≤2^M):
  ∃m R',R'.map (·.1)=R.map (·.1)∧m≤M∧(∀p∈R',p.2≤M)∧kS M (m::vj R')≤2^M∧(a+b)*(m:Int)+nj R'+(a+b)≤a*(ma:Int)+(b*(mb:Int)+nj R):=by
 obtain⟨mx,R1,x1,x2,x3,x4,x5⟩:=Y9 (a:=a) ((b,mb)::R) ma (fun p hp=>by
  rcases List.mem_cons.1 hp with rfl|hp
  ·exact zJ
  ·exact(hR p hp).1)
 obtain⟨⟨b1,m1⟩,R2,rfl⟩:∃p R2,R1=p::R2:=by
  cases R1 with
  |nil=>simp at x3
  |cons p R2=>exact⟨p,R2,rfl⟩
 simp only[List.map_cons,List.cons.injEq]at x3
 obtain⟨rfl,x3⟩:=x3
 have C9:∀p∈R2,b1≤p.1:=fun p hp=>by
  have:p.1∈R2.map (·.1):=List.mem_map_of_mem hp
  rw[x3,List.mem_map]at this
  obtain⟨q,hq,e⟩:=this
  rw[←e];exact(hR q hq).2
 obtain⟨m2,R3,y1,y2,y3,y4,y5⟩:=Y9 (a:=b1) R2 m1 C9
 rw[pJ,pJ]at x2
 simp only at x2
 have cF:∀k∈m2::vj R3,k≤mx:=fun k hk=>by
  have h1:=y2.mem_iff.1 hk
  rcases List.mem_cons.1 h1 with rfl|h1
  ·exact x4 (b1,k) (by simp)
  ·obtain⟨q,hq,rfl⟩:=List.mem_map.1 h1
   exact x4 q (by simp[hq])
 have hmx:mx≤M:=by
  have h1:=x2.mem_iff.1 (show mx∈mx::m1::vj R2 by simp)
  rcases List.mem_cons.1 h1 with rfl|h1
  ·exact hM.1
  ·rcases List.mem_cons.1 h1 with rfl|h1
   ·exact hM.2.1
   ·obtain⟨q,hq,rfl⟩:=List.mem_map.1 h1
    exact hM.2.2 q hq
 have h2x:=cF m2 (by simp)
 have adw:∀n∈vj R3,n≤m2:=fun n hn=>by
  obtain⟨q,hq,rfl⟩:=List.mem_map.1 hn
  exact y4 q hq
 rw[Js M (x2.symm.trans (y2.symm.cons mx)),Bq]at hk
 obtain⟨d,rfl⟩:∃d,M=m2+d:=⟨M - m2,by omega⟩
 have hu:∀k,k≤m2→kS (m2+d) (k::vj R3)=2^d*kS m2 (k::vj R3):=fun k hk=>Q0 m2 d _ fun n hn=>by
  rcases List.mem_cons.1 hn with rfl|hn
  ·exact hk
  ·exact adw n hn
 rw[hu m2 (Nat.le_refl _),Nat.pow_add,Nat.mul_comm (2^m2)]at hk
 have iw:0<2^ (m2+d - mx):=Nat.pow_pos (by omega)
 have Za:0<2^d:=Nat.pow_pos (by omega)
 have aR:kS m2 (m2::vj R3)<2^m2:=by
  apply Nat.lt_of_mul_lt_mul_left (a:=2^d)
  omega
 have h1:=VA m2 m2 (vj R3)
 have hm2:1≤m2:=by
  rcases Nat.eq_zero_or_pos m2 with h|h
  ·rw[h]at aR h1;simp at aR;omega
  ·exact h
 refine⟨m2 - 1,R3,by rw[y3,x3],by omega,fun p hp=>by have:=y4 p hp;omega,?_,?_⟩
 ·rw[hu (m2 - 1) (by omega),Nat.pow_add,Nat.mul_comm (2^m2)]
  refine Nat.mul_le_mul_left _ ?_
  rw[Bq]at aR ⊢
  rw[Nat.sub_self,Nat.pow_zero]at aR
  rw[show m2 - (m2 - 1)=1 by omega,Nat.pow_one]
  omega
 ·rw[dZ,dZ]at x5
  simp only at x5
  have h3:=Int.mul_le_mul_of_nonneg_left (a:=(m2:Int)) (b:=(mx:Int)) (by omega) h0
  have h4:(a+b1)*((m2 - 1:Nat):Int)=a*(m2:Int)+b1*(m2:Int) - (a+b1):=by
   rw[show((m2 - 1:Nat):Int)=(m2:Int) - 1 by omega,Int.mul_sub,Int.mul_one,Int.add_mul]
  rw[h4]
  omega
theorem IV{α β:Type}{f:α→β}:∀ {l:List β} {Q:List α},(Q.map f).Perm l→∃Q',Q.Perm Q'∧Q'.map f=l:=by
 intro l
 induction l with
 |nil=>
  intro Q h
  have:=h.length_eq
  rw[List.length_map]at this
  exact⟨[],by rw[List.length_eq_zero_iff.1 this],rfl⟩
 |cons b l ih=>
  intro Q h
  obtain⟨q,hq,e⟩:=List.mem_map.1 (h.mem_iff.2 (List.mem_cons_self (a:=b) (l:=l)))
  obtain⟨s,t,rfl⟩:=List.append_of_mem hq
  have h1:((s++t).map f).Perm l:=by
   have h2:(s++q::t).Perm (q::(s++t)):=List.perm_middle
   have h3:=(h2.map f).symm.trans h
   rw[List.map_cons,e]at h3
   exact h3.cons_inv
  obtain⟨Q',p1,p2⟩:=ih h1
  exact⟨q::Q',List.perm_middle.trans (p1.cons q),by rw[List.map_cons,e,p2]⟩
inductive EO:List Int→Int→Prop
 |one (w:Int):EO [w] 0
 |step {P R:List Int} {a b c:Int} (hp:P.Perm (a::b::R)) (zJ:a≤b) (hR:∀r∈R,b≤r) (h:EO ((a+b)::R) c):EO P (c+(a+b))
theorem EO.perm{P Q:List Int}{c:Int}(h:EO P c)(hp:Q.Perm P):EO Q c:=by
 cases h with
 |one w=>rw[List.perm_singleton.1 hp];exact .one w
 |step h1 h2 h3 h4=>exact .step (hp.trans h1) h2 h3 h4
theorem EO.least{P:List Int}{c:Int}(h:EO P c):(∀w∈P,0≤w)→∀ (Q:List (Int×Nat)) (M:Nat),(Q.map (·.1)).Perm P→(∀p∈Q,p.2≤M)→kS M (vj Q)≤2^M→c≤nj Q:=by
 induction h with
 |one w=>
  intro hw Q M hQ _ _
  obtain⟨Q',p1,p2⟩:=IV hQ
  rw[FU p1]
  cases Q' with
  |nil=>cases p2
  |cons q t=>
   cases t with
   |cons _ _=>cases p2
   |nil=>
    rw[dZ,O3]
    have h1:q.1=w:=by simpa using p2
    have:=Int.mul_nonneg (hw w (by simp)) (show(0:Int)≤(q.2:Int) by omega)
    rw[h1]
    omega
 |step hp zJ hR h ih=>
  rename_i P R a b c
  intro hw Q M hQ hM hk
  obtain⟨Q',p1,p2⟩:=IV (hQ.trans hp)
  have C9:∀w∈a::b::R,0≤w:=fun w h=>hw w (hp.mem_iff.2 h)
  have ha:=C9 a (by simp)
  have hb:=C9 b (by simp)
  match Q',p2 with
  | (a1,ma)::(b1,mb)::Q2,p3=>
   simp only[List.map_cons,List.cons.injEq]at p3
   obtain⟨rfl,rfl,p3⟩:=p3
   have hm:∀p∈(a1,ma)::(b1,mb)::Q2,p.2≤M:=fun p hp=>hM p (p1.mem_iff.2 hp)
   have Ju:kS M (ma::mb::vj Q2)≤2^M:=by
    have h9:(vj Q).Perm (ma::mb::vj Q2):=p1.map _
    rw[←Js M h9]
    exact hk
   obtain⟨m,R',r1,r2,r3,r4,r5⟩:=Tp (R:=Q2) (M:=M) ha zJ (fun p hp=>by
    have h1:p.1∈R:=by rw[←p3];exact List.mem_map_of_mem hp
    have:=hR _ h1
    omega) ⟨hm (a1,ma) (by simp),hm (b1,mb) (by simp),fun p hp=>hm p (by simp[hp])⟩ Ju
   have h5:=ih (fun w hw=>by
    rcases List.mem_cons.1 hw with rfl|hw
    ·omega
    ·exact C9 w (by simp[hw])) ((a1+b1,m)::R') M (by rw[List.map_cons,r1,p3]) (fun p hp=>by
    rcases List.mem_cons.1 hp with rfl|hp
    ·exact r2
    ·exact r3 p hp) r4
   rw[FU p1,dZ,dZ]
   rw[dZ]at h5
   have h6:c≤(a1+b1)*(m:Int)+nj R':=h5
   have r6:(a1+b1)*(m:Int)+nj R'+(a1+b1)≤a1*(ma:Int)+(b1*(mb:Int)+nj Q2):=r5
   show c+(a1+b1)≤a1*(ma:Int)+(b1*(mb:Int)+nj Q2)
   omega
end Go.Proofs.YtjlnnljohemifaaGreat

namespace Go.Proofs.YtjlnnljohemifaaGreat
def gA(n:Nat)(f:Nat→Int):Int:=((List.range n).map f).sum
def tF(n:Nat)(f:Nat→Nat):Nat:=((List.range n).map f).sum
theorem dS(n:Nat)(f:Nat→Int):gA (n+1) f=gA n f+f n:=by
 unfold gA
 rw[List.range_succ,List.map_append,List.sum_append,List.map_singleton,List.sum_cons,List.sum_nil]
 omega
theorem fI(n:Nat)(f:Nat→Nat):tF (n+1) f=tF n f+f n:=by
 unfold tF
 rw[List.range_succ,List.map_append,List.sum_append,List.map_singleton,List.sum_cons,List.sum_nil]
 omega
theorem mC{n:Nat}{f g:Nat→Int}(h:∀i,i<n→f i=g i):gA n f=gA n g:=by
 induction n with
 |zero=>rfl
 |succ n ih=>rw[dS,dS,ih (fun i hi=>h i (by omega)),h n (by omega)]
theorem zK{n:Nat}{f g:Nat→Nat}(h:∀i,i<n→f i=g i):tF n f=tF n g:=by
 induction n with
 |zero=>rfl
 |succ n ih=>rw[fI,fI,ih (fun i hi=>h i (by omega)),h n (by omega)]
theorem sD(n:Nat)(f g:Nat→Int):gA n (fun i=>f i+g i)=gA n f+gA n g:=by
 induction n with
 |zero=>rfl
 |succ n ih=>rw[dS,dS,dS,ih];omega
theorem Q5(n:Nat)(f g:Nat→Nat):tF n (fun i=>f i+g i)=tF n f+tF n g:=by
 induction n with
 |zero=>rfl
 |succ n ih=>rw[fI,fI,fI,ih];omega
theorem Q6(n:Nat)(f:Nat→Nat):tF n (fun i=>2*f i)=2*tF n f:=by
 induction n with
 |zero=>rfl
 |succ n ih=>rw[fI,fI,ih];omega
theorem O4{n:Nat}{f:Nat→Nat}(h:∀i,i<n→f i=0):tF n f=0:=by
 induction n with
 |zero=>rfl
 |succ n ih=>rw[fI,ih (fun i hi=>h i (by omega)),h n (by omega)]
theorem IW{n:Nat}{f:Nat→Int}(h:∀i,i<n→f i=0):gA n f=0:=by
 induction n with
 |zero=>rfl
 |succ n ih=>rw[dS,ih (fun i hi=>h i (by omega)),h n (by omega)];rfl
theorem FV{n k:Nat}(hk:k<n)(f:Nat→Int):gA n (fun i=>if i=k then f i else 0)=f k:=by
 induction n with
 |zero=>omega
 |succ n ih=>
  rw[dS]
  by_cases h:k=n
  ·rw[IW (fun i hi=>by rw[if_neg (by omega)]),if_pos h.symm,h];omega
  ·rw[ih (by omega),if_neg (by omega)];omega
theorem Q7{n k:Nat}(hk:k<n)(f:Nat→Nat):tF n (fun i=>if i=k then f i else 0)=f k:=by
 induction n with
 |zero=>omega
 |succ n ih=>
  rw[fI]
  by_cases h:k=n
  ·rw[O4 (fun i hi=>by rw[if_neg (by omega)]),if_pos h.symm,h];omega
  ·rw[ih (by omega),if_neg (by omega)];omega
structure IX where
 bX:List (Int×Nat)
 at_:Nat
 R:Nat→Nat
 d:Nat→Nat
 up:Nat→Nat
def Oj(p:Int×Nat):List (Int×Nat)→Int×Nat
 | []=>p
 |q::r=>if q.1<p.1 then Oj q r else Oj p r
def VB:List (Int×Nat)→Int×Nat
 | []=>(0,0)
 |p::r=>Oj p r
def wo(l:List (Int×Nat))(p:Int×Nat):List (Int×Nat):=l.filter fun q=>decide (q.2≠p.2)
def IX.a(s:IX):Int×Nat:=VB s.bX
def IX.b(s:IX):Int×Nat:=VB (wo s.bX s.a)
def IX.step(s:IX):IX:=⟨wo (wo s.bX s.a) s.b++[(s.a.1+s.b.1,s.at_)],s.at_+1,
 fun i=>if i=s.at_ then i else if s.R i=s.a.2∨s.R i=s.b.2 then s.at_ else s.R i,
 fun i=>if i=s.at_ then 0 else if s.R i=s.a.2∨s.R i=s.b.2 then s.d i+1 else s.d i,
 fun i=>if i=s.a.2∨i=s.b.2 then s.at_ else s.up i⟩
def mh(ws:List Int):IX:=⟨(List.range ws.length).map (fun i=>(ws.getD i 0,i)),ws.length,id,fun _=>0,fun _=>0⟩
def rq:Nat→IX→IX
 |0,s=>s
 |k+1,s=>(rq k s).step
def yb(ws:List Int):List Nat:=(List.range ws.length).map (rq (ws.length - 1) (mh ws)).d
theorem Jv(p:Int×Nat):∀ (r:List (Int×Nat)),Oj p r∈p::r:=by
 intro r
 induction r generalizing p with
 |nil=>simp[Oj]
 |cons q r ih=>
  unfold Oj
  split
  ·exact List.mem_cons_of_mem _ (ih q)
  ·have:=ih p
   simp only[List.mem_cons]at this ⊢
   rcases this with h|h
   ·exact .inl h
   ·exact .inr (.inr h)
def zL(l:List (Int×Nat)):Prop:=l.Pairwise fun p q=>p.2<q.2
theorem VC(p:Int×Nat):∀ (r:List (Int×Nat)),zL (p::r)→∀q∈p::r,q.2≠(Oj p r).2→(Oj p r).1<q.1∨((Oj p r).1=q.1∧(Oj p r).2<q.2):=by
 intro r
 induction r generalizing p with
 |nil=>
  intro _ q hq aS
  rcases List.mem_cons.1 hq with rfl|hq
  ·exact absurd rfl aS
  ·cases hq
 |cons c r ih=>
  intro hr q hq aS
  have Bl:=List.pairwise_cons.1 hr
  have QD:=List.pairwise_cons.1 Bl.2
  unfold Oj at aS ⊢
  split at aS
  ·rename_i aR
   rw[if_pos aR]
   rcases List.mem_cons.1 hq with rfl|hq
   ·by_cases e:c.2=(Oj c r).2
    ·have hm:=Jv c r
     rcases List.mem_cons.1 hm with h|h
     ·rw[h];exact .inl aR
     ·have:=QD.1 _ h;omega
    ·rcases ih c Bl.2 c (by simp) e with h|h<;>exact .inl (by omega)
   ·exact ih c Bl.2 q hq aS
  ·rename_i aR
   rw[if_neg aR]
   have Zb:zL (p::r):=List.pairwise_cons.2 ⟨fun z hz=>Bl.1 z (by simp[hz]),QD.2⟩
   rcases List.mem_cons.1 hq with rfl|hq
   ·exact ih q Zb q (by simp) aS
   ·rcases List.mem_cons.1 hq with rfl|hq
    ·have Ol:=Bl.1 q (by simp)
     by_cases e:p.2=(Oj p r).2
     ·have hm:=Jv p r
      rcases List.mem_cons.1 hm with h|h
      ·rw[h];omega
      ·have:=Bl.1 _ (List.mem_cons_of_mem _ h);omega
     ·rcases ih p Zb p (by simp) e with h|h
      ·exact .inl (by omega)
      ·by_cases e2:(Oj p r).1=q.1
       ·exact .inr ⟨e2,by omega⟩
       ·exact .inl (by omega)
    ·exact ih p Zb q (by simp[hq]) aS
structure QE(p:Int×Nat)(l:List (Int×Nat)):Prop where
 m:p∈l
 l:∀q∈l,q.2≠p.2→p.1<q.1∨(p.1=q.1∧p.2<q.2)
theorem zL.inj{l:List (Int×Nat)}(h:zL l){p q:Int×Nat}(hp:p∈l)(hq:q∈l)(e:p.2=q.2):p=q:=by
 induction l with
 |nil=>cases hp
 |cons c r ih=>
  have h2:=List.pairwise_cons.1 h
  rcases List.mem_cons.1 hp with rfl|hp
  ·rcases List.mem_cons.1 hq with rfl|hq
   ·rfl
   ·have:=h2.1 q hq;omega
  ·rcases List.mem_cons.1 hq with e2|hq
   ·have:=h2.1 p hp;rw[e2]at e;omega
   ·exact ih h2.2 hp hq
theorem Om{l:List (Int×Nat)}(h:zL l)(h0:l≠[]):QE (VB l) l:=by
 cases l with
 |nil=>exact absurd rfl h0
 |cons p r=>exact⟨Jv p r,VC p r h⟩
theorem QE.eq{p q:Int×Nat}{l:List (Int×Nat)}(h:zL l)(h1:QE p l)(h2:QE q l):p=q:=by
 by_cases e:p.2=q.2
 ·exact h.inj h1.m h2.m e
 ·have a:=h1.l q h2.m (Ne.symm e)
  have b:=h2.l p h1.m e
  omega
theorem pL{l:List (Int×Nat)}{p q:Int×Nat}:q∈wo l p↔q∈l∧q.2≠p.2:=by unfold wo;rw[List.mem_filter];simp
theorem zL.wo{l:List (Int×Nat)}(h:zL l)(p:Int×Nat):zL (wo l p):=List.Pairwise.sublist List.filter_sublist h
theorem Bs{l:List (Int×Nat)}(h:zL l){p:Int×Nat}(hp:p∈l):l.Perm (p::wo l p):=by
 induction l with
 |nil=>cases hp
 |cons c r ih=>
  have h2:=List.pairwise_cons.1 h
  unfold wo
  rw[List.filter_cons]
  rcases List.mem_cons.1 hp with rfl|hp
  ·rw[if_neg (by simp)]
   have:r.filter (fun q=>decide (q.2≠p.2))=r:=by
    rw[List.filter_eq_self]
    intro q hq
    have:=h2.1 q hq
    simp
    omega
   rw[this]
  ·have hc:=h2.1 p hp
   rw[if_pos (by simp;omega)]
   exact((ih h2.2 hp).cons c).trans (List.Perm.swap _ _ _)
structure zM(ws:List Int)(k:Nat)(s:IX):Prop where
 ids:zL s.bX
 lt:∀p∈s.bX,p.2<s.at_
 at_:s.at_=ws.length+k
 len:s.bX.length+k=ws.length
 rt:∀i,i<s.at_→(∃p∈s.bX,p.2=s.R i)∧i≤s.R i
 Tq:∀p∈s.bX,s.R p.2=p.2∧s.d p.2=0
 upI:∀i,i<s.at_→s.R i≠i→i<s.up i∧s.up i<s.at_∧s.R i=s.R (s.up i)∧s.d i=s.d (s.up i)+1
 wt:∀p∈s.bX,gA ws.length (fun i=>if s.R i=p.2 then ws.getD i 0 else 0)=p.1
 dl:∀i,i<s.at_→s.d i≤k
 kr:∀p∈s.bX,tF ws.length (fun i=>if s.R i=p.2 then 2^ (ws.length - s.d i)else 0)=2^ws.length
 huf:∀c,EO (s.bX.map (·.1)) c→EO ws (c+gA ws.length (fun i=>ws.getD i 0*(s.d i:Int)))
theorem pM(ws:List Int):(List.range ws.length).map (fun i=>ws.getD i 0)=ws:=by
 apply List.ext_getElem?
 intro i
 rw[List.getElem?_map]
 by_cases h:i<ws.length
 ·rw[List.getElem?_range h,List.getElem?_eq_getElem h]
  simp[List.getD_eq_getElem?_getD,List.getElem?_eq_getElem h]
 ·rw[List.getElem?_eq_none (by simp;omega),List.getElem?_eq_none (by omega)]
  rfl
theorem zM.init(ws:List Int):zM ws 0 (mh ws):=by
 have hm:∀p∈(mh ws).bX,p.2<ws.length∧p.1=ws.getD p.2 0:=fun p hp=>by
  obtain⟨i,hi,rfl⟩:=List.mem_map.1 hp
  exact⟨List.mem_range.1 hi,rfl⟩
 refine⟨?_,fun p hp=>(hm p hp).1,rfl,?_,fun i hi=>⟨⟨(ws.getD i 0,i),List.mem_map.2 ⟨i,List.mem_range.2 hi,rfl⟩,rfl⟩,Nat.le_refl _⟩,fun p _=>⟨rfl,rfl⟩,fun i hi h=>absurd rfl h,fun p hp=>?_,fun i _=>Nat.le_refl _,fun p hp=>?_,fun c hc=>?_⟩
 ·unfold zL mh
  rw[List.pairwise_map]
  exact List.pairwise_lt_range
 ·simp[mh]
 ·obtain⟨h1,h2⟩:=hm p hp
  rw[h2]
  exact FV h1 (fun i=>ws.getD i 0)
 ·obtain⟨h1,h2⟩:=hm p hp
  exact Q7 h1 (fun _=>2^ (ws.length - 0))
 ·have h1:(mh ws).bX.map (·.1)=ws:=by
   unfold mh
   rw[List.map_map]
   exact pM ws
  rw[h1]at hc
  rw[IW (fun i _=>by show ws.getD i 0*((0:Nat):Int)=0;simp),Int.add_zero]
  exact hc
theorem IX.UI{ws:List Int}{k:Nat}{s:IX}(h:zM ws k s)(hk:k+1<ws.length):QE s.a s.bX∧QE s.b (wo s.bX s.a)∧s.a.2≠s.b.2∧s.b∈s.bX∧s.bX.Perm (s.a::s.b::wo (wo s.bX s.a) s.b):=by
 have hl:=h.len
 have h1:QE s.a s.bX:=Om h.ids (fun e=>by rw[e]at hl;simp at hl;omega)
 have p1:=Bs h.ids h1.m
 have h2:QE s.b (wo s.bX s.a):=Om (h.ids.wo _) (fun e=>by
  have:=p1.length_eq
  rw[e]at this
  simp at this
  omega)
 obtain⟨m1,m2⟩:=pL.1 h2.m
 exact⟨h1,h2,fun e=>m2 e.symm,m1,p1.trans ((Bs (h.ids.wo _) h2.m).cons _)⟩
theorem zM.step{ws:List Int}{k:Nat}{s:IX}(h:zM ws k s)(hk:k+1<ws.length):zM ws (k+1) s.step:=by
 obtain⟨ha,hb,zJ,Da,hp⟩:=IX.UI h hk
 have sw:=h.at_
 have la:=h.lt _ ha.m
 have lb:=h.lt _ Da
 have cF:∀q,q∈s.step.bX→(q∈s.bX∧q.2≠s.a.2∧q.2≠s.b.2)∨q=(s.a.1+s.b.1,s.at_):=fun q hq=>by
  rcases List.mem_append.1 hq with hq|hq
  ·obtain⟨h1,h2⟩:=pL.1 hq
   obtain⟨h3,h4⟩:=pL.1 h1
   exact .inl ⟨h3,h4,h2⟩
  ·exact .inr (by simpa using hq)
 have hR:∀i,i<s.at_→s.step.R i=if s.R i=s.a.2∨s.R i=s.b.2 then s.at_ else s.R i:=fun i hi=>by show(if i=s.at_ then i else _)=_;rw[if_neg (by omega)]
 have hd:∀i,i<s.at_→s.step.d i=if s.R i=s.a.2∨s.R i=s.b.2 then s.d i+1 else s.d i:=fun i hi=>by show(if i=s.at_ then 0 else _)=_;rw[if_neg (by omega)]
 have hRa:s.step.R s.at_=s.at_:=by show(if s.at_=s.at_ then s.at_ else _)=_;rw[if_pos rfl]
 have hda:s.step.d s.at_=0:=by show(if s.at_=s.at_ then 0 else _)=_;rw[if_pos rfl]
 have Zc:∀i,i<s.at_→s.R i<s.at_:=fun i hi=>by obtain⟨⟨p,p1,p2⟩,_⟩:=h.rt i hi;rw[←p2];exact h.lt p p1
 have sa:=h.Tq _ ha.m
 have sb:=h.Tq _ Da
 refine⟨?_,fun p vW=>?_,by show s.at_+1=_;omega,?_,fun i hi=>?_,fun p vW=>?_,fun i hi aS=>?_,fun p vW=>?_,fun i hi=>?_,fun p vW=>?_,fun c hc=>?_⟩
 ·show zL (_++_)
  unfold zL
  rw[List.pairwise_append]
  refine⟨(h.ids.wo _).wo _,by simp,fun q hq z hz=>?_⟩
  obtain⟨h1,_⟩:=pL.1 hq
  obtain⟨h3,_⟩:=pL.1 h1
  rw[List.mem_singleton.1 hz]
  exact h.lt q h3
 ·show p.2<s.at_+1
  rcases cF p vW with h1|h1
  ·have:=h.lt p h1.1;omega
  ·rw[h1];simp
 ·have h1:=hp.length_eq
  have h2:=h.len
  show(wo (wo s.bX s.a) s.b++[_]).length+(k+1)=_
  simp at h1 ⊢
  omega
 ·have mX:i<s.at_+1:=hi
  by_cases e:i=s.at_
  ·rw[e,hRa]
   exact⟨⟨(s.a.1+s.b.1,s.at_),List.mem_append_right _ (by simp),rfl⟩,Nat.le_refl _⟩
  ·have uN:i<s.at_:=by omega
   obtain⟨⟨p,p1,p2⟩,h4⟩:=h.rt i uN
   rw[hR i uN]
   split
   ·exact⟨⟨(s.a.1+s.b.1,s.at_),List.mem_append_right _ (by simp),rfl⟩,by omega⟩
   ·rename_i hn
    refine⟨⟨p,List.mem_append_left _ (pL.2 ⟨pL.2 ⟨p1,fun e=>hn (.inl (by omega))⟩,fun e=>hn (.inr (by omega))⟩),p2⟩,h4⟩
 ·rcases cF p vW with ⟨h1,h2,h3⟩|h1
  ·have h4:=h.lt p h1
   obtain⟨h5,h6⟩:=h.Tq p h1
   rw[hR _ h4,hd _ h4,h5,if_neg (by omega),if_neg (by omega)]
   exact⟨rfl,h6⟩
  ·rw[h1];exact⟨hRa,hda⟩
 ·have mX:i<s.at_+1:=hi
  have e:i≠s.at_:=fun e=>aS (by rw[e,hRa])
  have uN:i<s.at_:=by omega
  have EP:s.step.up i=if i=s.a.2∨i=s.b.2 then s.at_ else s.up i:=rfl
  rw[EP]
  by_cases KP:i=s.a.2∨i=s.b.2
  ·rw[if_pos KP]
   have hRi:s.R i=i∧s.d i=0:=by
    rcases KP with e|e
    ·rw[e];exact sa
    ·rw[e];exact sb
   rw[hRa,hda,hR i uN,hd i uN,hRi.1,if_pos KP,if_pos KP,hRi.2]
   exact⟨uN,by show s.at_<s.at_+1;omega,rfl,rfl⟩
  ·rw[if_neg KP]
   have hRi:s.R i≠i:=fun e2=>aS (by
    rw[hR i uN,e2,if_neg KP])
   obtain⟨u1,u2,u3,u4⟩:=h.upI i uN hRi
   rw[hR i uN,hd i uN,hR _ u2,hd _ u2,←u3]
   refine⟨u1,by show s.up i<s.at_+1;omega,rfl,?_⟩
   split<;>omega
 ·rcases cF p vW with ⟨h1,h2,h3⟩|h1
  ·rw[←h.wt p h1]
   refine mC fun i hi=>?_
   have uN:i<s.at_:=by omega
   have:=h.lt p h1
   rw[hR i uN]
   by_cases e:s.R i=s.a.2∨s.R i=s.b.2
   ·rw[if_pos e,if_neg (by omega),if_neg (by omega)]
   ·rw[if_neg e]
  ·rw[h1]
   show gA ws.length (fun i=>if s.step.R i=s.at_ then ws.getD i 0 else 0)=s.a.1+s.b.1
   rw[←h.wt _ ha.m,←h.wt _ Da,←sD]
   refine mC fun i hi=>?_
   have uN:i<s.at_:=by omega
   have:=Zc i uN
   rw[hR i uN]
   by_cases e1:s.R i=s.a.2
   ·rw[if_pos (Or.inl e1),if_pos rfl,if_pos e1,if_neg (by omega)];omega
   ·by_cases e2:s.R i=s.b.2
    ·rw[if_pos (Or.inr e2),if_pos rfl,if_neg e1,if_pos e2];omega
    ·have e3:¬ (s.R i=s.a.2∨s.R i=s.b.2):=by omega
     rw[if_neg e3,if_neg (show¬s.R i=s.at_ by omega),if_neg e1,if_neg e2];rfl
 ·have mX:i<s.at_+1:=hi
  by_cases e:i=s.at_
  ·rw[e,hda];omega
  ·have:=h.dl i (by omega)
   rw[hd i (by omega)]
   split<;>omega
 ·rcases cF p vW with ⟨h1,h2,h3⟩|h1
  ·rw[←h.kr p h1]
   refine zK fun i hi=>?_
   have uN:i<s.at_:=by omega
   have:=h.lt p h1
   rw[hR i uN,hd i uN]
   by_cases e:s.R i=s.a.2∨s.R i=s.b.2
   ·rw[if_pos e,if_neg (by omega),if_neg (by omega)]
   ·rw[if_neg e,if_neg e]
  ·rw[h1]
   have h5:2*tF ws.length (fun i=>if s.step.R i=s.at_ then 2^ (ws.length - s.step.d i)else 0)=2^ws.length+2^ws.length:=by
    rw[←Q6,←h.kr _ ha.m]
    conv=>rhs;rw[h.kr _ ha.m];arg 2;rw[←h.kr _ Da]
    rw[←h.kr _ ha.m,←Q5]
    refine zK fun i hi=>?_
    have uN:i<s.at_:=by omega
    have:=Zc i uN
    have hdl:=h.dl i uN
    rw[hR i uN,hd i uN]
    have e2:2*2^ (ws.length - (s.d i+1))=2^ (ws.length - s.d i):=by
     rw[show ws.length - s.d i=(ws.length - (s.d i+1))+1 by omega,Nat.pow_succ]
     omega
    by_cases e1:s.R i=s.a.2
    ·rw[if_pos (Or.inl e1),if_pos rfl,if_pos (Or.inl e1),if_pos e1,if_neg (by omega),e2,Nat.add_zero]
    ·by_cases e3:s.R i=s.b.2
     ·rw[if_pos (Or.inr e3),if_pos rfl,if_pos (Or.inr e3),if_neg e1,if_pos e3,e2];omega
     ·have e4:¬ (s.R i=s.a.2∨s.R i=s.b.2):=by omega
      rw[if_neg e4,if_neg (show¬s.R i=s.at_ by omega),if_neg e1,if_neg e3]
   show tF ws.length (fun i=>if s.step.R i=s.at_ then 2^ (ws.length - s.step.d i)else 0)=_
   omega
 ·have xM:EO ((s.a.1+s.b.1)::(wo (wo s.bX s.a) s.b).map (·.1)) c:=by
   refine hc.perm ?_
   show List.Perm _ ((wo (wo s.bX s.a) s.b++[(s.a.1+s.b.1,s.at_)]).map (·.1))
   rw[List.map_append]
   exact List.perm_append_comm (l₁:=[s.a.1+s.b.1])
  have h5:=h.huf (c+(s.a.1+s.b.1)) (.step (hp.map (·.1)) (by
   rcases ha.l _ Da (Ne.symm zJ)with h|h<;>omega) (fun r hr=>by
   obtain⟨q,hq,rfl⟩:=List.mem_map.1 hr
   obtain⟨h1,h2⟩:=pL.1 hq
   rcases hb.l q h1 h2 with h|h<;>omega) xM)
  have h6:gA ws.length (fun i=>ws.getD i 0*(s.step.d i:Int))=gA ws.length (fun i=>ws.getD i 0*(s.d i:Int))+(s.a.1+s.b.1):=by
   rw[←h.wt _ ha.m]
   conv=>rhs;arg 2;arg 2;rw[←h.wt _ Da]
   rw[←sD,←sD]
   refine mC fun i hi=>?_
   have uN:i<s.at_:=by omega
   rw[hd i uN]
   by_cases e1:s.R i=s.a.2
   ·rw[if_pos (Or.inl e1),if_pos e1,if_neg (by omega),show((s.d i+1:Nat):Int)=(s.d i:Int)+1 by omega,Int.mul_add,Int.mul_one];omega
   ·by_cases e2:s.R i=s.b.2
    ·rw[if_pos (Or.inr e2),if_neg e1,if_pos e2,show((s.d i+1:Nat):Int)=(s.d i:Int)+1 by omega,Int.mul_add,Int.mul_one];omega
    ·have e3:¬ (s.R i=s.a.2∨s.R i=s.b.2):=by omega
     rw[if_neg e3,if_neg e1,if_neg e2];omega
  rw[h6]
  rw[show c+(gA ws.length (fun i=>ws.getD i 0*(s.d i:Int))+(s.a.1+s.b.1))=c+(s.a.1+s.b.1)+gA ws.length (fun i=>ws.getD i 0*(s.d i:Int)) by omega]
  exact h5
theorem zM.run(ws:List Int):∀k,k<ws.length→zM ws k (rq k (mh ws)):=by
 intro k
 induction k with
 |zero=>intro _;exact zM.init ws
 |succ k ih=>intro hk;exact(ih (by omega)).step hk
end Go.Proofs.YtjlnnljohemifaaGreat

namespace Go.Proofs.YtjlnnljohemifaaGreat
structure Jw(ws:List Int)(s:IX):Prop where
 at_:s.at_=2*ws.length - 1
 root:∀i,i<s.at_→s.R i=2*ws.length - 2
 O5:s.d (2*ws.length - 2)=0
 up:∀i,i<2*ws.length - 2→i<s.up i∧s.up i≤2*ws.length - 2∧s.d i=s.d (s.up i)+1
 dl:∀i,i<s.at_→s.d i≤ws.length - 1
 kr:tF ws.length (fun i=>2^ (ws.length - s.d i))=2^ws.length
 huf:EO ws (gA ws.length (fun i=>ws.getD i 0*(s.d i:Int)))
def tG(ws:List Int):IX:=rq (ws.length - 1) (mh ws)
theorem Jw.MI{ws:List Int}(hn:1≤ws.length):Jw ws (tG ws):=by
 have h:=zM.run ws (ws.length - 1) (by omega)
 unfold tG
 generalize rq (ws.length - 1) (mh ws)=s at*
 have sw:=h.at_
 have hl:=h.len
 obtain⟨p,hp⟩:∃p,s.bX=[p]:=by
  match s.bX,hl with
  | [p],_=>exact⟨p,rfl⟩
  | [],hl=>simp at hl;omega
  |_::_::_,hl=>simp at hl;omega
 have uO:p∈s.bX:=by rw[hp];simp
 have MJ:=h.lt p uO
 have hR:∀i,i<s.at_→s.R i=p.2∧i≤p.2:=fun i hi=>by
  obtain⟨⟨q,hq,e⟩,h2⟩:=h.rt i hi
  rw[hp,List.mem_singleton]at hq
  rw[hq]at e
  omega
 have vW:p.2=2*ws.length - 2:=by
  have:=(hR (s.at_ - 1) (by omega)).2
  omega
 obtain⟨_,hd⟩:=h.Tq p uO
 refine⟨by omega,fun i hi=>by rw[(hR i hi).1,vW],by rw[←vW];exact hd,fun i hi=>?_,fun i hi=>h.dl i hi,?_,?_⟩
 ·obtain⟨u1,u2,u3,u4⟩:=h.upI i (by omega) (by rw[(hR i (by omega)).1];omega)
  exact⟨u1,by omega,u4⟩
 ·rw[←h.kr p uO]
  exact zK fun i hi=>by rw[if_pos (hR i (by omega)).1]
 ·have:=h.huf 0 (by rw[hp];exact .one _)
  rwa[Int.zero_add]at this
theorem Q8(M n:Nat)(d:Nat→Nat):kS M ((List.range n).map d)=tF n fun i=>2^ (M - d i):=by
 unfold kS tF
 rw[List.map_map]
 rfl
theorem Q9(n:Nat):∀ (ns:List Nat),ns.length=n→(List.range n).map (fun i=>ns.getD i 0)=ns:=by
 intro ns h
 apply List.ext_getElem?
 intro i
 rw[List.getElem?_map]
 by_cases hi:i<n
 ·rw[List.getElem?_range hi,List.getElem?_eq_getElem (by omega)]
  simp[List.getD_eq_getElem?_getD,List.getElem?_eq_getElem (show i<ns.length by omega)]
 ·rw[List.getElem?_eq_none (by simp;omega),List.getElem?_eq_none (by omega)]
  rfl
theorem Ra(ws:List Int):(yb ws).length=ws.length:=by unfold yb;simp
theorem Jx{ws:List Int}{i:Nat}(hi:i<ws.length):(yb ws)[i]? =some ((tG ws).d i):=by
 unfold yb tG
 rw[List.getElem?_map,List.getElem?_range hi]
 rfl
theorem On{ws:List Int}(hn:1≤ws.length):∀n∈yb ws,n≤ws.length - 1:=by
 intro n h
 obtain⟨i,hi,rfl⟩:=List.mem_map.1 h
 have hi:=List.mem_range.1 hi
 exact(Jw.MI hn).dl i (by rw[(Jw.MI hn).at_];omega)
theorem KQ{ws:List Int}(hn:2≤ws.length):∀n∈yb ws,1≤n:=by
 intro n h
 obtain⟨i,hi,rfl⟩:=List.mem_map.1 h
 have hi:=List.mem_range.1 hi
 have:=(Jw.MI (ws:=ws) (by omega)).up i (by omega)
 show 1≤(tG ws).d i
 omega
theorem O6{ws:List Int}(hn:1≤ws.length):kS ws.length (yb ws)=2^ws.length:=by
 unfold yb
 rw[Q8]
 exact(Jw.MI hn).kr
def IY(ws:List Int)(ns:List Nat):Int:=gA ws.length fun i=>ws.getD i 0*(ns.getD i 0:Int)
theorem IZ{ws:List Int}:IY ws (yb ws)=gA ws.length fun i=>ws.getD i 0*((tG ws).d i:Int):=by
 refine mC fun i hi=>?_
 rw[List.getD_eq_getElem?_getD (l:=yb ws),Jx hi]
 rfl
theorem MK{ws:List Int}(hn:1≤ws.length)(hw:∀w∈ws,0≤w){ns:List Nat}(hl:ns.length=ws.length){M:Nat}(hM:∀n∈ns,n≤M)(hk:kS M ns≤2^M):IY ws (yb ws)≤IY ws ns:=by
 rw[IZ]
 have h:=(Jw.MI hn).huf.least hw ((List.range ws.length).map fun i=>(ws.getD i 0,ns.getD i 0)) M (by
  rw[List.map_map]
  rw[show(List.range ws.length).map ((fun p:Int×Nat=>p.1)∘fun i=>(ws.getD i 0,ns.getD i 0))=ws from pM ws]) (fun p hp=>by
  obtain⟨i,hi,rfl⟩:=List.mem_map.1 hp
  have hi:=List.mem_range.1 hi
  refine hM _ ?_
  show ns.getD i 0∈ns
  rw[List.getD_eq_getElem?_getD,List.getElem?_eq_getElem (show i<ns.length by omega)]
  exact List.getElem_mem _) (by
  unfold vj
  rw[List.map_map]
  rw[show(List.range ws.length).map ((fun p:Int×Nat=>p.2)∘fun i=>(ws.getD i 0,ns.getD i 0))=ns from Q9 _ ns hl]
  exact hk)
 have e:nj ((List.range ws.length).map fun i=>(ws.getD i 0,ns.getD i 0))=IY ws ns:=by
  unfold nj IY gA
  rw[List.map_map]
  rfl
 rwa[e]at h
theorem KR{n i k:Nat}(hi:i<n)(hk:k<n)(VD:i≠k)(f g:Nat→Int)(h1:∀j,j≠i→j≠k→f j=g j):gA n f - gA n g=(f i - g i)+(f k - g k):=by
 have e:gA n f=gA n (fun j=>g j+((if j=i then f j - g j else 0)+(if j=k then f j - g j else 0))):=mC fun j _=>by
  by_cases e1:j=i
  ·rw[if_pos e1,if_neg (by omega)];omega
  ·by_cases e2:j=k
   ·rw[if_neg e1,if_pos e2];omega
   ·rw[if_neg e1,if_neg e2,h1 j e1 e2];omega
 rw[e,sD,sD,FV hi (fun j=>f j - g j),FV hk (fun j=>f j - g j)]
 omega
theorem KS(n:Nat)(f:Nat→Nat):((tF n f:Nat):Int)=gA n fun i=>(f i:Int):=by
 induction n with
 |zero=>rfl
 |succ n ih=>rw[fI,dS,←ih];omega
theorem O7{ws:List Int}(hn:1≤ws.length)(hw:∀w∈ws,0≤w){i k:Nat}(hi:i<ws.length)(hk:k<ws.length)(aR:ws.getD k 0<ws.getD i 0):(tG ws).d i≤(tG ws).d k:=by
 apply Classical.byContradiction
 intro hd
 have VD:i≠k:=fun e=>by rw[e]at aR;omega
 have F:=Jw.MI hn
 generalize hs:tG ws=s at*
 have e1:=F.dl i (by rw[F.at_];omega)
 have e2:=F.dl k (by rw[F.at_];omega)
 obtain⟨g,hg⟩:∃g:Nat→Nat,g=fun j=>if j=i then s.d k else if j=k then s.d i else s.d j:=⟨_,rfl⟩
 have gi:g i=s.d k:=by rw[hg];simp
 have gk:g k=s.d i:=by rw[hg];simp[Ne.symm VD]
 have go:∀j,j≠i→j≠k→g j=s.d j:=fun j h1 h2=>by rw[hg];simp[h1,h2]
 have Ju:kS ws.length ((List.range ws.length).map g)=2^ws.length:=by
  rw[Q8,←F.kr]
  have h:=KR hi hk VD (fun j=>((2^ (ws.length - g j):Nat):Int)) (fun j=>((2^ (ws.length - s.d j):Nat):Int)) (fun j h1 h2=>by rw[go j h1 h2])
  rw[←KS,←KS,gi,gk]at h
  omega
 have hl:=MK (ws:=ws) (ns:=(List.range ws.length).map g) hn hw (by simp) (M:=ws.length) (fun n hnm=>by
  obtain⟨j,hj,rfl⟩:=List.mem_map.1 hnm
  have hj:=List.mem_range.1 hj
  by_cases e1:j=i
  ·rw[e1,gi];omega
  ·by_cases e2:j=k
   ·rw[e2,gk];omega
   ·rw[go j e1 e2]
    have:=F.dl j (by rw[F.at_];omega)
    omega) (by rw[Ju];exact Nat.le_refl _)
 rw[IZ,hs]at hl
 have e3:IY ws ((List.range ws.length).map g)=gA ws.length fun j=>ws.getD j 0*(g j:Int):=by
  refine mC fun j hj=>?_
  rw[List.getD_eq_getElem?_getD (l:=(List.range ws.length).map g),List.getElem?_map,List.getElem?_range hj]
  rfl
 rw[e3]at hl
 have h:=KR hi hk VD (fun j=>ws.getD j 0*(s.d j:Int)) (fun j=>ws.getD j 0*(g j:Int)) (fun j h1 h2=>by rw[go j h1 h2])
 rw[gi,gk]at h
 have h5:=Int.mul_pos (a:=ws.getD i 0 - ws.getD k 0) (b:=(s.d i:Int) - (s.d k:Int)) (by omega) (by omega)
 rw[Int.sub_mul,Int.mul_sub,Int.mul_sub]at h5
 omega
theorem KT{n:Nat}{f:Nat→Int}(h:∀i,i<n→0≤f i):0≤gA n f:=by
 induction n with
 |zero=>exact Int.le_refl _
 |succ n ih=>
  rw[dS]
  have:=ih fun i hi=>h i (by omega)
  have:=h n (by omega)
  omega
end Go.Proofs.YtjlnnljohemifaaGreat
