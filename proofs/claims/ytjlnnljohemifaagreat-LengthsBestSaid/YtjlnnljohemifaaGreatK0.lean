/- Texts put behind each other. -/
import Derived.Test.YtjlnnljohemifaaGreatK98
set_option linter.unusedVariables false
set_option linter.unusedSimpArgs false
namespace Go.Proofs.YtjlnnljohemifaaGreat
def kS(M:Nat)(ns:List Nat):Nat:=(ns.map fun n=>2^ (M - n)).sum
theorem rj(M n:Nat)(ns:List Nat):kS M (n::ns)=2^ (M - n)+kS M ns:=by unfold kS;simp
theorem Rm(M:Nat)(a b:List Nat):kS M (a++b)=kS M a+kS M b:=by unfold kS;simp
theorem JN(M:Nat){a b:List Nat}(h:a.Perm b):kS M a=kS M b:=by unfold kS;exact(h.map _).sum_nat
theorem Rn(M d:Nat):∀ns:List Nat,(∀n∈ns,n≤M)→kS (M+d) ns=2^d*kS M ns:=by
 intro ns
 induction ns with
 |nil=>intro _;simp[kS]
 |cons n ns ih=>
  intro h
  have hn:=h n (by simp)
  rw[rj,rj,ih fun x hx=>h x (amK _ hx),Nat.mul_add,←Nat.pow_add,show M+d - n=d+(M - n) by omega]
def Dh(M:Nat)(ns:List Nat):Int:=if 2^M<kS M ns then 1 else if kS M ns=2^M then 0 else -1
theorem Ro(M d:Nat){ns:List Nat}(h:∀n∈ns,n≤M):Dh (M+d) ns=Dh M ns:=by
 unfold Dh
 have hp:0<2^d:=anR (by omega)
 have e1:2^ (M+d)<kS (M+d) ns↔2^M<kS M ns:=by
  rw[Rn M d ns h,Nat.pow_add,anI (2^M)]
  exact Nat.mul_lt_mul_left hp
 have e2:kS (M+d) ns=2^ (M+d)↔kS M ns=2^M:=by
  rw[Rn M d ns h,Nat.pow_add,anI (2^M)]
  exact⟨Nat.eq_of_mul_eq_mul_left hp,fun e=>by rw[e]⟩
 simp only[e1,e2]
theorem OC{M M':Nat}{ns:List Nat}(h:∀n∈ns,n≤M)(h':∀n∈ns,n≤M'):Dh M ns=Dh M' ns:=by
 rcases Nat.le_total M M' with hm|hm
 ·rw[show M'=M+(M' - M) by omega,Ro _ _ h]
 ·rw[show M=M'+(M - M') by omega,Ro _ _ h']
theorem By(M:Nat){a b:List Nat}(h:a.Perm b):Dh M a=Dh M b:=by unfold Dh;rw[JN M h]
structure eE(M:Nat)(ns:List Nat)(j free at_:Nat):Prop where
 le:free*2^ (M - at_)+kS M (ns.take j)≤2^M
 ex:free*2^ (M - at_)+kS M (ns.take j)=2^M∨ns.length<free+j
 low:at_≤M
theorem eE.begin(M:Nat)(ns:List Nat):eE M ns 0 1 0:=⟨by simp[kS],.inl (by simp[kS]),anS _⟩
theorem eE.double{M:Nat}{ns:List Nat}{j free at_:Nat}(h:eE M ns j free at_)(aR:at_<M):eE M ns j (free*2) (at_+1):=by
 have e:free*2*2^ (M - (at_+1))=free*2^ (M - at_):=by
  rw[Nat.mul_assoc,←Nat.pow_succ',show(M - (at_+1)).succ=M - at_ by omega]
 refine⟨by rw[e];exact h.le,?_,by omega⟩
 rw[e]
 rcases h.ex with h|h
 ·exact .inl h
 ·exact .inr (by omega)
theorem eE.jump{M:Nat}{ns:List Nat}{j free at_ n:Nat}(h:eE M ns j free at_)(hf:ns.length<free)(h1:at_≤n)(h2:n≤M):eE M ns j free n:=by
 refine⟨?_,.inr (by omega),h2⟩
 have:2^ (M - n)≤2^ (M - at_):=Nat.pow_le_pow_right (by omega) (by omega)
 exact amM (Nat.add_le_add_right (Nat.mul_le_mul_left _ this) _) h.le
theorem eE.Zz{M:Nat}{ns:List Nat}{j at_ n:Nat}(h:eE M ns j 0 at_)(h2:n≤M):eE M ns j 0 n:=by
 refine⟨?_,?_,h2⟩
 ·have:=h.le;simpa using this
 ·have:=h.ex;simpa using this
theorem JO{M:Nat}{ns:List Nat}{j n:Nat}(hn:ns[j]? =some n):kS M (ns.take (j+1))=kS M (ns.take j)+2^ (M - n):=by
 rw[amG,hn,Rm]
 simp[kS]
theorem MW(M:Nat)(ns:List Nat)(j:Nat):kS M (ns.take j)≤kS M ns:=by
 conv=>rhs;rw[←anK j ns,Rm]
 omega
theorem eE.use{M:Nat}{ns:List Nat}{j free n:Nat}(h:eE M ns j free n)(hn:ns[j]? =some n)(hf:0<free):eE M ns (j+1) (free - 1) n:=by
 have e:(free - 1)*2^ (M - n)+2^ (M - n)=free*2^ (M - n):=by
  rw[←Nat.succ_mul];congr 1;omega
 refine⟨?_,?_,h.low⟩
 ·rw[JO hn]
  have:=h.le
  omega
 ·rw[JO hn]
  rcases h.ex with h|h
  ·left;omega
  ·right;omega
theorem eE.none{M:Nat}{ns:List Nat}{j n:Nat}(h:eE M ns j 0 n){m:Nat}(hn:ns[j]? =some m):Dh M ns=1:=by
 have hj:=(al7.1 hn).1
 have h1:=JO (M:=M) hn
 have h2:=MW M ns (j+1)
 have h3:0<2^ (M - m):=anR (by omega)
 unfold Dh
 rw[if_pos]
 rcases h.ex with h|h
 ·rw[amH]at h;omega
 ·omega
theorem eE.done{M:Nat}{ns:List Nat}{free at_:Nat}(h:eE M ns ns.length free at_):Dh M ns=if free=0 then 0 else -1:=by
 have h1:=h.le
 have h2:=h.ex
 rw[amB]at h1 h2
 unfold Dh
 by_cases hf:free=0
 ·subst hf
  rw[amH]at h1 h2
  have:kS M ns=2^M:=by omega
  rw[if_neg (by omega),if_pos this,if_pos rfl]
 ·have h3:0<free*2^ (M - at_):=Nat.mul_pos (by omega) (anR (by omega))
  rw[if_neg (by omega),if_neg (by omega),if_neg hf]
def wq(M S at_ n:Nat)(part:Bool):Prop:=∃rem,S=n*2^ (M - at_)+rem∧rem<2^ (M - at_)∧(part=true↔rem≠0)
theorem wq.zero(M at_:Nat):wq M 0 at_ 0 false:=⟨0,by simp,anR (by omega),by simp⟩
theorem wq.more{M S at_ n:Nat}{part:Bool}(h:wq M S at_ n part)(k:Nat):wq M (S+k*2^ (M - at_)) at_ (n+k) part:=by
 obtain⟨r,h1,h2,h3⟩:=h
 exact⟨r,by rw[am6,h1];omega,h2,h3⟩
theorem wq.half{M S at_ n:Nat}{part:Bool}(h:wq M S at_ n part)(h0:0<at_)(h1:at_≤M):wq M S (at_ - 1) (n / 2) (part || n%2==1):=by
 obtain⟨r,e,hr,hp⟩:=h
 have ZA:2^ (M - (at_ - 1))=2*2^ (M - at_):=by rw[show M - (at_ - 1)=M - at_+1 by omega,Nat.pow_succ,anI]
 have gD:0<2^ (M - at_):=anR (by omega)
 generalize 2^ (M - at_)=P at*
 refine⟨n%2*P+r,?_,?_,?_⟩
 ·rw[ZA,e]
  have h2:n*P=(n / 2*2+n%2)*P:=by rw[show n / 2*2+n%2=n by omega]
  rw[h2,am6,Nat.mul_assoc]
  omega
 ·rw[ZA]
  have:n%2=0∨n%2=1:=by omega
  rcases this with h|h<;>rw[h]<;>omega
 ·have h2:n%2=0∨n%2=1:=by omega
  rcases h2 with h|h
  ·rw[h];simp;exact hp
  ·rw[h];simp;omega
theorem wq.down{M S at_:Nat}{part:Bool}(h:wq M S at_ 0 part){k:Nat}(hk:k≤at_):wq M S k 0 part:=by
 obtain⟨r,e,hr,hp⟩:=h
 rw[amH]at e
 have:2^ (M - at_)≤2^ (M - k):=Nat.pow_le_pow_right (by omega) (by omega)
 exact⟨r,by rw[amH];exact e,by omega,hp⟩
theorem wq.K9{M n:Nat}{ns:List Nat}{part:Bool}(h:wq M (kS M ns) 0 n part):Dh M ns=if 1<n∨(n=1∧part=true)then 1 else if n=1 then 0 else -1:=by
 obtain⟨r,e,hr,hp⟩:=h
 rw[Nat.sub_zero]at e hr
 unfold Dh
 rcases anh n 1 with h|h
 ·have:n=0:=by omega
  subst this
  rw[amH]at e
  rw[if_neg (by omega),if_neg (by omega),if_neg (by omega),if_neg (by omega)]
 ·by_cases h1:n=1
  ·subst h1
   rw[aok]at e
   cases part
   ·have hr0:r=0:=by
     apply amr
     intro h;have:=hp.2 h;cases this
    rw[if_neg (by omega),if_pos (by omega),if_neg (by simp),if_pos rfl]
   ·have:=hp.1 rfl
    rw[if_pos (by omega),if_pos (.inr ⟨rfl,rfl⟩)]
  ·have h2:2*2^M≤n*2^M:=ana _ (by omega)
   have:0<2^M:=anR (by omega)
   rw[if_pos (by omega),if_pos (.inl (by omega))]
end Go.Proofs.YtjlnnljohemifaaGreat

namespace Go.Proofs.YtjlnnljohemifaaGreat
def ny(P:List (Int×Nat)):Int:=(P.map fun p=>p.1*(p.2:Int)).sum
def vt(P:List (Int×Nat)):List Nat:=P.map (·.2)
theorem Pm:ny []=0:=rfl
theorem dY(p:Int×Nat)(P:List (Int×Nat)):ny (p::P)=p.1*(p.2:Int)+ny P:=by unfold ny;rw[amL,anN]
theorem Rp{a b:List Int}(h:a.Perm b):a.sum=b.sum:=by
 induction h with
 |nil=>rfl
 |cons x _ ih=>rw[anN,anN,ih]
 |swap x y l=>simp only[anN];omega
 |trans _ _ h1 h2=>rw[h1,h2]
theorem Ge{P Q:List (Int×Nat)}(h:P.Perm Q):ny P=ny Q:=Rp (h.map _)
theorem pT(p:Int×Nat)(P:List (Int×Nat)):vt (p::P)=p.2::vt P:=rfl
theorem Rq{a w x y:Int}(h1:a≤w)(h2:x≤y):a*y+w*x≤a*x+w*y:=by
 have h:=anr (a:=w - a) (b:=y - x) (by omega) (by omega)
 rw[Int.sub_mul,Int.mul_sub,Int.mul_sub]at h
 omega
theorem ZB{a:Int}:∀ (R:List (Int×Nat)) (ma:Nat),(∀p∈R,a≤p.1)→
  ∃mx R',ma≤mx∧(mx::vt R').Perm (ma::vt R)∧R'.map (·.1)=R.map (·.1)∧(∀p∈R',p.2≤mx)∧a*(mx:Int)+ny R'≤a*(ma:Int)+ny R:=by
 intro R
 induction R with
 |nil=>intro ma _;exact⟨ma,[],ami _,List.Perm.refl _,rfl,by simp,anT _⟩
 |cons p R ih=>
  obtain⟨w,m⟩:=p
  intro ma h
  have hw:a≤w:=h (w,m) (by simp)
  by_cases hm:ma<m
  ·obtain⟨mx,R',h1,h2,h3,h4,h5⟩:=ih m (fun q hq=>h q (by simp[hq]))
   refine⟨mx,(w,ma)::R',by omega,?_,by simp[h3],fun q hq=>?_,?_⟩
   ·rw[pT,pT]
    exact(List.Perm.swap _ _ _).trans (h2.cons ma)
   ·rcases amf.1 hq with rfl|hq
    ·exact by show ma≤mx;omega
    ·exact h4 q hq
   ·rw[dY,dY]
    have:=Rq hw (x:=(ma:Int)) (y:=(m:Int)) (by omega)
    simp only
    omega
  ·obtain⟨mx,R',h1,h2,h3,h4,h5⟩:=ih ma (fun q hq=>h q (by simp[hq]))
   refine⟨mx,(w,m)::R',h1,?_,by simp[h3],fun q hq=>?_,?_⟩
   ·rw[pT,pT]
    exact((List.Perm.swap _ _ _).trans (h2.cons m)).trans (List.Perm.swap _ _ _)
   ·rcases amf.1 hq with rfl|hq
    ·exact by show m≤mx;omega
    ·exact h4 q hq
   ·rw[dY,dY]
    omega
theorem VY(M:Nat)(n:Nat)(ns:List Nat):1≤kS M (n::ns):=by
 rw[rj]
 have:=anR (a:=2) (n:=M - n) (by omega)
 omega
theorem TK{a b:Int}{ma mb M:Nat}{R:List (Int×Nat)}(h0:0≤a)(zQ:a≤b)(hR:∀p∈R,a≤p.1∧b≤p.1)(hM:ma≤M∧mb≤M∧∀p∈R,p.2≤M)(hk:kS M (ma::mb::vt R)≤2^M):
  ∃m R',R'.map (·.1)=R.map (·.1)∧m≤M∧(∀p∈R',p.2≤M)∧kS M (m::vt R')≤2^M∧(a+b)*(m:Int)+ny R'+(a+b)≤a*(ma:Int)+(b*(mb:Int)+ny R):=by
 obtain⟨mx,R1,x1,x2,x3,x4,x5⟩:=ZB (a:=a) ((b,mb)::R) ma (fun p hp=>by
  rcases amf.1 hp with rfl|hp
  ·exact zQ
  ·exact(hR p hp).1)
 obtain⟨⟨b1,m1⟩,R2,rfl⟩:∃p R2,R1=p::R2:=by
  cases R1 with
  |nil=>simp at x3
  |cons p R2=>exact⟨p,R2,rfl⟩
 simp only[amL,List.cons.injEq]at x3
 obtain⟨rfl,x3⟩:=x3
 have Di:∀p∈R2,b1≤p.1:=fun p hp=>by
  have:p.1∈R2.map (·.1):=List.mem_map_of_mem hp
  rw[x3,amJ]at this
  obtain⟨q,hq,e⟩:=this
  rw[←e];exact(hR q hq).2
 obtain⟨m2,R3,y1,y2,y3,y4,y5⟩:=ZB (a:=b1) R2 m1 Di
 rw[pT,pT]at x2
 simp only at x2
 have cF:∀k∈m2::vt R3,k≤mx:=fun k hk=>by
  have h1:=y2.mem_iff.1 hk
  rcases amf.1 h1 with rfl|h1
  ·exact x4 (b1,k) (by simp)
  ·obtain⟨q,hq,rfl⟩:=amJ.1 h1
   exact x4 q (by simp[hq])
 have hmx:mx≤M:=by
  have h1:=x2.mem_iff.1 (show mx∈mx::m1::vt R2 by simp)
  rcases amf.1 h1 with rfl|h1
  ·exact hM.1
  ·rcases amf.1 h1 with rfl|h1
   ·exact hM.2.1
   ·obtain⟨q,hq,rfl⟩:=amJ.1 h1
    exact hM.2.2 q hq
 have h2x:=cF m2 (by simp)
 have ad2:∀n∈vt R3,n≤m2:=fun n hn=>by
  obtain⟨q,hq,rfl⟩:=amJ.1 hn
  exact y4 q hq
 rw[JN M (x2.symm.trans (y2.symm.cons mx)),rj]at hk
 obtain⟨d,rfl⟩:∃d,M=m2+d:=⟨M - m2,by omega⟩
 have hu:∀k,k≤m2→kS (m2+d) (k::vt R3)=2^d*kS m2 (k::vt R3):=fun k hk=>Rn m2 d _ fun n hn=>by
  rcases amf.1 hn with rfl|hn
  ·exact hk
  ·exact ad2 n hn
 rw[hu m2 (ami _),Nat.pow_add,anI (2^m2)]at hk
 have gD:0<2^ (m2+d - mx):=anR (by omega)
 have ZC:0<2^d:=anR (by omega)
 have aR:kS m2 (m2::vt R3)<2^m2:=by
  apply Nat.lt_of_mul_lt_mul_left (a:=2^d)
  omega
 have h1:=VY m2 m2 (vt R3)
 have hm2:1≤m2:=by
  rcases anu m2 with h|h
  ·rw[h]at aR h1;simp at aR;omega
  ·exact h
 refine⟨m2 - 1,R3,by rw[y3,x3],by omega,fun p hp=>by have:=y4 p hp;omega,?_,?_⟩
 ·rw[hu (m2 - 1) (by omega),Nat.pow_add,anI (2^m2)]
  refine Nat.mul_le_mul_left _ ?_
  rw[rj]at aR ⊢
  rw[am3,Nat.pow_zero]at aR
  rw[show m2 - (m2 - 1)=1 by omega,Nat.pow_one]
  omega
 ·rw[dY,dY]at x5
  simp only at x5
  have h3:=anD (a:=(m2:Int)) (b:=(mx:Int)) (by omega) h0
  have h4:(a+b1)*((m2 - 1:Nat):Int)=a*(m2:Int)+b1*(m2:Int) - (a+b1):=by
   rw[show((m2 - 1:Nat):Int)=(m2:Int) - 1 by omega,Int.mul_sub,Int.mul_one,Int.add_mul]
  rw[h4]
  omega
theorem Jj{α β:Type}{f:α→β}:∀ {l:List β} {Q:List α},(Q.map f).Perm l→∃Q',Q.Perm Q'∧Q'.map f=l:=by
 intro l
 induction l with
 |nil=>
  intro Q h
  have:=h.length_eq
  rw[amu]at this
  exact⟨[],by rw[amD.1 this],rfl⟩
 |cons b l ih=>
  intro Q h
  obtain⟨q,hq,e⟩:=amJ.1 (h.mem_iff.2 (amZ (a:=b) (l:=l)))
  obtain⟨s,t,rfl⟩:=List.append_of_mem hq
  have h1:((s++t).map f).Perm l:=by
   have h2:(s++q::t).Perm (q::(s++t)):=anU
   have h3:=(h2.map f).symm.trans h
   rw[amL,e]at h3
   exact h3.cons_inv
  obtain⟨Q',p1,p2⟩:=ih h1
  exact⟨q::Q',anU.trans (p1.cons q),by rw[amL,e,p2]⟩
inductive EZ:List Int→Int→Prop
 |one (w:Int):EZ [w] 0
 |step {P R:List Int} {a b c:Int} (hp:P.Perm (a::b::R)) (zQ:a≤b) (hR:∀r∈R,b≤r) (h:EZ ((a+b)::R) c):EZ P (c+(a+b))
theorem EZ.perm{P Q:List Int}{c:Int}(h:EZ P c)(hp:Q.Perm P):EZ Q c:=by
 cases h with
 |one w=>rw[List.perm_singleton.1 hp];exact .one w
 |step h1 h2 h3 h4=>exact .step (hp.trans h1) h2 h3 h4
theorem EZ.least{P:List Int}{c:Int}(h:EZ P c):(∀w∈P,0≤w)→∀ (Q:List (Int×Nat)) (M:Nat),(Q.map (·.1)).Perm P→(∀p∈Q,p.2≤M)→kS M (vt Q)≤2^M→c≤ny Q:=by
 induction h with
 |one w=>
  intro hw Q M hQ _ _
  obtain⟨Q',p1,p2⟩:=Jj hQ
  rw[Ge p1]
  cases Q' with
  |nil=>cases p2
  |cons q t=>
   cases t with
   |cons _ _=>cases p2
   |nil=>
    rw[dY,Pm]
    have h1:q.1=w:=by simpa using p2
    have:=anr (hw w (by simp)) (show(0:Int)≤(q.2:Int) by omega)
    rw[h1]
    omega
 |step hp zQ hR h ih=>
  rename_i P R a b c
  intro hw Q M hQ hM hk
  obtain⟨Q',p1,p2⟩:=Jj (hQ.trans hp)
  have Di:∀w∈a::b::R,0≤w:=fun w h=>hw w (hp.mem_iff.2 h)
  have ha:=Di a (by simp)
  have hb:=Di b (by simp)
  match Q',p2 with
  | (a1,ma)::(b1,mb)::Q2,p3=>
   simp only[amL,List.cons.injEq]at p3
   obtain⟨rfl,rfl,p3⟩:=p3
   have hm:∀p∈(a1,ma)::(b1,mb)::Q2,p.2≤M:=fun p hp=>hM p (p1.mem_iff.2 hp)
   have OD:kS M (ma::mb::vt Q2)≤2^M:=by
    have h9:(vt Q).Perm (ma::mb::vt Q2):=p1.map _
    rw[←JN M h9]
    exact hk
   obtain⟨m,R',r1,r2,r3,r4,r5⟩:=TK (R:=Q2) (M:=M) ha zQ (fun p hp=>by
    have h1:p.1∈R:=by rw[←p3];exact List.mem_map_of_mem hp
    have:=hR _ h1
    omega) ⟨hm (a1,ma) (by simp),hm (b1,mb) (by simp),fun p hp=>hm p (by simp[hp])⟩ OD
   have h5:=ih (fun w hw=>by
    rcases amf.1 hw with rfl|hw
    ·omega
    ·exact Di w (by simp[hw])) ((a1+b1,m)::R') M (by rw[amL,r1,p3]) (fun p hp=>by
    rcases amf.1 hp with rfl|hp
    ·exact r2
    ·exact r3 p hp) r4
   rw[Ge p1,dY,dY]
   rw[dY]at h5
   have h6:c≤(a1+b1)*(m:Int)+ny R':=h5
   have r6:(a1+b1)*(m:Int)+ny R'+(a1+b1)≤a1*(ma:Int)+(b1*(mb:Int)+ny Q2):=r5
   show c+(a1+b1)≤a1*(ma:Int)+(b1*(mb:Int)+ny Q2)
   omega
end Go.Proofs.YtjlnnljohemifaaGreat

namespace Go.Proofs.YtjlnnljohemifaaGreat
def jd(n:Nat)(f:Nat→Int):Int:=((List.range n).map f).sum
def vu(n:Nat)(f:Nat→Nat):Nat:=((List.range n).map f).sum
theorem dA(n:Nat)(f:Nat→Int):jd (n+1) f=jd n f+f n:=by
 unfold jd
 rw[aof,amU,List.sum_append,aog,anN,List.sum_nil]
 omega
theorem im(n:Nat)(f:Nat→Nat):vu (n+1) f=vu n f+f n:=by
 unfold vu
 rw[aof,amU,List.sum_append,aog,anN,List.sum_nil]
 omega
theorem mJ{n:Nat}{f g:Nat→Int}(h:∀i,i<n→f i=g i):jd n f=jd n g:=by
 induction n with
 |zero=>rfl
 |succ n ih=>rw[dA,dA,ih (fun i hi=>h i (by omega)),h n (by omega)]
theorem zR{n:Nat}{f g:Nat→Nat}(h:∀i,i<n→f i=g i):vu n f=vu n g:=by
 induction n with
 |zero=>rfl
 |succ n ih=>rw[im,im,ih (fun i hi=>h i (by omega)),h n (by omega)]
theorem Bz(n:Nat)(f g:Nat→Int):jd n (fun i=>f i+g i)=jd n f+jd n g:=by
 induction n with
 |zero=>rfl
 |succ n ih=>rw[dA,dA,dA,ih];omega
theorem Rr(n:Nat)(f g:Nat→Nat):vu n (fun i=>f i+g i)=vu n f+vu n g:=by
 induction n with
 |zero=>rfl
 |succ n ih=>rw[im,im,im,ih];omega
theorem Rs(n:Nat)(f:Nat→Nat):vu n (fun i=>2*f i)=2*vu n f:=by
 induction n with
 |zero=>rfl
 |succ n ih=>rw[im,im,ih];omega
theorem Pn{n:Nat}{f:Nat→Nat}(h:∀i,i<n→f i=0):vu n f=0:=by
 induction n with
 |zero=>rfl
 |succ n ih=>rw[im,ih (fun i hi=>h i (by omega)),h n (by omega)]
theorem Jk{n:Nat}{f:Nat→Int}(h:∀i,i<n→f i=0):jd n f=0:=by
 induction n with
 |zero=>rfl
 |succ n ih=>rw[dA,ih (fun i hi=>h i (by omega)),h n (by omega)];rfl
theorem Rt{n k:Nat}(hk:k<n)(f:Nat→Int):jd n (fun i=>if i=k then f i else 0)=f k:=by
 induction n with
 |zero=>omega
 |succ n ih=>
  rw[dA]
  by_cases h:k=n
  ·rw[Jk (fun i hi=>by rw[if_neg (by omega)]),if_pos h.symm,h];omega
  ·rw[ih (by omega),if_neg (by omega)];omega
theorem Ru{n k:Nat}(hk:k<n)(f:Nat→Nat):vu n (fun i=>if i=k then f i else 0)=f k:=by
 induction n with
 |zero=>omega
 |succ n ih=>
  rw[im]
  by_cases h:k=n
  ·rw[Pn (fun i hi=>by rw[if_neg (by omega)]),if_pos h.symm,h];omega
  ·rw[ih (by omega),if_neg (by omega)];omega
structure Jl where
 bX:List (Int×Nat)
 at_:Nat
 R:Nat→Nat
 d:Nat→Nat
 up:Nat→Nat
def OE(p:Int×Nat):List (Int×Nat)→Int×Nat
 | []=>p
 |q::r=>if q.1<p.1 then OE q r else OE p r
def VZ:List (Int×Nat)→Int×Nat
 | []=>(0,0)
 |p::r=>OE p r
def wo(l:List (Int×Nat))(p:Int×Nat):List (Int×Nat):=l.filter fun q=>decide (q.2≠p.2)
def Jl.a(s:Jl):Int×Nat:=VZ s.bX
def Jl.b(s:Jl):Int×Nat:=VZ (wo s.bX s.a)
def Jl.step(s:Jl):Jl:=⟨wo (wo s.bX s.a) s.b++[(s.a.1+s.b.1,s.at_)],s.at_+1,
 fun i=>if i=s.at_ then i else if s.R i=s.a.2∨s.R i=s.b.2 then s.at_ else s.R i,
 fun i=>if i=s.at_ then 0 else if s.R i=s.a.2∨s.R i=s.b.2 then s.d i+1 else s.d i,
 fun i=>if i=s.a.2∨i=s.b.2 then s.at_ else s.up i⟩
def mz(ws:List Int):Jl:=⟨(List.range ws.length).map (fun i=>(ws.getD i 0,i)),ws.length,id,fun _=>0,fun _=>0⟩
def rK:Nat→Jl→Jl
 |0,s=>s
 |k+1,s=>(rK k s).step
def tN(ws:List Int):List Nat:=(List.range ws.length).map (rK (ws.length - 1) (mz ws)).d
theorem JP(p:Int×Nat):∀ (r:List (Int×Nat)),OE p r∈p::r:=by
 intro r
 induction r generalizing p with
 |nil=>simp[OE]
 |cons q r ih=>
  unfold OE
  split
  ·exact amK _ (ih q)
  ·have:=ih p
   simp only[amf]at this ⊢
   rcases this with h|h
   ·exact .inl h
   ·exact .inr (.inr h)
def zS(l:List (Int×Nat)):Prop:=l.Pairwise fun p q=>p.2<q.2
theorem V0(p:Int×Nat):∀ (r:List (Int×Nat)),zS (p::r)→∀q∈p::r,q.2≠(OE p r).2→(OE p r).1<q.1∨((OE p r).1=q.1∧(OE p r).2<q.2):=by
 intro r
 induction r generalizing p with
 |nil=>
  intro _ q hq aT
  rcases amf.1 hq with rfl|hq
  ·exact absurd rfl aT
  ·cases hq
 |cons c r ih=>
  intro hr q hq aT
  have Bu:=ank.1 hr
  have QY:=ank.1 Bu.2
  unfold OE at aT ⊢
  split at aT
  ·rename_i aR
   rw[if_pos aR]
   rcases amf.1 hq with rfl|hq
   ·by_cases e:c.2=(OE c r).2
    ·have hm:=JP c r
     rcases amf.1 hm with h|h
     ·rw[h];exact .inl aR
     ·have:=QY.1 _ h;omega
    ·rcases ih c Bu.2 c (by simp) e with h|h<;>exact .inl (by omega)
   ·exact ih c Bu.2 q hq aT
  ·rename_i aR
   rw[if_neg aR]
   have ZD:zS (p::r):=ank.2 ⟨fun z hz=>Bu.1 z (by simp[hz]),QY.2⟩
   rcases amf.1 hq with rfl|hq
   ·exact ih q ZD q (by simp) aT
   ·rcases amf.1 hq with rfl|hq
    ·have OF:=Bu.1 q (by simp)
     by_cases e:p.2=(OE p r).2
     ·have hm:=JP p r
      rcases amf.1 hm with h|h
      ·rw[h];omega
      ·have:=Bu.1 _ (amK _ h);omega
     ·rcases ih p ZD p (by simp) e with h|h
      ·exact .inl (by omega)
      ·by_cases e2:(OE p r).1=q.1
       ·exact .inr ⟨e2,by omega⟩
       ·exact .inl (by omega)
    ·exact ih p ZD q (by simp[hq]) aT
structure QZ(p:Int×Nat)(l:List (Int×Nat)):Prop where
 m:p∈l
 l:∀q∈l,q.2≠p.2→p.1<q.1∨(p.1=q.1∧p.2<q.2)
theorem zS.inj{l:List (Int×Nat)}(h:zS l){p q:Int×Nat}(hp:p∈l)(hq:q∈l)(e:p.2=q.2):p=q:=by
 induction l with
 |nil=>cases hp
 |cons c r ih=>
  have h2:=ank.1 h
  rcases amf.1 hp with rfl|hp
  ·rcases amf.1 hq with rfl|hq
   ·rfl
   ·have:=h2.1 q hq;omega
  ·rcases amf.1 hq with e2|hq
   ·have:=h2.1 p hp;rw[e2]at e;omega
   ·exact ih h2.2 hp hq
theorem OG{l:List (Int×Nat)}(h:zS l)(h0:l≠[]):QZ (VZ l) l:=by
 cases l with
 |nil=>exact absurd rfl h0
 |cons p r=>exact⟨JP p r,V0 p r h⟩
theorem QZ.eq{p q:Int×Nat}{l:List (Int×Nat)}(h:zS l)(h1:QZ p l)(h2:QZ q l):p=q:=by
 by_cases e:p.2=q.2
 ·exact h.inj h1.m h2.m e
 ·have a:=h1.l q h2.m (Ne.symm e)
  have b:=h2.l p h1.m e
  omega
theorem pW{l:List (Int×Nat)}{p q:Int×Nat}:q∈wo l p↔q∈l∧q.2≠p.2:=by unfold wo;rw[anZ];simp
theorem zS.wo{l:List (Int×Nat)}(h:zS l)(p:Int×Nat):zS (wo l p):=List.Pairwise.sublist List.filter_sublist h
theorem BA{l:List (Int×Nat)}(h:zS l){p:Int×Nat}(hp:p∈l):l.Perm (p::wo l p):=by
 induction l with
 |nil=>cases hp
 |cons c r ih=>
  have h2:=ank.1 h
  unfold wo
  rw[anV]
  rcases amf.1 hp with rfl|hp
  ·rw[if_neg (by simp)]
   have:r.filter (fun q=>decide (q.2≠p.2))=r:=by
    rw[aod]
    intro q hq
    have:=h2.1 q hq
    simp
    omega
   rw[this]
  ·have hc:=h2.1 p hp
   rw[if_pos (by simp;omega)]
   exact((ih h2.2 hp).cons c).trans (List.Perm.swap _ _ _)
structure zT(ws:List Int)(k:Nat)(s:Jl):Prop where
 ids:zS s.bX
 lt:∀p∈s.bX,p.2<s.at_
 at_:s.at_=ws.length+k
 len:s.bX.length+k=ws.length
 rt:∀i,i<s.at_→(∃p∈s.bX,p.2=s.R i)∧i≤s.R i
 TL:∀p∈s.bX,s.R p.2=p.2∧s.d p.2=0
 upI:∀i,i<s.at_→s.R i≠i→i<s.up i∧s.up i<s.at_∧s.R i=s.R (s.up i)∧s.d i=s.d (s.up i)+1
 wt:∀p∈s.bX,jd ws.length (fun i=>if s.R i=p.2 then ws.getD i 0 else 0)=p.1
 dl:∀i,i<s.at_→s.d i≤k
 kr:∀p∈s.bX,vu ws.length (fun i=>if s.R i=p.2 then 2^ (ws.length - s.d i)else 0)=2^ws.length
 huf:∀c,EZ (s.bX.map (·.1)) c→EZ ws (c+jd ws.length (fun i=>ws.getD i 0*(s.d i:Int)))
theorem pX(ws:List Int):(List.range ws.length).map (fun i=>ws.getD i 0)=ws:=by
 apply amN
 intro i
 rw[amo]
 by_cases h:i<ws.length
 ·rw[am8 h,al5 h]
  simp[al9,al5 h]
 ·rw[amk (by simp;omega),amk (by omega)]
  rfl
theorem zT.init(ws:List Int):zT ws 0 (mz ws):=by
 have hm:∀p∈(mz ws).bX,p.2<ws.length∧p.1=ws.getD p.2 0:=fun p hp=>by
  obtain⟨i,hi,rfl⟩:=amJ.1 hp
  exact⟨am2.1 hi,rfl⟩
 refine⟨?_,fun p hp=>(hm p hp).1,rfl,?_,fun i hi=>⟨⟨(ws.getD i 0,i),amJ.2 ⟨i,am2.2 hi,rfl⟩,rfl⟩,ami _⟩,fun p _=>⟨rfl,rfl⟩,fun i hi h=>absurd rfl h,fun p hp=>?_,fun i _=>ami _,fun p hp=>?_,fun c hc=>?_⟩
 ·unfold zS mz
  rw[aoi]
  exact List.pairwise_lt_range
 ·simp[mz]
 ·obtain⟨h1,h2⟩:=hm p hp
  rw[h2]
  exact Rt h1 (fun i=>ws.getD i 0)
 ·obtain⟨h1,h2⟩:=hm p hp
  exact Ru h1 (fun _=>2^ (ws.length - 0))
 ·have h1:(mz ws).bX.map (·.1)=ws:=by
   unfold mz
   rw[anJ]
   exact pX ws
  rw[h1]at hc
  rw[Jk (fun i _=>by show ws.getD i 0*((0:Nat):Int)=0;simp),Int.add_zero]
  exact hc
theorem Jl.U7{ws:List Int}{k:Nat}{s:Jl}(h:zT ws k s)(hk:k+1<ws.length):QZ s.a s.bX∧QZ s.b (wo s.bX s.a)∧s.a.2≠s.b.2∧s.b∈s.bX∧s.bX.Perm (s.a::s.b::wo (wo s.bX s.a) s.b):=by
 have hl:=h.len
 have h1:QZ s.a s.bX:=OG h.ids (fun e=>by rw[e]at hl;simp at hl;omega)
 have p1:=BA h.ids h1.m
 have h2:QZ s.b (wo s.bX s.a):=OG (h.ids.wo _) (fun e=>by
  have:=p1.length_eq
  rw[e]at this
  simp at this
  omega)
 obtain⟨m1,m2⟩:=pW.1 h2.m
 exact⟨h1,h2,fun e=>m2 e.symm,m1,p1.trans ((BA (h.ids.wo _) h2.m).cons _)⟩
theorem zT.step{ws:List Int}{k:Nat}{s:Jl}(h:zT ws k s)(hk:k+1<ws.length):zT ws (k+1) s.step:=by
 obtain⟨ha,hb,zQ,Dj,hp⟩:=Jl.U7 h hk
 have oU:=h.at_
 have la:=h.lt _ ha.m
 have lb:=h.lt _ Dj
 have cF:∀q,q∈s.step.bX→(q∈s.bX∧q.2≠s.a.2∧q.2≠s.b.2)∨q=(s.a.1+s.b.1,s.at_):=fun q hq=>by
  rcases aml.1 hq with hq|hq
  ·obtain⟨h1,h2⟩:=pW.1 hq
   obtain⟨h3,h4⟩:=pW.1 h1
   exact .inl ⟨h3,h4,h2⟩
  ·exact .inr (by simpa using hq)
 have hR:∀i,i<s.at_→s.step.R i=if s.R i=s.a.2∨s.R i=s.b.2 then s.at_ else s.R i:=fun i hi=>by show(if i=s.at_ then i else _)=_;rw[if_neg (by omega)]
 have hd:∀i,i<s.at_→s.step.d i=if s.R i=s.a.2∨s.R i=s.b.2 then s.d i+1 else s.d i:=fun i hi=>by show(if i=s.at_ then 0 else _)=_;rw[if_neg (by omega)]
 have hRa:s.step.R s.at_=s.at_:=by show(if s.at_=s.at_ then s.at_ else _)=_;rw[if_pos rfl]
 have hda:s.step.d s.at_=0:=by show(if s.at_=s.at_ then 0 else _)=_;rw[if_pos rfl]
 have ZE:∀i,i<s.at_→s.R i<s.at_:=fun i hi=>by obtain⟨⟨p,p1,p2⟩,_⟩:=h.rt i hi;rw[←p2];exact h.lt p p1
 have sa:=h.TL _ ha.m
 have sb:=h.TL _ Dj
 refine⟨?_,fun p wu=>?_,by show s.at_+1=_;omega,?_,fun i hi=>?_,fun p wu=>?_,fun i hi aT=>?_,fun p wu=>?_,fun i hi=>?_,fun p wu=>?_,fun c hc=>?_⟩
 ·show zS (_++_)
  unfold zS
  rw[an9]
  refine⟨(h.ids.wo _).wo _,by simp,fun q hq z hz=>?_⟩
  obtain⟨h1,_⟩:=pW.1 hq
  obtain⟨h3,_⟩:=pW.1 h1
  rw[amg.1 hz]
  exact h.lt q h3
 ·show p.2<s.at_+1
  rcases cF p wu with h1|h1
  ·have:=h.lt p h1.1;omega
  ·rw[h1];simp
 ·have h1:=hp.length_eq
  have h2:=h.len
  show(wo (wo s.bX s.a) s.b++[_]).length+(k+1)=_
  simp at h1 ⊢
  omega
 ·have oq:i<s.at_+1:=hi
  by_cases e:i=s.at_
  ·rw[e,hRa]
   exact⟨⟨(s.a.1+s.b.1,s.at_),am4 _ (by simp),rfl⟩,ami _⟩
  ·have uU:i<s.at_:=by omega
   obtain⟨⟨p,p1,p2⟩,h4⟩:=h.rt i uU
   rw[hR i uU]
   split
   ·exact⟨⟨(s.a.1+s.b.1,s.at_),am4 _ (by simp),rfl⟩,by omega⟩
   ·rename_i hn
    refine⟨⟨p,amI _ (pW.2 ⟨pW.2 ⟨p1,fun e=>hn (.inl (by omega))⟩,fun e=>hn (.inr (by omega))⟩),p2⟩,h4⟩
 ·rcases cF p wu with ⟨h1,h2,h3⟩|h1
  ·have h4:=h.lt p h1
   obtain⟨h5,h6⟩:=h.TL p h1
   rw[hR _ h4,hd _ h4,h5,if_neg (by omega),if_neg (by omega)]
   exact⟨rfl,h6⟩
  ·rw[h1];exact⟨hRa,hda⟩
 ·have oq:i<s.at_+1:=hi
  have e:i≠s.at_:=fun e=>aT (by rw[e,hRa])
  have uU:i<s.at_:=by omega
  have E0:s.step.up i=if i=s.a.2∨i=s.b.2 then s.at_ else s.up i:=rfl
  rw[E0]
  by_cases La:i=s.a.2∨i=s.b.2
  ·rw[if_pos La]
   have hRi:s.R i=i∧s.d i=0:=by
    rcases La with e|e
    ·rw[e];exact sa
    ·rw[e];exact sb
   rw[hRa,hda,hR i uU,hd i uU,hRi.1,if_pos La,if_pos La,hRi.2]
   exact⟨uU,by show s.at_<s.at_+1;omega,rfl,rfl⟩
  ·rw[if_neg La]
   have hRi:s.R i≠i:=fun e2=>aT (by
    rw[hR i uU,e2,if_neg La])
   obtain⟨u1,u2,u3,u4⟩:=h.upI i uU hRi
   rw[hR i uU,hd i uU,hR _ u2,hd _ u2,←u3]
   refine⟨u1,by show s.up i<s.at_+1;omega,rfl,?_⟩
   split<;>omega
 ·rcases cF p wu with ⟨h1,h2,h3⟩|h1
  ·rw[←h.wt p h1]
   refine mJ fun i hi=>?_
   have uU:i<s.at_:=by omega
   have:=h.lt p h1
   rw[hR i uU]
   by_cases e:s.R i=s.a.2∨s.R i=s.b.2
   ·rw[if_pos e,if_neg (by omega),if_neg (by omega)]
   ·rw[if_neg e]
  ·rw[h1]
   show jd ws.length (fun i=>if s.step.R i=s.at_ then ws.getD i 0 else 0)=s.a.1+s.b.1
   rw[←h.wt _ ha.m,←h.wt _ Dj,←Bz]
   refine mJ fun i hi=>?_
   have uU:i<s.at_:=by omega
   have:=ZE i uU
   rw[hR i uU]
   by_cases e1:s.R i=s.a.2
   ·rw[if_pos (Or.inl e1),if_pos rfl,if_pos e1,if_neg (by omega)];omega
   ·by_cases e2:s.R i=s.b.2
    ·rw[if_pos (Or.inr e2),if_pos rfl,if_neg e1,if_pos e2];omega
    ·have e3:¬ (s.R i=s.a.2∨s.R i=s.b.2):=by omega
     rw[if_neg e3,if_neg (show¬s.R i=s.at_ by omega),if_neg e1,if_neg e2];rfl
 ·have oq:i<s.at_+1:=hi
  by_cases e:i=s.at_
  ·rw[e,hda];omega
  ·have:=h.dl i (by omega)
   rw[hd i (by omega)]
   split<;>omega
 ·rcases cF p wu with ⟨h1,h2,h3⟩|h1
  ·rw[←h.kr p h1]
   refine zR fun i hi=>?_
   have uU:i<s.at_:=by omega
   have:=h.lt p h1
   rw[hR i uU,hd i uU]
   by_cases e:s.R i=s.a.2∨s.R i=s.b.2
   ·rw[if_pos e,if_neg (by omega),if_neg (by omega)]
   ·rw[if_neg e,if_neg e]
  ·rw[h1]
   have h5:2*vu ws.length (fun i=>if s.step.R i=s.at_ then 2^ (ws.length - s.step.d i)else 0)=2^ws.length+2^ws.length:=by
    rw[←Rs,←h.kr _ ha.m]
    conv=>rhs;rw[h.kr _ ha.m];arg 2;rw[←h.kr _ Dj]
    rw[←h.kr _ ha.m,←Rr]
    refine zR fun i hi=>?_
    have uU:i<s.at_:=by omega
    have:=ZE i uU
    have hdl:=h.dl i uU
    rw[hR i uU,hd i uU]
    have e2:2*2^ (ws.length - (s.d i+1))=2^ (ws.length - s.d i):=by
     rw[show ws.length - s.d i=(ws.length - (s.d i+1))+1 by omega,Nat.pow_succ]
     omega
    by_cases e1:s.R i=s.a.2
    ·rw[if_pos (Or.inl e1),if_pos rfl,if_pos (Or.inl e1),if_pos e1,if_neg (by omega),e2,Nat.add_zero]
    ·by_cases e3:s.R i=s.b.2
     ·rw[if_pos (Or.inr e3),if_pos rfl,if_pos (Or.inr e3),if_neg e1,if_pos e3,e2];omega
     ·have e4:¬ (s.R i=s.a.2∨s.R i=s.b.2):=by omega
      rw[if_neg e4,if_neg (show¬s.R i=s.at_ by omega),if_neg e1,if_neg e3]
   show vu ws.length (fun i=>if s.step.R i=s.at_ then 2^ (ws.length - s.step.d i)else 0)=_
   omega
 ·have zC:EZ ((s.a.1+s.b.1)::(wo (wo s.bX s.a) s.b).map (·.1)) c:=by
   refine hc.perm ?_
   show List.Perm _ ((wo (wo s.bX s.a) s.b++[(s.a.1+s.b.1,s.at_)]).map (·.1))
   rw[amU]
   exact am1 (l₁:=[s.a.1+s.b.1])
  have h5:=h.huf (c+(s.a.1+s.b.1)) (.step (hp.map (·.1)) (by
   rcases ha.l _ Dj (Ne.symm zQ)with h|h<;>omega) (fun r hr=>by
   obtain⟨q,hq,rfl⟩:=amJ.1 hr
   obtain⟨h1,h2⟩:=pW.1 hq
   rcases hb.l q h1 h2 with h|h<;>omega) zC)
  have h6:jd ws.length (fun i=>ws.getD i 0*(s.step.d i:Int))=jd ws.length (fun i=>ws.getD i 0*(s.d i:Int))+(s.a.1+s.b.1):=by
   rw[←h.wt _ ha.m]
   conv=>rhs;arg 2;arg 2;rw[←h.wt _ Dj]
   rw[←Bz,←Bz]
   refine mJ fun i hi=>?_
   have uU:i<s.at_:=by omega
   rw[hd i uU]
   by_cases e1:s.R i=s.a.2
   ·rw[if_pos (Or.inl e1),if_pos e1,if_neg (by omega),show((s.d i+1:Nat):Int)=(s.d i:Int)+1 by omega,Int.mul_add,Int.mul_one];omega
   ·by_cases e2:s.R i=s.b.2
    ·rw[if_pos (Or.inr e2),if_neg e1,if_pos e2,show((s.d i+1:Nat):Int)=(s.d i:Int)+1 by omega,Int.mul_add,Int.mul_one];omega
    ·have e3:¬ (s.R i=s.a.2∨s.R i=s.b.2):=by omega
     rw[if_neg e3,if_neg e1,if_neg e2];omega
  rw[h6]
  rw[show c+(jd ws.length (fun i=>ws.getD i 0*(s.d i:Int))+(s.a.1+s.b.1))=c+(s.a.1+s.b.1)+jd ws.length (fun i=>ws.getD i 0*(s.d i:Int)) by omega]
  exact h5
theorem zT.run(ws:List Int):∀k,k<ws.length→zT ws k (rK k (mz ws)):=by
 intro k
 induction k with
 |zero=>intro _;exact zT.init ws
 |succ k ih=>intro hk;exact(ih (by omega)).step hk
end Go.Proofs.YtjlnnljohemifaaGreat

namespace Go.Proofs.YtjlnnljohemifaaGreat
structure Lb(ws:List Int)(s:Jl):Prop where
 at_:s.at_=2*ws.length - 1
 root:∀i,i<s.at_→s.R i=2*ws.length - 2
 Po:s.d (2*ws.length - 2)=0
 up:∀i,i<2*ws.length - 2→i<s.up i∧s.up i≤2*ws.length - 2∧s.d i=s.d (s.up i)+1
 dl:∀i,i<s.at_→s.d i≤ws.length - 1
 kr:vu ws.length (fun i=>2^ (ws.length - s.d i))=2^ws.length
 huf:EZ ws (jd ws.length (fun i=>ws.getD i 0*(s.d i:Int)))
def yg(ws:List Int):Jl:=rK (ws.length - 1) (mz ws)
theorem Lb.K9{ws:List Int}(hn:1≤ws.length):Lb ws (yg ws):=by
 have h:=zT.run ws (ws.length - 1) (by omega)
 unfold yg
 generalize rK (ws.length - 1) (mz ws)=s at*
 have oU:=h.at_
 have hl:=h.len
 obtain⟨p,hp⟩:∃p,s.bX=[p]:=by
  match s.bX,hl with
  | [p],_=>exact⟨p,rfl⟩
  | [],hl=>simp at hl;omega
  |_::_::_,hl=>simp at hl;omega
 have uV:p∈s.bX:=by rw[hp];simp
 have MX:=h.lt p uV
 have hR:∀i,i<s.at_→s.R i=p.2∧i≤p.2:=fun i hi=>by
  obtain⟨⟨q,hq,e⟩,h2⟩:=h.rt i hi
  rw[hp,amg]at hq
  rw[hq]at e
  omega
 have wu:p.2=2*ws.length - 2:=by
  have:=(hR (s.at_ - 1) (by omega)).2
  omega
 obtain⟨_,hd⟩:=h.TL p uV
 refine⟨by omega,fun i hi=>by rw[(hR i hi).1,wu],by rw[←wu];exact hd,fun i hi=>?_,fun i hi=>h.dl i hi,?_,?_⟩
 ·obtain⟨u1,u2,u3,u4⟩:=h.upI i (by omega) (by rw[(hR i (by omega)).1];omega)
  exact⟨u1,by omega,u4⟩
 ·rw[←h.kr p uV]
  exact zR fun i hi=>by rw[if_pos (hR i (by omega)).1]
 ·have:=h.huf 0 (by rw[hp];exact .one _)
  rwa[Int.zero_add]at this
theorem V5(M n:Nat)(d:Nat→Nat):kS M ((List.range n).map d)=vu n fun i=>2^ (M - d i):=by
 unfold kS vu
 rw[anJ]
 rfl
theorem Rv(n:Nat):∀ (ns:List Nat),ns.length=n→(List.range n).map (fun i=>ns.getD i 0)=ns:=by
 intro ns h
 apply amN
 intro i
 rw[amo]
 by_cases hi:i<n
 ·rw[am8 hi,al5 (by omega)]
  simp[al9,al5 (show i<ns.length by omega)]
 ·rw[amk (by simp;omega),amk (by omega)]
  rfl
theorem Rx(ws:List Int):(tN ws).length=ws.length:=by unfold tN;simp
theorem TM{ws:List Int}{i:Nat}(hi:i<ws.length):(tN ws)[i]? =some ((yg ws).d i):=by
 unfold tN yg
 rw[amo,am8 hi]
 rfl
theorem OH{ws:List Int}(hn:1≤ws.length):∀n∈tN ws,n≤ws.length - 1:=by
 intro n h
 obtain⟨i,hi,rfl⟩:=amJ.1 h
 have hi:=am2.1 hi
 exact(Lb.K9 hn).dl i (by rw[(Lb.K9 hn).at_];omega)
theorem Lc{ws:List Int}(hn:2≤ws.length):∀n∈tN ws,1≤n:=by
 intro n h
 obtain⟨i,hi,rfl⟩:=amJ.1 h
 have hi:=am2.1 hi
 have:=(Lb.K9 (ws:=ws) (by omega)).up i (by omega)
 show 1≤(yg ws).d i
 omega
theorem Pp{ws:List Int}(hn:1≤ws.length):kS ws.length (tN ws)=2^ws.length:=by
 unfold tN
 rw[V5]
 exact(Lb.K9 hn).kr
def Gf(ws:List Int)(ns:List Nat):Int:=jd ws.length fun i=>ws.getD i 0*(ns.getD i 0:Int)
theorem Pq{ws:List Int}:Gf ws (tN ws)=jd ws.length fun i=>ws.getD i 0*((yg ws).d i:Int):=by
 refine mJ fun i hi=>?_
 rw[al9 (l:=tN ws),TM hi]
 rfl
theorem MY{ws:List Int}(hn:1≤ws.length)(hw:∀w∈ws,0≤w){ns:List Nat}(hl:ns.length=ws.length){M:Nat}(hM:∀n∈ns,n≤M)(hk:kS M ns≤2^M):Gf ws (tN ws)≤Gf ws ns:=by
 rw[Pq]
 have h:=(Lb.K9 hn).huf.least hw ((List.range ws.length).map fun i=>(ws.getD i 0,ns.getD i 0)) M (by
  rw[anJ]
  rw[show(List.range ws.length).map ((fun p:Int×Nat=>p.1)∘fun i=>(ws.getD i 0,ns.getD i 0))=ws from pX ws]) (fun p hp=>by
  obtain⟨i,hi,rfl⟩:=amJ.1 hp
  have hi:=am2.1 hi
  refine hM _ ?_
  show ns.getD i 0∈ns
  rw[al9,al5 (show i<ns.length by omega)]
  exact anW _) (by
  unfold vt
  rw[anJ]
  rw[show(List.range ws.length).map ((fun p:Int×Nat=>p.2)∘fun i=>(ws.getD i 0,ns.getD i 0))=ns from Rv _ ns hl]
  exact hk)
 have e:ny ((List.range ws.length).map fun i=>(ws.getD i 0,ns.getD i 0))=Gf ws ns:=by
  unfold ny Gf jd
  rw[anJ]
  rfl
 rwa[e]at h
theorem Ld{n:Nat}{f:Nat→Int}(h:∀i,i<n→0≤f i):0≤jd n f:=by
 induction n with
 |zero=>exact anT _
 |succ n ih=>
  rw[dA]
  have:=ih fun i hi=>h i (by omega)
  have:=h n (by omega)
  omega
end Go.Proofs.YtjlnnljohemifaaGreat
