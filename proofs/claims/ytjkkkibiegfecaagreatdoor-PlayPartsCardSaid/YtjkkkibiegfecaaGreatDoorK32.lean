/- Texts put behind each other. -/
import Derived.Test.YtjkkkibiegfecaaGreatDoorK98
import Derived.Test.YtjkkkibiegfecaaGreatDoorK1
import Derived.Test.YtjkkkibiegfecaaGreatDoorK21
import Derived.Test.YtjkkkibiegfecaaGreatDoorK22
import Derived.Test.YtjkkkibiegfecaaGreatDoorK24
import Derived.Test.YtjkkkibiegfecaaGreatDoorK26
import Derived.Test.YtjkkkibiegfecaaGreatDoorK30
set_option maxRecDepth 100000
set_option maxHeartbeats 8000000
set_option linter.unusedVariables false
set_option linter.unusedSimpArgs false
namespace Go.Proofs.YtjkkkibiegfecaaGreatDoor
open Go Go.Vc
section
variable {H H' : Hp} {ro ro' : Nat → Rl} {fb tb n : Nat} {l : List Value} {V : Int → Value} {ch : Int → List Int} {ay : Int → Int} {kb : Int → Option Nat} {T : Nat → Prop}
theorem wo(m:ForM H ro fb tb n l V ch ay kb){a:Option Addr}{c:Nat}{xs:List Int}(h:fh H 1 (.slice a xs.length c) xs.length (xs.map i64))(hr:∀x∈xs,(0≤x∧x<n)∧ay x= -1)(hR:Fu ch xs)(hm:xs.length≤1000000):
  ag Tryz.prog zn [ptr fb,.slice a xs.length c] H fun v H'=>ap (v= .bool true∧H'=H):=by
 refine aU zO ?_
 refine vs ?_
 refine bX.intro (fun m env H'=>H'=H∧∃j:Nat,m=xs.length - j∧j≤xs.length∧env=[(0,ptr fb),(1,.slice a xs.length c),(7,.slice a xs.length c),(8,i64 xs.length),(9,i64 j)]) xs.length (by grind) ?_
 rintro mm env H1 ⟨e1,j,rfl,hj,rfl⟩
 obtain rfl:=e1.symm
 refine vs ?_
 refine ar.dec (fun bf=>?_) (fun bf=>?_)<;>refine vs ?_
 ·have FF:j<xs.length:=by omega
  obtain⟨x,hx⟩:∃x,xs[j]? =some x:=⟨_,aol FF⟩
  obtain⟨_,b,o,lb,rfl,OS,dv⟩:=fh.num h hx
  obtain⟨nO,PN⟩:=hr x (by grind)
  refine⟨by omega,?_⟩
  refine v4 OS Int.toNat_natCast aok dv ?_
  refine(ix m.t x).mono ?_
  rintro _ H' ⟨rfl,e⟩
  obtain rfl:=e.symm
  rw[aov nO,aov PN]
  refine vs ?_
  refine ar.dec (fun h0=>?_) (fun h0=>?_)
  ·obtain⟨k,rfl⟩:∃k,j=k+1:=⟨j - 1,by omega⟩
   obtain⟨y,hy⟩:∃y,xs[k]? =some y:=by grind
   obtain⟨_,b',o',Wp,eJ,agj,X9⟩:=fh.num h hy
   injection eJ with eJ
   injection eJ with agk agl
   subst agk agl
   have O3:(ch y).length< (ch x).length:=by
    have:=List.pairwise_iff_getElem.1 hR k (k+1) (by omega) (by omega) (by omega)
    rw[aol (by omega)]at hx hy
    injection hx with hx
    injection hy with hy
    rw[hx,hy]at this
    exact this
   refine vs ?_
   rw[wrap64 (n:=((k+1:Nat):Int) - 1) (by omega) (by omega),show((k+1:Nat):Int) - 1=(k:Int) by omega]
   refine⟨by omega,?_⟩
   refine v4 agj Int.toNat_natCast aok X9 ?_
   refine(dC m y).mono ?_
   rintro _ H' ⟨rfl,e⟩
   obtain rfl:=e.symm
   refine vs ?_
   refine(dC m x).mono ?_
   rintro _ H' ⟨rfl,e⟩
   obtain rfl:=e.symm
   refine vs ?_
   refine ar.dec (fun Wa=>by omega) (fun _=>?_)
   refine vs ?_
   rw[wrap64 (n:=((k+1:Nat):Int)+1) (by omega) (by omega)]
   exact⟨xs.length - (k+1+1),by omega,trivial,k+1+1,rfl,by omega,rfl⟩
  ·refine vs ?_
   rw[wrap64 (n:=(j:Int)+1) (by omega) (by omega)]
   exact⟨xs.length - (j+1),by omega,trivial,j+1,rfl,by omega,rfl⟩
 ·exact⟨rfl,rfl⟩
theorem rO(t:oK H fb tb n l V ay){x:Int}(hx:0≤x∧x<n){kv:Value}{m:Nat}{ks:List Int}{fp:Option Nat}(s:Sl H 1 kv m (ks.map i64) fp)(jg:fp≠some tb)(ci:∀k∈ks,0≤k∧k<n)(hl:ks.length≤1000000):
  ag Tryz.prog vd [ptr fb,i64 x,kv] H fun v H'=>ap (∃l',oK H' fb tb n l' (vR V x kv) (fun z=>if z∈ks then x else ay z)∧ah (fun z=>z=tb) H H'):=by
 obtain rfl:m=ks.length:=by
  have:=s.1
  grind
 obtain⟨ka,kc,rfl⟩:=Sl.shape s
 have rl:=t.len
 refine aU vB ?_
 refine v1 (ae t.own) ?_
 refine⟨by omega,?_⟩
 refine v3 t.wP aoi Nat.add_zero ?_
 refine⟨by omega,?_⟩
 obtain⟨t1,e1⟩:=t.vR hx (.slice ka ks.length kc)
 refine vs ?_
 have s1:=s.ext e1 (by grind)
 have Ay:=t1.len
 generalize H.wr tb (l.set (x.toNat*2) (.slice ka ks.length kc))=H1 at*
 refine bX.intro (fun mm env H'=>∃ (j:Nat) (l':List Value),mm=ks.length - j∧j≤ks.length∧oK H' fb tb n l' (vR V x (.slice ka ks.length kc)) (fun z=>if z∈ks.take j then x else ay z)∧ah (fun z=>z=tb) H1 H'∧
  env=[(0,ptr fb),(1,i64 x),(16,.slice ka ks.length kc),(17,i64 ks.length),(18,i64 j)]) ks.length ⟨0,_,by omega,by omega,by simpa using t1,ah.refl _ _,rfl⟩ ?_
 rintro mm env H2 ⟨j,l2,rfl,hj,t2,e2,rfl⟩
 have s2:=s1.ext e2 (by grind)
 have uG:=t2.len
 refine vs ?_
 refine ar.dec (fun bf=>?_) (fun bf=>?_)<;>refine vs ?_
 ·have FF:j<ks.length:=by omega
  obtain⟨k,hk⟩:∃k,ks[j]? =some k:=⟨_,aol FF⟩
  obtain⟨_,b,lb,rfl,q2,q3⟩:=Sl.Ab s2 hk
  have ZL:=ci k (by grind)
  refine⟨by omega,?_⟩
  refine v6 (ae q2) aoi aok Int.toNat_natCast q3 (ae t2.own) ?_
  refine⟨by omega,?_⟩
  refine v3 t2.wP aoi Nat.add_zero ?_
  refine⟨by omega,?_⟩
  obtain⟨t3,e3⟩:=t2.aJ ZL x
  refine vs ?_
  rw[wrap64 (n:=(j:Int)+1) (by omega) (by omega)]
  refine⟨ks.length - (j+1),by omega,j+1,l2.set (k.toNat*2+1) (i64 x),rfl,by omega,?_,e2.trans e3,rfl⟩
  have tk:ks.take (j+1)=ks.take j++[k]:=by rw[aoL,hk];rfl
  have:(fun z=>if z∈ks.take (j+1)then x else ay z)=aJ (fun z=>if z∈ks.take j then x else ay z) k x:=by
   funext z
   unfold aJ
   rw[tk]
   by_cases hz:z=k
   ·grind
   ·grind
  grind
 ·obtain rfl:j=ks.length:=by omega
  rw[aoP]at t2
  exact⟨l2,t2,e1.trans e2⟩
theorem RK.kbs{s:Nat}(r:RK s ro ro'){z:Nat}(hz:z<s)(h:KB ro' z):KB ro z:=by
 rcases h with h| ⟨x,h⟩
 ·refine .inl ?_
  cases r;grind
 ·refine .inr ?_
  cases r;grind
theorem DK(m:ForM H ro fb tb n l V ch ay kb)(hz:∀z,H.size≤z→ro z= .no){x:Int}(hx:0≤x∧x<n)(px:ay x= -1)(hl:(ch x).length≤65536):
  ag Tryz.prog u0 [ptr fb,i64 x] H fun v H'=>ap (∃ro' l' V' tK fp,ForM H' ro' fb tb n l' V' (az ch x []) (fx ch ay x) tK∧RK H.size ro ro'∧(∀z,H'.size≤z→ro' z= .no)∧ah (KB ro) H H'∧
   Sl H' 1 v (ch x).length ((ch x).map i64) fp∧∀b,fp=some b→H.size≤b∧ro' b= .no):=by
 have ht:=m.t.len
 obtain⟨a1,a2⟩:=m.t.at_ x hx.1 hx.2
 have kx:=m.kd x hx.1 hx.2
 obtain⟨ka,kc,hvx⟩:=Sl.shape kx
 rw[hvx]at a1 kx
 refine aU vz ?_
 refine vs ?_
 refine(ix m.t x).mono ?_
 rintro _ H' ⟨rfl,e⟩
 obtain rfl:=e.symm
 rw[aov hx,aov px]
 refine v1 (ae m.t.own) ?_
 refine⟨by omega,?_⟩
 refine v5 (ae m.t.own) (ae m.t.wP) aoi Nat.add_zero a1 ?_
 refine⟨by omega,?_⟩
 refine v3 m.t.wP aoi Nat.add_zero ?_
 refine⟨by omega,?_⟩
 obtain⟨Ya,ZT,m1,r1,n1,e1⟩:=m.put hz hx (ah.refl _ H) (Sl.nil H 1) (w':=.slice none 0 0) (L':=[]) (.inr (.inl rfl)) (by simp)
 refine vs ?_
 have alB:∀b,kb x=some b→b≠tb:=fun b hb e=>by
  have:=m.rk x b hx.1 hx.2 hb
  rw[e,m.rt]at this
  grind
 have s1:=kx.ext (m.t.vR hx (.slice none 0 0)).2 (by omega)
 generalize H.wr tb (l.set (x.toNat*2) (.slice none 0 0))=H1 at*
 refine bX.intro (fun mm env H'=>∃ (j:Nat) (l':List Value),mm=(ch x).length - j∧j≤(ch x).length∧ForM H' Ya fb tb n l' (vR V x (.slice none 0 0)) (az ch x []) (fun z=>if z∈(ch x).take j then -1 else ay z) ZT∧ah (fun z=>z=tb) H1 H'∧
  env=[(0,ptr fb),(5,.slice ka (ch x).length kc),(27,.slice ka (ch x).length kc),(28,i64 (ch x).length),(29,i64 j)]) (ch x).length ⟨0,_,by omega,by omega,by simpa using m1,ah.refl _ _,rfl⟩ ?_
 rintro mm env H2 ⟨j,l2,rfl,hj,m2,e2,rfl⟩
 have s2:=s1.ext e2 (by omega)
 have uG:=m2.t.len
 have hrt:Ya tb= .table:=m2.rt
 refine vs ?_
 refine ar.dec (fun bf=>?_) (fun bf=>?_)<;>refine vs ?_
 ·have FF:j< (ch x).length:=by omega
  obtain⟨k,hk⟩:∃k,(ch x)[j]? =some k:=⟨_,aol FF⟩
  obtain⟨_,b,lb,rfl,q2,q3⟩:=Sl.Ab s2 hk
  have ZL:=m.HT x k (by grind)
  refine⟨by omega,?_⟩
  refine v6 (ae q2) aoi aok Int.toNat_natCast q3 (ae m2.t.own) ?_
  refine⟨by omega,?_⟩
  refine v3 m2.t.wP aoi Nat.add_zero ?_
  refine⟨by omega,?_⟩
  obtain⟨m3,_⟩:=m2.aJ ZL (-1)
  obtain⟨_,e3⟩:=m2.t.aJ ZL (-1)
  refine vs ?_
  rw[wrap64 (n:=(j:Int)+1) (by omega) (by omega)]
  refine⟨(ch x).length - (j+1),by omega,j+1,l2.set (k.toNat*2+1) (i64 (-1)),rfl,by omega,?_,e2.trans e3,rfl⟩
  have tk:(ch x).take (j+1)=(ch x).take j++[k]:=by rw[aoL,hk];rfl
  have:(fun z=>if z∈(ch x).take (j+1)then(-1:Int)else ay z)=aJ (fun z=>if z∈(ch x).take j then -1 else ay z) k (-1):=by
   funext z
   unfold aJ
   rw[tk]
   by_cases hz:z=k
   ·grind
   ·grind
  grind
 ·obtain rfl:j=(ch x).length:=by omega
  rw[aoP]at m2
  refine(pF s2.rd (by omega)).mono ?_
  rintro v H3 ⟨f3,fp,s3,jg⟩
  have z2:=e2.size
  have z1:=e1.size
  have z3:=f3.size
  refine vs ?_
  refine⟨Ya,l2,_,ZT,fp,m2.fresh f3,r1,by grind,?_,s3,by grind⟩
  exact(e1.trans (e2.mono fun z jH h=>.inl (by rw[h];exact m.rt))).trans (f3.mono fun _ _ h=>h.elim)
def nh(j k:Nat):List Value:=(List.replicate j [Value.slice none 0 0,Value.int .i64 (-1)]).flatten++(List.replicate k [Value.slice none 0 0,Value.int .i64 0]).flatten
theorem JS(j:Nat)(a b:Value):((List.replicate j [a,b]).flatten).length=j*2:=by
 simp_all
theorem Tn{j i:Nat}(a b:Value)(hi:i<j):((List.replicate j [a,b]).flatten)[i*2]? =some a∧((List.replicate j [a,b]).flatten)[i*2+1]? =some b:=by
 induction j generalizing i with
 |zero=>omega
 |succ j ih=>
  rw[ao2,aps]
  cases i with
  |zero=>grind
  |succ i=>
   grind
theorem Rn(j k:Nat):(nh j k).length=(j+k)*2:=by grind [nh,JS]
theorem Ro(j k:Nat):(nh j (k+1)).set (j*2+1) (Value.int .i64 (-1))=nh (j+1) k:=by
 unfold nh
 rw[apA _ _ (by simp_all),JS,show j*2+1 - j*2=1 by omega,ao2,aps,apC,List.flatten_append]
 simp
theorem Ht(H:Hp){n:Int}(hn:0≤n∧n≤65536):ag Tryz.prog Mf [i64 n] H fun v H'=>ap (∃fb tb l,v= .tuple [ptr fb,i64 0].toArray∧oK H' fb tb n.toNat l (fun _=>.slice none 0 0) (fun _=> -1)∧ai H H'∧H.size≤fb∧H.size≤tb):=by
 refine aU Mm ?_
 refine vs ?_
 refine ar.dec (fun g=>absurd g (by omega)) (fun _=>?_)
 refine vs ?_
 refine ar.dec (fun g=>absurd g (by omega)) (fun _=>?_)
 refine vs ?_
 refine⟨by omega,?_⟩
 refine vs ?_
 rw[show dE [Value.slice none 0 0,Value.int .i64 0] n.toNat=nh 0 n.toNat from rfl]
 obtain⟨N,hN⟩:∃N:Nat,n=(N:Int):=⟨n.toNat,by omega⟩
 subst hN
 rw[Int.toNat_natCast]
 have f0:ai H ((H.new 290 (nh 0 N)).new 288 [.slice (some ⟨H.size,0,none⟩) N N]):=((ah.refl _ _).new _ _).new _ _
 have t0:((H.new 290 (nh 0 N)).new 288 [.slice (some ⟨H.size,0,none⟩) N N]).own (H.size+1)=some [.slice (some ⟨H.size,0,none⟩) N N]:=aR (by simp only[ak])
 have t1:((H.new 290 (nh 0 N)).new 288 [.slice (some ⟨H.size,0,none⟩) N N]).own H.size=some (nh 0 N):=by
  rw[bm (by simp only[ak];omega),aA]
 generalize (H.new 290 (nh 0 N)).new 288 [.slice (some ⟨H.size,0,none⟩) N N]=H0 at*
 refine bX.intro (fun m env H'=>∃j:Nat,m=N - j∧j≤N∧ah (fun z=>z=H.size) H0 H'∧H'.own H.size=some (nh j (N - j))∧
  env=[(4,ptr (H.size+1)),(20,i64 N),(21,i64 j)]) N ⟨0,by omega,by omega,ah.refl _ _,t1,rfl⟩ ?_
 rintro m env H1 ⟨j,rfl,hj,e1,h1,rfl⟩
 have o1:=e1.own t0 (by omega)
 have Ay:=Rn j (N - j)
 refine vs ?_
 refine ar.dec (fun bf=>?_) (fun bf=>?_)<;>refine vs ?_
 ·refine v1 (ae o1) ?_
  refine⟨by omega,?_⟩
  refine v4 h1 aoi Nat.add_zero Int.toNat_natCast ?_
  refine⟨by omega,?_⟩
  refine vs ?_
  have e2:ah (fun z=>z=H.size) H1 (H1.wr H.size ((nh j (N - j)).set (j*2+1) (Value.int .i64 (-1)))):=(ah.refl (fun z=>z=H.size) _).wr (fun _=>rfl) _
  have q2:(H1.wr H.size ((nh j (N - j)).set (j*2+1) (Value.int .i64 (-1)))).own H.size=some ((nh j (N - j)).set (j*2+1) (Value.int .i64 (-1))):=af h1
  rw[wrap64 (n:=(j:Int)+1) (by omega) (by omega)]
  refine⟨N - (j+1),by omega,j+1,rfl,by omega,e1.trans e2,?_,rfl⟩
  rw[q2,show N - j=(N - (j+1))+1 by omega,Ro]
 ·obtain rfl:j=N:=by omega
  refine⟨H.size+1,H.size,_,rfl,⟨o1,h1,by omega,fun x h0 hx=>?_,by omega⟩,f0.then e1 (by omega),by omega,by omega⟩
  unfold nh
  rw[apG,List.replicate_zero,List.flatten_nil,aoO]
  exact Tn _ _ (by omega)
end
end Go.Proofs.YtjkkkibiegfecaaGreatDoor

namespace Go.Proofs.YtjkkkibiegfecaaGreatDoor
open Go Go.Vc
theorem K5:∀ {l:List Int} {i:Nat} {x p:Int},l.Nodup→p∉l→l[i]? =some x→l.set i p=l.map (gF x p):=by
 intro l
 induction l with
 |nil=>grind
 |cons a r ih=>
  intro i x p hn hp h
  have Pt:=aoy.1 hn
  have hpr:p∉r:=by grind
  cases i with
  |zero=>
   grind [qv,AH]
  |succ i=>
   grind [lu]
def K6(x p:Int):Rl→Rl
 | .uM y=>.uM (gF x p y)
 |r=>r
section
variable {H H' : Hp} {ro ro' : Nat → Rl} {fb tb n : Nat} {l : List Value} {V : Int → Value} {ch : Int → List Int} {ay : Int → Int} {kb : Int → Option Nat} {T : Nat → Prop}
variable {hm : Int → Int} {lt : Int → Int → Bool} {rows : Int → List Int} {W : List Int}
theorem Sl.Vv{H:Hp}{v:Value}{m:Nat}{xs:List Int}{fp:Option Nat}(s:Sl H 1 v m (xs.map i64) fp){i:Nat}{x:Int}(hx:xs[i]? =some x):∃b lb c,v= .slice (some ⟨b,0,none⟩) m c∧fp=some b∧H.own b=some lb∧lb[i]? =some (i64 x)∧i<m∧m≤lb.length∧m=xs.length:=by
 obtain⟨a,c,rfl⟩:=Sl.shape s
 have hl:=s.1
 rw[aoJ,aok]at hl
 obtain⟨h1,b,lb,rfl,q2,q3⟩:=Sl.Ab s hx
 cases fp with
 |none=>have:=s.2.2;grind
 |some b'=>
  obtain⟨_,Wp,c',hs,ho,hc,AB,_⟩:=s
  grind
theorem oK.agn{H:Hp}{fb tb n:Nat}{l:List Value}{V V':Int→Value}{U U':Int→Int}(t:oK H fb tb n l V U)(h:∀x:Int,0≤x→x<n→V' x=V x∧U' x=U x):oK H fb tb n l V' U':=
 ⟨t.own,t.wP,t.len,fun x h0 h1=>by obtain⟨e1,e2⟩:=h x h0 h1;rw[e1,e2];exact t.at_ x h0 h1,t.ne⟩
theorem E8(m:ForM H ro fb tb n l V ch ay kb)(hz:∀z,H.size≤z→ro z= .no)(w:iA hm lt ch ay rows W){x p:Int}(hx:0≤x∧x<n)(hp:0≤p∧p<n)(KU:x∈ch p)(R2:ay p≠ -1→0≤ay p∧ay p<n)(hn:n≤65536):
  ag Tryz.prog mK [ptr fb,i64 x] H fun v H'=>ap (v= .bool true∧∃ro' l' V' tK,ForM H' ro' fb tb n l' V' (FL ch x p) (J2 ay x p) tK∧RK H.size ro ro'∧(∀z,H'.size≤z→ro' z= .no)∧ah (KB ro) H H'∧∀z,ro z= .no→ro' z= .no):=by
 obtain⟨d1,d2,d3,d4,d5⟩:=w.pr.dn p x KU
 have bf:=w.less KU
 have gE:p≠x:=by grind
 have npp:p∉ch p:=fun h=>by have:=w.less h;omega
 have npx:p∉ch x:=fun h=>by have:=w.less h;omega
 have nxx:x∉ch x:=fun h=>by have:=w.less h;omega
 have rV:∀z,(ch z).length≤n:=fun z=>cu (w.pr.nd z) fun c hc=>m.HT z c hc
 have alE:=rV x
 have alF:=rV p
 have rl:=m.t.len
 obtain⟨x1,x2⟩:=m.t.at_ x hx.1 hx.2
 obtain⟨p1,p2⟩:=m.t.at_ p hp.1 hp.2
 have sx:=m.kd x hx.1 hx.2
 have sp:=m.kd p hp.1 hp.2
 obtain⟨oa,oc,hvx⟩:=Sl.shape sx
 obtain⟨i,hi,e⟩:=apu.1 KU
 obtain⟨bp,lp,cp,XA,hkp,qp,qpi,xY,Vh,_⟩:=Sl.Vv sp (i:=i) (x:=x) (by grind)
 have Yb:=m.rk p bp hp.1 hp.2 hkp
 have hbt:bp≠tb:=fun e=>by rw[e,m.rt]at Yb;cases Yb
 have hbf:bp≠fb:=fun e=>by rw[e,m.rf]at Yb;cases Yb
 have hkx:∀b,kb x=some b→b≠tb∧b≠bp:=fun b hb=>by
  have:=m.rk x b hx.1 hx.2 hb
  refine⟨fun e=>(by rw[e,m.rt]at this;grind),fun e=>?_⟩
  grind
 rw[hvx]at x1
 rw[XA]at p1
 refine Fz xG ⟨rfl,?_⟩
 refine v1 mV.eq_1 ?_
 refine(p9 m.t hx).mono ?_
 rintro _ H' ⟨⟨h,_⟩| ⟨_,rfl⟩,e⟩
 ·rw[d1]at h;exact absurd h d2
 obtain rfl:=e.symm
 rw[d1]
 refine v1 (ae m.t.own) ?_
 refine⟨by omega,?_⟩
 refine v5 (ae m.t.own) (ae m.t.wP) aoi Nat.add_zero x1 ?_
 refine⟨by omega,?_⟩
 refine v5 (ae m.t.own) (ae m.t.wP) aoi Nat.add_zero p1 ?_
 refine⟨by omega,?_⟩
 refine v5 (ae m.t.own) (ae m.t.wP) aoi Nat.add_zero p2 ?_
 rw[XA]at sp
 refine(fS sp.rd x (by omega)).mono ?_
 rintro _ H' ⟨⟨j,rfl,hj⟩,e⟩
 obtain rfl:=e.symm
 obtain⟨hj0,hj⟩:=hj.resolve_left (fun h=>h.2 KU)
 obtain⟨k,rfl⟩:∃k:Nat,j=(k:Int):=by grind
 rw[Int.toNat_natCast]at hj
 have hkl:=(aoj.1 hj).1
 refine vs ?_
 refine⟨⟨by omega,by omega⟩,?_⟩
 refine v4 qp aoi aok Int.toNat_natCast ?_
 refine⟨by omega,?_⟩
 refine vs ?_
 rw[hkp]at sp
 have sp1:=sp.sf qp k (i64 p)
 have Yc:ah (fun z=>z=bp) H (H.wr bp (lp.set k (i64 p))):=(ah.refl (fun z=>z=bp) _).wr (fun _=>rfl) _
 rw[←aoN,K5 (w.pr.nd p) npp hj]at sp1
 have t1:=m.t.ext Yc (Ne.symm hbf) (Ne.symm hbt)
 have sx1:=sx.ext Yc (by grind)
 generalize H.wr bp (lp.set k (i64 p))=H1 at*
 have hlm:((ch p).map (gF x p)).length=(ch p).length:=aoJ ..
 have dW:∀z,z∈(ch p).map (gF x p)↔(z=p∨(z∈ch p∧z≠x)):=by grind [gF]
 refine(rO t1 hx sp1 (by grind) (fun c hc=>?_) (by omega)).mono ?_
 ·rcases(dW c).1 hc with h|h
  ·omega
  ·exact m.HT p c h.1
 rintro _ H2 ⟨l2,t2,e2⟩
 refine vs ?_
 have sx2:=sx1.ext e2 (by grind)
 rw[hvx]at sx2
 refine(rO t2 hp sx2 (by grind) (fun c hc=>m.HT x c hc) (by omega)).mono ?_
 rintro _ H3 ⟨l3,t3,e3⟩
 have SS:=t3.len
 refine v1 (ae t3.own) ?_
 refine⟨by omega,?_⟩
 refine v3 t3.wP aoi Nat.add_zero ?_
 refine⟨by omega,?_⟩
 obtain⟨t4,e4⟩:=t3.aJ hx (ay p)
 refine vs ?_
 have Vr:=t4.len
 generalize H3.wr tb (l3.set (x.toNat*2+1) (i64 (ay p)))=H4 at*
 generalize l3.set (x.toNat*2+1) (i64 (ay p))=l4 at*
 have Ac:ah (fun z=>z=tb) H1 H4:=(e2.trans e3).trans e4
 have hpn:x≠ -1:=w.pr.ne KU
 have gx:ay p≠x:=fun e=>by
  by_cases hq:ay p= -1
  ·omega
  ·have:=w.less (w.pr.up p _ rfl hq)
   grind
 have gpp:ay p≠p:=fun e=>by
  have:=w.less (w.pr.up p p e d2)
  omega
 have t5:oK H4 fb tb n l4 (fun z=>V (gF x p z)) (J2 ay x p):=by
  refine t4.agn fun z h0 h1=>⟨?_,?_⟩
  ·by_cases e1:z=x
   ·rw[e1,qv];unfold vR;grind
   ·by_cases e2:z=p
    ·rw[e2,D0];unfold vR;grind
    ·rw[lu e1 e2];unfold vR;grind
  ·show gF x p (ay (gF x p z))=(if z=x then ay p else if z∈ch x then p else if z∈(ch p).map (gF x p)then x else ay z)
   by_cases e1:z=x
   ·rw[if_pos e1,e1,qv,lu gx gpp]
   ·rw[if_neg e1]
    by_cases e2:z=p
    ·rw[e2,D0,d1,D0,if_neg npx,if_pos (by grind)]
    ·rw[lu e1 e2]
     by_cases e3:z∈ch x
     ·rw[if_pos e3,(w.pr.dn x z e3).1,qv]
     ·rw[if_neg e3]
      by_cases e4:z∈ch p
      ·rw[if_pos (by grind),(w.pr.dn p z e4).1,D0]
      ·rw[if_neg (by grind)]
       rw[lu (fun h=>e3 (w.pr.up z x h hpn)) (fun h=>e4 (w.pr.up z p h d2))]
 have hRK:∀H5:Hp,ah (fun z=>z=bp∨z=tb∨kb (ay p)=some z∧ay p≠ -1) H H5→RK H.size ro (fun z=>K6 x p (ro z))∧(∀z,H5.size≤z→K6 x p (ro z)= .no)∧ah (KB ro) H H5:=fun H5 e5=>by
  refine⟨⟨fun z jH hk=>?_,by grind [K6,gF],by grind [K6,gF]⟩,fun z jH=>?_,e5.mono fun z _ h=>?_⟩
  ·cases hr:ro z with
   |uM y=>grind
   |_=>rfl
  ·cases e5;grind [K6]
  ·rcases h with h|h| ⟨h,hq⟩
   ·exact .inr (by grind)
   ·exact .inl (by rw[h];exact m.rt)
   ·obtain⟨h0,h1⟩:=R2 hq
    exact .inr ⟨ay p,m.rk _ z h0 h1 h⟩
 have abY:∀z:Int,¬ (0≤z∧z<n)→FL ch x p z=[]:=fun z jH=>by
  unfold FL
  rw[lu (by omega) (by omega),m.no z jH]
  rfl
 have hrS:∀z:Int,(0≤z∧z<n)→0≤gF x p z∧gF x p z<n:=by grind [gF]
 have WC:∀z c,c∈FL ch x p z→0≤c∧c<n:=fun z c hc=>by
  have:=hrS _ (m.HT _ _ (pi.1 hc))
  rwa[rW]at this
 have hkd:∀z:Int,0≤z→z<n→z≠ay p→Sl H4 1 (V (gF x p z)) (FL ch x p z).length ((FL ch x p z).map i64) (kb (gF x p z)):=fun z h0 h1 hzg=>by
  by_cases e1:z=x
  ·unfold FL
   rw[e1,qv,hkp,XA]
   rw[hlm]
   exact sp1.ext Ac (by grind)
  ·by_cases e2:z=p
   ·unfold FL
    rw[e2,D0,hvx,AH nxx npx]
    exact(sx2.ext e3 (by grind)).ext e4 (by grind)
   ·unfold FL
    rw[lu e1 e2]
    have nx:x∉ch z:=fun h=>e2 (by rw[← (w.pr.dn z x h).1,d1])
    have np:p∉ch z:=fun h=>hzg (w.pr.dn z p h).1.symm
    rw[AH nx np]
    refine((m.kd z h0 h1).ext Yc (fun b hb e=>?_)).ext Ac (fun b hb e=>?_)
    ·cases m;grind
    cases m;grind
 have abZ:∀ (z:Int) b,0≤z→z<n→kb (gF x p z)=some b→K6 x p (ro b)= .uM z:=fun z b h0 h1 hb=>by
  obtain⟨g0,g1⟩:=hrS z ⟨h0,h1⟩
  cases m;grind [K6,rW]
 refine ar.dec (fun h0=>?_) (fun h0=>?_)<;>refine vs ?_
 ·obtain⟨r1,r2,r3⟩:=hRK H4 ((Yc.mono fun z _ h=>.inl h).trans (Ac.mono (by omega)))
  refine⟨rfl,_,l4,_,fun z=>kb (gF x p z),⟨t5,by grind,by rw[m.rf];rfl,by rw[m.rt];rfl,abZ,WC,abY⟩,r1,r2,r3,by grind [K6,gF]⟩
 ·obtain⟨g0,g1⟩:=R2 h0
  have Ft:=w.pr.up p _ rfl h0
  obtain⟨ig,hig,eg⟩:=apu.1 Ft
  have sg:=m.kd (ay p) g0 g1
  obtain⟨bg,lg,cg,hvg,hkg,qg,qgi,alH,eC,_⟩:=Sl.Vv sg (i:=ig) (x:=p) (by grind)
  have Wx:=m.rk _ bg g0 g1 hkg
  have hgt:bg≠tb:=fun e=>by rw[e,m.rt]at Wx;cases Wx
  have hgb:bg≠bp:=by grind
  have hgf:bg≠fb:=fun e=>by rw[e,m.rf]at Wx;cases Wx
  obtain⟨a1,a2⟩:=t5.at_ _ g0 g1
  rw[lu gx gpp,hvg]at a1
  refine v1 (ae t5.own) ?_
  refine⟨by omega,?_⟩
  refine v4 (ae t5.wP) aoi Nat.add_zero a1 ?_
  have qg4:=Ac.own (Yc.own qg hgb) hgt
  have sg4:Sl H4 1 (.slice (some ⟨bg,0,none⟩) (ch (ay p)).length cg) (ch (ay p)).length ((ch (ay p)).map i64) (some bg):=by
   rw[hvg,hkg]at sg
   exact(sg.ext Yc (by grind)).ext Ac (by grind)
  have alJ:=rV (ay p)
  refine(fS sg4.rd p (by omega)).mono ?_
  rintro _ H' ⟨⟨j,rfl,hj⟩,e⟩
  obtain rfl:=e.symm
  obtain⟨hj0,hj⟩:=hj.resolve_left (fun h=>h.2 Ft)
  obtain⟨k,rfl⟩:∃k:Nat,j=(k:Int):=by grind
  rw[Int.toNat_natCast]at hj
  have hkl:=(aoj.1 hj).1
  refine vs ?_
  refine⟨⟨by omega,by omega⟩,?_⟩
  refine v4 qg4 aoi aok Int.toNat_natCast ?_
  refine⟨by omega,?_⟩
  refine vs ?_
  have sg5:=sg4.sf qg4 k (i64 x)
  have e5:ah (fun z=>z=bg) H4 (H4.wr bg (lg.set k (i64 x))):=(ah.refl (fun z=>z=bg) _).wr (fun _=>rfl) _
  have nxg:x∉ch (ay p):=fun h=>gpp (by rw[← (w.pr.dn _ x h).1,d1])
  have To:(ch (ay p)).map (gF p x)=(ch (ay p)).map (gF x p):=ao9 (by grind [gF])
  rw[←aoN,K5 (w.pr.nd _) nxg hj,To]at sg5
  obtain⟨r1,r2,r3⟩:=hRK _ (((Yc.mono fun z _ h=>.inl h).trans (Ac.mono (by omega))).trans (e5.mono (by grind)))
  refine⟨rfl,_,l4,_,fun z=>kb (gF x p z),⟨t5.ext e5 (by omega) (by omega),fun z q0 q1=>?_,by rw[m.rf];rfl,by rw[m.rt];rfl,abZ,WC,abY⟩,r1,r2,r3,by grind [K6,gF]⟩
  by_cases hzg:z=ay p
  ·unfold FL
   grind [lu]
  grind [Sl.ext,lu]
end
end Go.Proofs.YtjkkkibiegfecaaGreatDoor

namespace Go.Proofs.YtjkkkibiegfecaaGreatDoor
open Go Go.Vc
def I3(H:Hp)(v:Value)(xs:List Int)(nb:Option Nat):Prop:=
 ∃a c,v= .slice a xs.length c∧xs.length≤c∧(c=0∨∃b o l,a=some ⟨b,o,none⟩∧nb=some b∧H.own b=some l∧o+c≤l.length∧(l.drop o).take xs.length=xs.map i64)
section
variable {H H' : Hp} {ro ro' : Nat → Rl} {B : Nat} {v : Value} {xs : List Int} {T : Nat → Prop} {nb : Option Nat}
theorem I3.nil(H:Hp)(nb:Option Nat):I3 H (.slice none 0 0) [] nb:=⟨none,0,rfl,aox _,.inl rfl⟩
theorem I3.rd(h:I3 H v xs nb):fh H 1 v xs.length (xs.map i64):=by
 obtain⟨a,c,rfl,hc,h⟩:=h
 refine⟨by simp,?_⟩
 rcases h with rfl| ⟨b,o,l,rfl,_,h1,h2,h3⟩
 ·simp_all
 ·exact .inr ⟨b,o,c,l,rfl,ae h1,by omega,by grind⟩
theorem I3.ext(h:I3 H v xs nb)(e:ah T H H')(hT:∀z,nb=some z→¬T z):I3 H' v xs nb:=by
 obtain⟨a,c,hv,hc,h⟩:=h
 exact⟨a,c,hv,hc,h.imp_right fun⟨b,o,l,h1,h2,h3,h4⟩=>⟨b,o,l,h1,h2,e.own h3 (hT b h2),h4⟩⟩
theorem I3.cap(h:I3 H v xs nb):∃a c,v= .slice a xs.length c∧xs.length≤c:=by
 obtain⟨a,c,hv,hc,_⟩:=h
 grind
theorem I3.lit{T:TypeId}(x:Int):I3 (H.new T [i64 x]) (.slice (some ⟨H.size,0,none⟩) 1 1) [x] (some H.size):=
 ⟨_,1,rfl,aox _,.inr ⟨H.size,0,[i64 x],rfl,rfl,aA _ _ _,by simp,rfl⟩⟩
theorem I3.tail{x:Int}{a:Option Addr}{c:Nat}(h:I3 H (.slice a (x::xs).length c) (x::xs) nb)(Rh:Decidable ((c:Int)=1)):
  I3 H (.slice (@ite (Option Addr) ((c:Int)=1) Rh a (Option.map (fun(y:Addr)=>y.add (Int.toNat 1*1)) a)) (((xs.length+1:Nat):Int).toNat - Int.toNat 1) ((c:Int).toNat - Int.toNat 1)) xs nb:=by
 rw[show((xs.length+1:Nat):Int).toNat - Int.toNat 1=xs.length by simp,show(c:Int).toNat - Int.toNat 1=c - 1 by simp]
 obtain⟨a',c',hv,hc,h⟩:=h
 injection hv with e1 e2 e3
 subst e1 e3
 rw[aop]at hc
 refine⟨_,c - 1,rfl,by omega,?_⟩
 by_cases h1:(c:Int)=1
 ·omega
 ·rw[if_neg h1]
  rcases h with h| ⟨b,o,l,rfl,h2,h3,h4,h5⟩
  ·omega
  ·refine .inr ⟨b,o+1,l,rfl,h2,h3,by omega,?_⟩
   rw[aop,apd]at h5
   have h6:(l.drop (o+1))=(l.drop o).drop 1:=by simp_all
   rw[h6,List.take_drop,Nat.add_comm,h5]
   rfl
theorem I3.push{K:Value→Hp→Prop}{T:TypeId}(h:I3 H v xs nb)(x:Int)(hl:xs.length≤1000000)
  (hk:∀w' H' JT,(JT=nb∨∃z,JT=some z∧H.size≤z∧z<H'.size)→I3 H' w' (xs++[x]) JT→ah (fun z=>nb=some z) H H'→K w' H'):
  gH T 1 8 [i64 0] v (.slice (some ⟨H.size,0,none⟩) 1 1) (H.new T [i64 x]) K:=by
 have fl:ai H (H.new T [i64 x]):=(ah.refl _ _).new _ _
 have h1:=h.rd.fresh fl
 obtain⟨a,c,rfl,hc,h⟩:=h
 have hx:fh (H.new T [i64 x]) 1 (.slice (some ⟨H.size,0,none⟩) 1 1) 1 [i64 x]:=(Sl.dM (size:=1) (n:=1) (xs:=[i64 x]) rfl rfl).rd
 refine fh.rowOf hx (F:=fun m new=>(xs.length+m≤c→m=0→K (.slice a xs.length c) (H.new T [i64 x]))∧
  (xs.length+m≤c→m≠0→tq a fun b o=>aD (Ie ((H.new T [i64 x]).own b) ((H.new T [i64 x]).Az b)) fun l=>eo (o+(xs.length+m)*1≤l.length∧fK new) (K (.slice a (xs.length+m) c) ((H.new T [i64 x]).wr b (aX l (o+xs.length*1) new))))∧
  (c<xs.length+m→Builtin.nextslicecap (xs.length+m) c*8≤2^48∧
   rowOf (H.new T [i64 x]) 1 (.slice a xs.length c) fun _ Qn=>∀c',xs.length+m≤c'→K (.slice (some ⟨(H.new T [i64 x]).size,0,none⟩) (xs.length+m) c') ((H.new T [i64 x]).new T (Qn++new++dE [i64 0] (c' - (xs.length+m)))))) ?_
 refine⟨by omega,fun AB _=>?_,fun bf=>⟨?_,?_⟩⟩
 ·rcases h with rfl| ⟨b,o,l,rfl,h2,h3,h4,h5⟩
  ·omega
  ·have h3':=fl.own h3 (fun h=>h)
   show aD (Ie ((H.new T [i64 x]).own b) ((H.new T [i64 x]).Az b)) _
   rw[h3']
   refine⟨⟨by omega,fun v hv=>by rw[aoB.1 hv];rfl⟩,?_⟩
   have rl:(xs++[x]).length=xs.length+1:=by simp
   have e2:ah (fun z=>z=b) (H.new T [i64 x]) ((H.new T [i64 x]).wr b (aX l (o+xs.length*1) [i64 x])):=(ah.refl (fun z=>z=b) _).wr (fun _=>rfl) _
   refine hk _ _ nb (.inl rfl) ⟨some ⟨b,o,none⟩,c,by rw[rl],by omega,.inr ⟨b,o,aX l (o+xs.length*1) [i64 x],rfl,h2,af h3',by rw[gZ];exact h4,?_⟩⟩ ((fl.mono fun _ _ h=>h.elim).trans (by grind))
   rw[aok]
   apply aoM
   intro k
   rw[ape,rl]
   by_cases hk:k<xs.length+1
   ·rw[aoX hk,aoT,getElem?_splice [i64 x] l _ _ (by grind)]
    grind
   grind
 ·have h2:Builtin.nextslicecap (xs.length+1) c≤2*(xs.length+1):=nextslicecap_le bf
  omega
 ·refine fh.rowOf (n:=xs.length) (xs:=xs.map i64) h1 ?_
  intro c' Ni
  have QJ:(H.new T [i64 x]).size=H.size+1:=ak _ _ _
  refine hk _ _ (some (H.new T [i64 x]).size) (.inr ⟨_,rfl,by omega,by simp only[ak];omega⟩) ⟨_,c',by simp,by grind,.inr ⟨(H.new T [i64 x]).size,0,_,rfl,rfl,aA _ _ _,?_,?_⟩⟩ ((fl.mono fun _ _ h=>h.elim).trans ((ah.refl _ _).new _ _))
  ·simp only[aos,aoJ,uS,aoV,aok]
   omega
  grind
theorem RK.low{s s':Nat}(r:RK s' ro ro')(hs:s≤s')(hz:∀z,s≤z→ro z= .no):RK s ro ro':=(RK.refl hz).trans r hs
theorem RK.none{s:Nat}(r:RK s ro ro'){z:Nat}(hz:z<s)(h:ro z= .no):ro' z= .no:=by
 cases r;grind
end
section
variable {H H' : Hp} {ro ro' : Nat → Rl} {fb tb nn c : Nat} {l : List Value} {V : Int → Value} {ch : Int → List Int} {ay : Int → Int} {kb : Int → Option Nat} {C : Nat → Prop} {w : Nw} {lt : Int → Int → Bool} {rows : Int → List Int} {W : List Int}
theorem iA.win{hm:Int→Int}(f:iA (aF w) lt ch ay rows W){x:Int}(hx:x∈W):0≤x∧x<w.cs.length:=by
 obtain⟨a,b,_⟩:=aG (f.wm x hx).2
 omega
def KC(ro:Nat→Rl)(z:Nat):Prop:=KB ro z∨ro z= .cell
theorem E9(m:ForM H ro fb tb w.cs.length l V ch ay kb)(hz:∀z,H.size≤z→ro z= .no)(hn:∃rest,H.own nn=some (ptr c::rest))(cq:CQ H c C w)(hC:∀z,C z→ro z= .cell)(bf:∀a b,aP w a b=true→lt a b=true)
  {x y:Int}(f:iA (aF w) lt ch ay rows (x::y::W))(hh:aF w x=aF w y)(hd:(ch x).length=(ch y).length):
  ag Tryz.prog xd [ptr fb,.iface 148 (ptr nn),i64 x,i64 y] H fun v H'=>ap (∃p q ro' l' V' tK,v=i64 p∧((p=x∧q=y)∨(p=y∧q=x))∧ForM H' ro' fb tb w.cs.length l' V' (az ch p (ch p++[q])) (aJ ay q p) tK∧
   iA (aF w) lt (az ch p (ch p++[q])) (aJ ay q p) rows (p::W)∧CQ H' c C w∧RK H.size ro ro'∧(∀z,H'.size≤z→ro' z= .no)∧ah (KC ro) H H'):=by
 have ut:=f.win (hm:=aF w) (x:=x) (by simp)
 have hyr:=f.win (hm:=aF w) (x:=y) (by simp)
 obtain⟨x1,x2⟩:=f.wm x (by simp)
 obtain⟨y1,y2⟩:=f.wm y (by simp)
 have QK:x≠y:=fun e=>by cases f;grind
 have sT:=cq.CI
 have ZK:(ch x).length≤w.cs.length:=cu (f.pr.nd x) fun c hc=>m.HT x c hc
 obtain⟨rest,ho⟩:=hn
 refine aU xI ?_
 refine vs ?_
 refine⟨_,_,cP,ptr c,rfl,cD (off:=0) (by kernel_rfl) (ae ho) rfl,(cA cq y x).mono ?_⟩
 rintro _ H1 ⟨rfl,c1,e1⟩
 have m1:=m.ext e1 (fun z jH h=>by
  have:=hC z h
  rcases jH with h2|h2| ⟨_,h2⟩<;>grind)
 have z1:=e1.size
 have RJ:∀z,H1.size≤z→ro z= .no:=by grind
 rw[gw (w:=w) (a:=y) (b:=x) y2 x2]
 cases FD:aP w y x
 ·refine vs ?_
  have hl:=bf _ _ (((aw w).WR x y QK).resolve_right (by rw[FD];simp))
  refine(tL m1 RJ ut hyr x1 y1 QK hd (by omega)).mono ?_
  rintro _ H2 ⟨rfl,oT,l2,V2,CK,m2,r2,jH,e2⟩
  refine vs ?_
  refine⟨x,y,oT,l2,V2,CK,rfl,.inl ⟨rfl,rfl⟩,m2,f.link hh hd hl,c1.ext e2 (fun z h hk=>?_),r2.low z1 hz,jH,(e1.mono fun z _ h=>.inr (hC z h)).trans (e2.mono fun z _ h=>.inl h)⟩
  have:=hC z h
  rcases hk with h2| ⟨_,h2⟩<;>grind
 ·refine vs ?_
  have hl:=bf _ _ FD
  refine(tL m1 RJ hyr ut y1 x1 QK.symm hd.symm (by omega)).mono ?_
  rintro _ H2 ⟨rfl,oT,l2,V2,CK,m2,r2,jH,e2⟩
  refine vs ?_
  refine⟨y,x,oT,l2,V2,CK,rfl,.inr ⟨rfl,rfl⟩,m2,(f.perm (List.Perm.swap ..)).link hh.symm hd.symm hl,c1.ext e2 (fun z h hk=>?_),r2.low z1 hz,jH,(e1.mono fun z _ h=>.inr (hC z h)).trans (e2.mono fun z _ h=>.inl h)⟩
  have:=hC z h
  rcases hk with h2| ⟨_,h2⟩<;>grind
end
end Go.Proofs.YtjkkkibiegfecaaGreatDoor

namespace Go.Proofs.YtjkkkibiegfecaaGreatDoor
open Go Go.Vc
theorem fh.sub{H:Hp}{size n c:Nat}{a:Option Addr}{xs:List Value}(h:fh H size (.slice a n c) n xs){lo hi:Nat}(h1:lo≤hi)(h2:hi≤n){b':Option Addr}{c':Nat}(hb:lo<hi→b'=a.map (·.add (lo*size))):
  fh H size (.slice b' (hi - lo) c') (hi - lo) ((xs.drop (lo*size)).take ((hi - lo)*size)):=by
 obtain⟨hl,hv⟩:=h
 have e1:(hi - lo)*size=hi*size - lo*size:=Nat.sub_mul _ _ _
 have e2:hi*size≤n*size:=apl _ h2
 have e3:lo*size≤hi*size:=apl _ h1
 refine⟨by grind,?_⟩
 by_cases bf:lo<hi
 ·rcases hv with ⟨hn,_⟩| ⟨b,o,c2,l,hs,li,AB,ht⟩
  ·omega
  ·right
   injection hs with iY PJ No
   subst iY
   rw[hb bf]
   refine⟨b,o+lo*size,c',l,?_,li,by omega,?_⟩
   ·simp[Addr.add]
   ·rw[←ht,List.drop_take,List.drop_drop,apB,Nat.min_eq_left (by omega)]
 simp_all
theorem Tp{H:Hp}{a:Option Addr}{n c:Nat}{xs:List Int}(h:fh H 1 (.slice a n c) n (xs.map i64)){lo hi:Nat}{lo' hi':Int}(el:lo'=(lo:Int))(eh:hi'=(hi:Int))(h1:lo≤hi)(h2:hi≤n)(h3:n≤c):
  ∃a',Value.slice (if(c:Int)=lo' then a else Option.map (fun x:Addr=>x.add (lo'.toNat*1)) a) (hi'.toNat - lo'.toNat) ((c:Int).toNat - lo'.toNat)= .slice a' (hi - lo) (c - lo)∧
   fh H 1 (.slice a' (hi - lo) (c - lo)) (hi - lo) (((xs.drop lo).take (hi - lo)).map i64)∧hi - lo≤c - lo∧((xs.drop lo).take (hi - lo)).length=hi - lo:=by
 subst el;subst eh
 have hl:=h.1
 rw[aoJ,aok]at hl
 refine⟨_,rfl,?_,by omega,by grind⟩
 have h4:=fh.sub h (lo:=lo) (hi:=hi) h1 h2 (c':=(c:Int).toNat - (lo:Int).toNat) (b':=if(c:Int)=(lo:Int)then a else Option.map (fun x:Addr=>x.add ((lo:Int).toNat*1)) a) (by grind)
 simp_all
def Fa(H:Hp)(ro:Nat→Rl)(B:Nat)(v:Value)(xs:List Int):Prop:=
 ∃a c,v= .slice a xs.length c∧xs.length≤c∧(xs=[]∨∃b o l,a=some ⟨b,o,none⟩∧b<B∧¬KC ro b∧H.rd b=some l∧o+xs.length≤l.length∧(l.drop o).take xs.length=xs.map i64)
section
variable {H H' H0 : Hp} {ro ro' Yd : Nat → Rl} {B : Nat} {v : Value} {xs : List Int} {T : Nat → Prop}
theorem Fa.rd(h:Fa H ro B v xs):fh H 1 v xs.length (xs.map i64):=by
 obtain⟨a,c,rfl,hc,h⟩:=h
 refine⟨by simp,?_⟩
 rcases h with rfl| ⟨b,o,l,rfl,_,_,h1,h2,h3⟩
 ·simp_all
 grind
theorem Fa.ext(h:Fa H ro B v xs)(e:ah T H H')(hT:∀z,z<B→¬KC ro z→¬T z)(hr:∀z,z<H.size→KC ro' z→KC ro z):Fa H' ro' B v xs:=by
 obtain⟨a,c,hv,hc,h⟩:=h
 exact⟨a,c,hv,hc,h.imp_right fun⟨b,o,l,h1,h2,h3,h4,h5⟩=>⟨b,o,l,h1,h2,fun h=>h3 (hr b (PE h4) h),e.rd h4 (hT b h2 h3),h5⟩⟩
theorem Fa.tail{x:Int}{a:Option Addr}{c:Nat}(h:Fa H ro B (.slice a (x::xs).length c) (x::xs))(Rh:Decidable ((c:Int)=1)):
  Fa H ro B (.slice (@ite (Option Addr) ((c:Int)=1) Rh a (Option.map (fun(y:Addr)=>y.add (Int.toNat 1*1)) a)) (((xs.length+1:Nat):Int).toNat - Int.toNat 1) ((c:Int).toNat - Int.toNat 1)) xs:=by
 rw[show((xs.length+1:Nat):Int).toNat - Int.toNat 1=xs.length by simp,show(c:Int).toNat - Int.toNat 1=c - 1 by simp]
 obtain⟨a',c',hv,hc,h⟩:=h
 injection hv with e1 e2 e3
 subst e1 e3
 rw[aop]at hc
 refine⟨_,c - 1,rfl,by omega,?_⟩
 by_cases h1:(c:Int)=1
 ·grind
 ·rw[if_neg h1]
  rcases h with h| ⟨b,o,l,rfl,h2,h3,h4,h5,h6⟩
  ·cases h
  ·rw[aop]at h5 h6
   refine .inr ⟨b,o+1,l,rfl,h2,h3,h4,by omega,?_⟩
   rw[apd]at h6
   have h7:(l.drop (o+1))=(l.drop o).drop 1:=by simp_all
   rw[h7,List.take_drop,Nat.add_comm,h6]
   rfl
theorem Fa.head{x:Int}(h:Fa H ro B v (x::xs)):∃b o l c,v= .slice (some ⟨b,o,none⟩) (x::xs).length c∧H.rd b=some l∧b<H.size∧l[o]? =some (i64 x)∧(x::xs).length≤c:=by
 obtain⟨a,c,hv,hc,h⟩:=h
 rcases h with h| ⟨b,o,l,rfl,h2,h3,h4,h5,h6⟩
 ·cases h
 ·refine⟨b,o,l,c,hv,h4,PE h4,?_,hc⟩
  have h7:((x::xs).map i64)[0]? =some (i64 x):=rfl
  grind
theorem Fa.cap(h:Fa H ro B v xs):∃a c,v= .slice a xs.length c∧xs.length≤c:=by
 obtain⟨a,c,hv,hc,_⟩:=h
 grind
theorem RK.kcs{s:Nat}(r:RK s ro ro'){z:Nat}(hz:z<s)(h:KC ro' z):KC ro z:=by
 rcases h with h|h
 ·exact .inl (r.kbs hz h)
 ·refine .inr ?_
  cases r;grind
structure qf(H0:Hp)(Yd:Nat→Rl)(nn fb tb c:Nat)(C:Nat→Prop)(w:Nw)(H:Hp)(ro:Nat→Rl)(l:List Value)(V:Int→Value)(ch:Int→List Int)(ay:Int→Int)(kb:Int→Option Nat)(va vb:Value)(a b:List Int):Prop where
 m:ForM H ro fb tb w.cs.length l V ch ay kb
 cq:CQ H c C w
 hC:∀z,C z→ro z= .cell
 own:∃rest,H.own nn=some (ptr c::rest)
 hn:ro nn= .SP
 hz:∀z,H.size≤z→ro z= .no
 rk:RK H0.size Yd ro
 ra:Fa H ro H0.size va a
 rb:Fa H ro H0.size vb b
 e:ah (KC Yd) H0 H
variable {nn fb tb c : Nat} {C : Nat → Prop} {w : Nw} {l : List Value} {V : Int → Value} {ch : Int → List Int} {ay : Int → Int} {kb : Int → Option Nat} {va vb : Value} {a b : List Int}
theorem qf.Vw(h:qf H0 Yd nn fb tb c C w H ro l V ch ay kb va vb a b)(e:ah T H H')(hT:∀z,T z→H0.size≤z∧ro z= .no):qf H0 Yd nn fb tb c C w H' ro l V ch ay kb va vb a b:=by
 have bU:∀z r,ro z=r→r≠ .no→¬T z:=by grind
 obtain⟨rest,ho⟩:=h.own
 have hs:=e.size
 refine⟨h.m.ext e (fun z hz=>?_),h.cq.ext e (fun z hz=>bU z _ (h.hC z hz) (by grind)),h.hC,⟨rest,e.own ho (bU nn _ h.hn (by grind))⟩,h.hn,fun z hz=>h.hz z (by omega),h.rk,
  h.ra.ext e (by grind) (fun _ _ h=>h),h.rb.ext e (by grind) (fun _ _ h=>h),?_⟩
 ·rcases hz with h1|h1| ⟨x,h1⟩<;>grind
 ·exact⟨aoK h.e.size e.size,fun z hz hn=>by
   rw[e.aO z (aoz hz h.e.size) (by grind),h.e.aO z hz hn]⟩
end
end Go.Proofs.YtjkkkibiegfecaaGreatDoor

namespace Go.Proofs.YtjkkkibiegfecaaGreatDoor
open Go Go.Vc
theorem Fb{H:Hp}{a:Option Addr}{c:Nat}{xs:List Int}(f:FuncId)(rF:List Value)(q:Int→Bool)(Inv:Hp→Prop)(hI:Inv H)(li:∀H',Inv H'→fh H' 1 (.slice a xs.length c) xs.length (xs.map i64))(Ep:eZ Tryz.prog f=true)
  (hf:∀H' x,x∈xs→Inv H'→ag Tryz.prog f (i64 x::rF) H' fun v FY=>ap (v= .bool (q x)∧Inv FY))(hm:xs.length≤1000000000):
  ag Tryz.prog gk [.slice a xs.length c,.func (.func f) #[] rF.toArray] H fun v H'=>ap (∃i:Int,v=i64 i∧(0≤i↔xs.any q=true)∧Inv H'):=by
 refine aU gm ?_
 refine vs ?_
 refine bX.intro (fun m env H'=>Inv H'∧∃j:Nat,m=xs.length - j∧j≤xs.length∧(∀e∈xs.take j,q e=false)∧env=[(0,.slice a xs.length c),(1,.func (.func f) #[] rF.toArray),(7,i64 xs.length),(8,i64 j)]) xs.length (by grind) ?_
 rintro m env H1 ⟨i1,j,hmj,hj,jZ,rfl⟩
 have h1:=li H1 i1
 refine vs ?_
 refine ar.dec (fun bf=>?_) (fun bf=>?_)<;>refine vs ?_
 ·have FF:j<xs.length:=by omega
  obtain⟨e,he⟩:∃e,xs[j]? =some e:=⟨_,aol FF⟩
  obtain⟨_,b,o,lb,rfl,OS,dv⟩:=fh.num h1 he
  refine⟨by omega,?_⟩
  have dW:=aou he
  refine v4 OS Int.toNat_natCast aok dv ?_
  refine⟨Ep,?_⟩
  refine ag.mono (by simpa using hf H1 e dW i1) ?_
  rintro _ H2 ⟨rfl,i2⟩
  refine vs ?_
  cases hx:q e
  ·refine vs ?_
   rw[wrap64 (n:=(j:Int)+1) (by omega) (by omega)]
   refine⟨xs.length - (j+1),by omega,i2,j+1,rfl,by omega,?_,rfl⟩
   intro e' FE
   rw[aoL,he]at FE
   grind
  ·refine vs ?_
   exact⟨j,rfl,by grind,i2⟩
 ·refine⟨-1,rfl,?_,i1⟩
  grind
theorem Ai{H:Hp}{a:Option Addr}{c:Nat}{xs:List Int}(f:FuncId)(rF:List Value)(q:Int→Bool)(Inv:Hp→Prop)(hI:Inv H)(li:∀H',Inv H'→fh H' 1 (.slice a xs.length c) xs.length (xs.map i64))(Ep:eZ Tryz.prog f=true)
  (hf:∀H' x,x∈xs→Inv H'→ag Tryz.prog f (i64 x::rF) H' fun v FY=>ap (v= .bool (q x)∧Inv FY))(hm:xs.length≤1000000000):
  ag Tryz.prog lJ [.slice a xs.length c,.func (.func f) #[] rF.toArray] H fun v H'=>ap (v= .bool (xs.any q)∧Inv H'):=by
 refine aU lS ?_
 refine vs ?_
 refine(Fb f rF q Inv hI li Ep hf hm).mono ?_
 rintro _ H1 ⟨i,rfl,hi,i1⟩
 refine vs ?_
 refine⟨aoo Value.bool ?_,i1⟩
 cases hx:xs.any q
 ·rw[hx]at hi
  exact aow (fun h=>by cases hi.1 h)
 ·rw[hx]at hi
  exact aov (hi.2 rfl)
theorem Aj{H:Hp}{bx:Nat}{a:Option Addr}{c:Nat}{xs:List Int}(hb:H.own bx=some [.slice a xs.length c])(h:fh H 1 (.slice a xs.length c) xs.length (xs.map i64))(hm:xs.length≤1000000)(x:Int):
  ag Tryz.prog jC [i64 x,ptr bx] H fun v H'=>ap (v= .bool (decide (x∈xs))∧H'=H):=by
 refine wM mixed (an:=sH) (by conv=>lhs;cbv) (nt:=7) (by kernel_rfl) (by simp) ?_
 refine v1 (ae hb) ?_
 refine(vT h x (by omega)).mono ?_
 rintro _ H' ⟨rfl,e⟩
 obtain rfl:=e.symm
 refine vs ?_
 exact⟨rfl,rfl⟩
section
variable {H H' : Hp} {ro ro' : Nat → Rl} {nn fb tb c : Nat} {C : Nat → Prop} {w : Nw} {l : List Value} {V : Int → Value} {ch : Int → List Int} {ay : Int → Int} {kb : Int → Option Nat} {va vb : Value} {a b W0 : List Int} {lt : Int → Int → Bool} {rows : Int → List Int} {g : Int}
def Ye(e:Env)(fb nn bx:Nat)(va vo vn:Value)(k:Nat):Prop:=
 e.find 0=some (ptr fb)∧e.find 1=some (.iface 148 (ptr nn))∧e.find 2=some va∧e.find 7=some (ptr bx)∧e.find 10=some vo∧e.find 11=some vn∧e.find 12=some (i64 k)
theorem K7{P:Program}{A B:S}{env:Env}{H:Hp}{Kn:Env→Hp→Prop}{Kx:Nat→Env→Hp→Prop}{Kr:Env→Hp→Prop}(I:Env→Hp→Prop)(h:vc P A env H I Kx Kr)(k:∀e h,I e h→vc P B e h Kn Kx Kr):vc P (.seq A B) env H Kn Kx Kr:=
 D4 A env H _ _ _ _ _ _ k (fun _ _ _ h=>h) (fun _ _ h=>h) h
theorem qf.agt(h:qf H ro nn fb tb c C w H' ro' l V ch ay kb va vb a b):qf H ro nn fb tb c C w H' ro' l V ch ay kb (.slice none 0 0) (.slice none 0 0) [] []:=
 ⟨h.m,h.cq,h.hC,h.own,h.hn,h.hz,h.rk,⟨none,0,rfl,aox _,.inl rfl⟩,⟨none,0,rfl,aox _,.inl rfl⟩,h.e⟩
theorem qf.agu{va':Value}{a':List Int}(h:qf H ro nn fb tb c C w H' ro' l V ch ay kb va vb a b)(r:Fa H' ro' H.size va' a'):qf H ro nn fb tb c C w H' ro' l V ch ay kb va' vb a' b:=
 ⟨h.m,h.cq,h.hC,h.own,h.hn,h.hz,h.rk,r,h.rb,h.e⟩
theorem qf.Tq{vb':Value}{b':List Int}(h:qf H ro nn fb tb c C w H' ro' l V ch ay kb va vb a b)(r:Fa H' ro' H.size vb' b'):qf H ro nn fb tb c C w H' ro' l V ch ay kb va vb' a b':=
 ⟨h.m,h.cq,h.hC,h.own,h.hn,h.hz,h.rk,h.ra,r,h.e⟩
theorem qf.DL{H3:Hp}{vo:Value}{out:List Int}{nb JT fo:Option Nat}(h:qf H ro nn fb tb c C w H' ro' l V ch ay kb va vb a b)(bx:H'.own H.size=some [vb])(so:Sl H' 1 vo out.length (out.map i64) fo)
  (hd:∀z,nb=some z∨fo=some z→H.size<z∧z<H'.size∧ro' z= .no)(Xt:∀z,nb=some z→fo=some z→False)(e3:ah (fun z=>nb=some z) H' H3)(HR:JT=nb∨∃z,JT=some z∧H'.size≤z∧z<H3.size):
  qf H ro nn fb tb c C w H3 ro' l V ch ay kb va vb a b∧H3.own H.size=some [vb]∧Sl H3 1 vo out.length (out.map i64) fo∧(∀z,JT=some z∨fo=some z→H.size<z∧z<H3.size∧ro' z= .no)∧(∀z,JT=some z→fo=some z→False):=by
 have lq:=aE bx
 have hs:=e3.size
 refine⟨h.Vw e3 (by grind),e3.own bx (by grind),so.ext e3 (by grind),fun z hz=>?_,fun z h1 h2=>?_⟩
 ·rcases hz with hz|hz
  ·rcases HR with h1| ⟨y,h1,h2,h3⟩
   ·grind
   ·rw[h1]at hz
    injection hz with hz
    subst hz
    exact⟨by omega,h3,h.hz _ h2⟩
  grind
 grind
def Tr(H0:Hp)(Yd:Nat→Rl)(nn fb tb c:Nat)(C:Nat→Prop)(w:Nw)(lt:Int→Int→Bool)(rows:Int→List Int)(W0:List Int)(g:Int)(HX:Int→List Int)(k ia ib io:Nat)(pn:Nat→Prop)(H:Hp)(va vb vn vo:Value):Prop:=
 ∃ (a b now out:List Int) (nb fo:Option Nat) (ro:Nat→Rl) (l:List Value) (V:Int→Value) (ch:Int→List Int) (ay:Int→Int) (kb:Int→Option Nat),
  qf H0 Yd nn fb tb c C w H ro l V ch ay kb va vb a b∧iA (aF w) lt ch ay rows (now++(a++(b++(out++W0))))∧nQ (aF w) ch g k ia ib io a b now out∧pn now.length∧
  H.own H0.size=some [vb]∧ro H0.size= .no∧I3 H vn now nb∧Sl H 1 vo out.length (out.map i64) fo∧(∀z,nb=some z∨fo=some z→H0.size<z∧z<H.size∧ro z= .no)∧(∀z,nb=some z→fo=some z→False)∧(∀z∈W0,ch z=HX z)
theorem DM(h0:qf H ro nn fb tb c C w H ro l V ch ay kb va vb a b)(bf:∀a b,aP w a b=true→lt a b=true)(f0:iA (aF w) lt ch ay rows (a++(b++W0)))(hra:Fu ch a)(WD:Fu ch b)(hg:∀c,c∈a∨c∈b→aF w c=g):
  ag Tryz.prog lI [ptr fb,.iface 148 (ptr nn),va,vb] H fun v H'=>ap (∃out ro' l' V' dK bG tK vo fo,v= .tuple [vo,.bool true].toArray∧qf H ro nn fb tb c C w H' ro' l' V' dK bG tK (.slice none 0 0) (.slice none 0 0) [] []∧
   Sl H' 1 vo out.length (out.map i64) fo∧(∀z,fo=some z→H.size≤z∧ro' z= .no)∧iA (aF w) lt dK bG rows (out++W0)∧Fu dK out∧(∀c∈out,aF w c=g)∧∀z∈W0,dK z=ch z):=by
 have sT:=h0.cq.CI
 obtain⟨aa,ca,rfl,hca⟩:=h0.ra.cap
 obtain⟨ab,cb,rfl,Zu⟩:=h0.rb.cap
 obtain⟨n1,n2,n3⟩:=aoS.1 f0.wn
 have ci:∀x∈a++(b++W0),(0≤x∧x<w.cs.length)∧ay x= -1:=fun x hx=>⟨f0.win (hm:=aF w) hx,(f0.wm x hx).1⟩
 have IR:=cu n1 fun c hc=>(ci c (by grind)).1
 have uF:=cu (aoS.1 n2).1 fun c hc=>(ci c (by grind)).1
 refine Fz vA ⟨rfl,?_⟩
 refine v1 lR.eq_1 ?_
 have e1:ah (fun z=>H.size≤z) H (H.new 140 [.slice ab b.length cb]):=((ah.refl _ _).new _ _:ai H _).mono fun _ _ h=>h.elim
 have bx1:(H.new 140 [.slice ab b.length cb]).own H.size=some [.slice ab b.length cb]:=aA _ _ _
 have z1:(H.new 140 [.slice ab b.length cb]).size=H.size+1:=ak _ _ _
 have h1:=h0.Vw e1 (fun z hz=>⟨hz,h0.hz z hz⟩)
 generalize H.new 140 [.slice ab b.length cb]=H1 at*
 refine(wo h1.m h1.ra.rd (by grind) hra (by omega)).mono ?_
 rintro _ H' ⟨rfl,e⟩
 obtain rfl:=e.symm
 refine v1 (ae bx1) ?_
 refine(wo h1.m h1.rb.rd (by grind) WD (by omega)).mono ?_
 rintro _ H' ⟨rfl,e⟩
 obtain rfl:=e.symm
 refine vs ?_
 refine(Ai (H:=H1) jC [ptr H.size] (fun x=>decide (x∈b)) (fun H'=>H'=H1) rfl (fun H' hI=>by rw[hI];exact h1.ra.rd) (by rfl) (fun H' x hx hI=>?_) (by omega)).mono ?_
 ·rw[hI]
  exact Aj bx1 h1.rb.rd (by omega) x
 rintro _ H' ⟨rfl,e⟩
 obtain rfl:=e.symm
 have ab2:(a.any fun x=>decide (x∈b))=false:=by grind
 rw[ab2]
 refine vs ?_
 have i0:nQ (aF w) ch g 0 0 0 0 a b [] []:=⟨hra,WD,List.Pairwise.nil,by omega,by omega,by simp,by simp,by grind⟩
 have d0:∀z,((none:Option Nat)=some z∨(none:Option Nat)=some z)→H.size<z∧z<H1.size∧ro z= .no:=by grind
 have d00:∀z,(none:Option Nat)=some z→(none:Option Nat)=some z→False:=by grind
 have cz0:Tr H ro nn fb tb c C w lt rows W0 g ch 0 0 0 0 (fun n=>n≤1) H1 (.slice aa a.length ca) (.slice ab b.length cb) (.slice none 0 0) (.slice none 0 0):=
  ⟨a,b,[],[],none,none,ro,l,V,ch,ay,kb,h1,f0,i0,Nat.zero_le _,bx1,h0.hz _ (aox _),I3.nil _ _,Sl.nil _ _,d0,d00,fun _ _=>rfl⟩
 refine bX.intro (fun mm env H'=>∃ (k:Nat) (va vb vn vo:Value),mm=w.cs.length+1 - k∧Tr H ro nn fb tb c C w lt rows W0 g ch k k k k (fun n=>n≤1) H' va vb vn vo∧
  env=[(0,ptr fb),(1,.iface 148 (ptr nn)),(2,va),(7,ptr H.size),(10,vo),(11,vn),(12,i64 k)]) _ ⟨0,_,_,_,_,rfl,cz0,rfl⟩ ?_
 clear h1 i0 bx1 f0 hra WD hg ci n1 n2 n3 IR uF ab2 h0 e1 d0 d00 cz0 hca Zu
 rintro mm env H2 ⟨k,va,vb,vn,vo,rfl,Um,rfl⟩
 obtain⟨a,b,now,out,nb,fo,oT,l2,V2,mf,gX,CK,h2,f2,i2,Rq,qq,I4,Fc,Eh,rX,uB,JU⟩:=id Um
 obtain⟨aa,ca,rfl,hca⟩:=h2.ra.cap
 obtain⟨ab,cb,rfl,Zu⟩:=h2.rb.cap
 obtain⟨an,cn,rfl,Rc⟩:=Fc.cap
 obtain⟨ao,co,rfl⟩:=Sl.shape Eh
 have O6:=aE qq
 have jk:=f2.wn
 have jZ:=cu jk fun c hc=>f2.win (hm:=aF w) hc
 simp only[aos]at jZ
 refine v1 (ae qq) ?_
 rw[wrap64 (n:=(a.length:Int)+b.length) (by omega) (by omega),wrap64 (n:=(a.length:Int)+b.length+now.length) (by omega) (by omega)]
 refine ar.dec (fun Zr=>?_) (fun Zr=>?_)
 rotate_left
 ·refine vs ?_
  have Wh:a=[]:=aoI.1 (by omega)
  have R3:b=[]:=by grind
  have uJ:now=[]:=by grind
  subst Wh R3 uJ
  refine⟨out,oT,l2,V2,mf,gX,CK,_,fo,rfl,h2.agt,Eh,by grind,f2,i2.ro,fun c hc=>i2.hg c (by grind),JU⟩
 have bu:∀z,(mf z).length≤w.cs.length:=fun z=>cu (f2.pr.nd z) fun c hc=>h2.m.HT z c hc
 have hk:k≤w.cs.length:=by
  by_cases Wh:a=[]
  ·by_cases R3:b=[]
   ·obtain⟨x,hx⟩:∃x,x∈now:=by
     cases now with
     |nil=>grind
     |cons x r=>grind
    have:=i2.kn x hx
    grind
   ·obtain⟨x,r,rfl⟩:=ao8 R3
    have:=i2.kb x (by simp)
    grind
  ·obtain⟨x,r,rfl⟩:=ao8 Wh
   have:=i2.ka x (by simp)
   grind
 clear Zr bu jZ jk
 rw[Ts,UP,W6,W7]
 refine K7 (fun e h=>∃va vb vn vo,Tr H ro nn fb tb c C w lt rows W0 g ch k (k+1) k k (fun n=>n≤2) h va vb vn vo∧Ye e fb nn H.size va vo vn k) ?_ ?_
 ·refine vs ?_
  refine ar.dec (fun ga=>?_) (fun ga=>?_)
  ·obtain⟨x,r,rfl⟩:∃x r,a=x::r:=ao8 (by grind)
   obtain⟨pb,po,pl,pc,hv,li,QV,dv,hpc⟩:=h2.ra.head
   injection hv with Fe Eg hv3
   subst Fe hv3
   refine vs ?_
   refine⟨by omega,?_⟩
   refine v5 li dv Int.toNat_zero aoG Nat.add_zero ?_
   refine(dC h2.m x).mono ?_
   rintro _ H' ⟨rfl,e⟩
   obtain rfl:=e.symm
   refine vs ?_
   refine ar.dec (fun gd=>?_) (fun gd=>?_)
   ·refine vs ?_
    refine⟨by omega,?_⟩
    refine v5 li dv Int.toNat_zero aoG Nat.add_zero ?_
    refine Fc.push x (by omega) fun w' H3 JT HR Rr e3=>?_
    obtain⟨h3,DN,O7,Ui,DO⟩:=h2.DL qq Eh rX uB e3 HR
    refine vs ?_
    have ut:(x::r).length=r.length+1:=aop
    refine⟨by omega,?_⟩
    refine vs ?_
    have fp:now++(x::r++(b++(out++W0)))=now++[x]++(r++(b++(out++W0))):=by simp
    rw[fp]at f2
    exact⟨_,_,_,_,⟨r,b,now++[x],out,JT,fo,oT,l2,V2,mf,gX,CK,h3.agu (h3.ra.tail _),f2,i2.aav (by omega),by grind,DN,I4,Rr,O7,Ui,DO,JU⟩,rfl,rfl,rfl,rfl,rfl,rfl,rfl⟩
   ·refine vs ?_
    exact⟨_,_,_,_,⟨x::r,b,now,out,nb,fo,oT,l2,V2,mf,gX,CK,h2,f2,i2.V8 (by grind),by omega,qq,I4,Fc,Eh,rX,uB,JU⟩,rfl,rfl,rfl,rfl,rfl,rfl,rfl⟩
  ·refine vs ?_
   have Wh:a=[]:=aoI.1 (by omega)
   exact⟨_,_,_,_,⟨a,b,now,out,nb,fo,oT,l2,V2,mf,gX,CK,h2,f2,i2.V8 (by grind),by omega,qq,I4,Fc,Eh,rX,uB,JU⟩,rfl,rfl,rfl,rfl,rfl,rfl,rfl⟩
 clear Um h2 f2 i2 Rq qq I4 Fc Eh rX uB JU O6 hca Zu Rc
 rintro e2 H2 ⟨va,vb,vn,vo,Um,hv⟩
 obtain⟨a,b,now,out,nb,fo,oT,l2,V2,mf,gX,CK,h2,f2,i2,Rq,qq,I4,Fc,Eh,rX,uB,JU⟩:=id Um
 obtain⟨ab,cb,rfl,Zu⟩:=h2.rb.cap
 obtain⟨an,cn,rfl,Rc⟩:=Fc.cap
 have O6:=aE qq
 obtain⟨I5,Fe,Eg,I6,qh,qi,qj⟩:=hv
 refine K7 (fun e h=>∃va vb vn vo,Tr H ro nn fb tb c C w lt rows W0 g ch k (k+1) (k+1) k (fun n=>n≤3) h va vb vn vo∧Ye e fb nn H.size va vo vn k) ?_ ?_
 ·refine v8 I5 Fe Eg I6 qh qi qj (ae qq) ?_
  refine ar.dec (fun gb=>?_) (fun gb=>?_)
  ·obtain⟨x,r,rfl⟩:∃x r,b=x::r:=ao8 (by grind)
   obtain⟨pb,po,pl,pc,hv,li,QV,dv,hpc⟩:=h2.rb.head
   injection hv with Tt ab3 Tu
   subst Tt Tu
   refine v8 I5 Fe Eg I6 qh qi qj (ae qq) ?_
   refine⟨by omega,?_⟩
   refine v12 li dv Int.toNat_zero aoG Nat.add_zero I5 Fe Eg I6 qh qi qj ?_
   refine(dC h2.m x).mono ?_
   rintro _ H' ⟨rfl,e⟩
   obtain rfl:=e.symm
   refine v7 I5 Fe Eg I6 qh qi qj ?_
   have ut:(x::r).length=r.length+1:=aop
   have fp:(now++(a++(x::r++(out++W0)))).Perm (now++[x]++(a++(r++(out++W0)))):=by
    rw[List.perm_iff_count]
    intro z
    simp only[apK,List.count_cons,apc,List.count_nil]
    omega
   refine ar.dec (fun gd=>?_) (fun gd=>?_)
   ·refine vs ?_
    replace f2:=f2.perm fp
    refine fV.intro (fun _=>True) trivial ?_
    refine vs ?_
    refine Fy.intro ?_ ?_
    ·refine v6 (ae qq) li dv Int.toNat_zero aoG Nat.add_zero ?_
     refine⟨by omega,?_⟩
     refine v6 (ae qq) li dv Int.toNat_zero aoG Nat.add_zero ?_
     refine Fy.intro ?_ ?_
     ·refine v6 (ae qq) li dv Int.toNat_zero aoG Nat.add_zero ?_
      refine Fy.intro ?_ ?_
      ·refine v6 (ae qq) li dv Int.toNat_zero aoG Nat.add_zero ?_
       refine Fy.intro ?_ ?_
       ·refine vs ?_
        refine Fc.push x (by omega) fun w' H3 JT HR Rr e3=>?_
        obtain⟨h3,DN,O7,Ui,DO⟩:=h2.DL qq Eh rX uB e3 HR
        refine v8 (ae DN) DN li dv Int.toNat_zero aoG Nat.add_zero aoi ?_
        refine⟨by omega,?_⟩
        refine v8 (ae DN) DN li dv Int.toNat_zero aoG Nat.add_zero aoi ?_
        have e4:∀v,ah (fun z=>z=H.size) H3 (H3.wr H.size [v]):=fun v=>(ah.refl (fun z=>z=H.size) _).wr (fun _=>rfl) _
        have Vx:∀v,(H3.wr H.size [v]).own H.size=some [v]:=fun v=>af DN
        have h4:=fun v=>h3.Vw (e4 v) (by grind)
        exact⟨_,_,_,_,⟨a,r,now++[x],out,JT,fo,oT,l2,V2,mf,gX,CK,(h4 _).Tq ((h4 _).rb.tail _),f2,i2.LD (by omega),by grind,Vx _,I4,Rr.ext (e4 _) (by grind),O7.ext (e4 _) (by grind),fun z hz=>by rw[eR];grind,DO,JU⟩,rfl,rfl,rfl,rfl,rfl,rfl,rfl⟩
       ·refine v6 (ae qq) li dv Int.toNat_zero aoG Nat.add_zero ?_
        refine⟨by omega,?_⟩
        refine v6 (ae qq) li dv Int.toNat_zero aoG Nat.add_zero ?_
        refine Fc.push x (by omega) fun w' H3 JT HR Rr e3=>?_
        obtain⟨h3,DN,O7,Ui,DO⟩:=h2.DL qq Eh rX uB e3 HR
        refine v8 (ae DN) DN li dv Int.toNat_zero aoG Nat.add_zero aoi ?_
        have e4:∀v,ah (fun z=>z=H.size) H3 (H3.wr H.size [v]):=fun v=>(ah.refl (fun z=>z=H.size) _).wr (fun _=>rfl) _
        have Vx:∀v,(H3.wr H.size [v]).own H.size=some [v]:=fun v=>af DN
        have h4:=fun v=>h3.Vw (e4 v) (by grind)
        exact⟨_,_,_,_,⟨a,r,now++[x],out,JT,fo,oT,l2,V2,mf,gX,CK,(h4 _).Tq ((h4 _).rb.tail _),f2,i2.LD (by omega),by grind,Vx _,I4,Rr.ext (e4 _) (by grind),O7.ext (e4 _) (by grind),fun z hz=>by rw[eR];grind,DO,JU⟩,rfl,rfl,rfl,rfl,rfl,rfl,rfl⟩
      ·refine v6 (ae qq) li dv Int.toNat_zero aoG Nat.add_zero ?_
       refine⟨by omega,?_⟩
       refine v6 (ae qq) li dv Int.toNat_zero aoG Nat.add_zero ?_
       refine Fc.push x (by omega) fun w' H3 JT HR Rr e3=>?_
       obtain⟨h3,DN,O7,Ui,DO⟩:=h2.DL qq Eh rX uB e3 HR
       refine v8 (ae DN) DN li dv Int.toNat_zero aoG Nat.add_zero aoi ?_
       have e4:∀v,ah (fun z=>z=H.size) H3 (H3.wr H.size [v]):=fun v=>(ah.refl (fun z=>z=H.size) _).wr (fun _=>rfl) _
       have Vx:∀v,(H3.wr H.size [v]).own H.size=some [v]:=fun v=>af DN
       have h4:=fun v=>h3.Vw (e4 v) (by grind)
       exact⟨_,_,_,_,⟨a,r,now++[x],out,JT,fo,oT,l2,V2,mf,gX,CK,(h4 _).Tq ((h4 _).rb.tail _),f2,i2.LD (by omega),by grind,Vx _,I4,Rr.ext (e4 _) (by grind),O7.ext (e4 _) (by grind),fun z hz=>by rw[eR];grind,DO,JU⟩,rfl,rfl,rfl,rfl,rfl,rfl,rfl⟩
     ·refine v6 (ae qq) li dv Int.toNat_zero aoG Nat.add_zero ?_
      refine⟨by omega,?_⟩
      refine v6 (ae qq) li dv Int.toNat_zero aoG Nat.add_zero ?_
      refine Fc.push x (by omega) fun w' H3 JT HR Rr e3=>?_
      obtain⟨h3,DN,O7,Ui,DO⟩:=h2.DL qq Eh rX uB e3 HR
      refine v8 (ae DN) DN li dv Int.toNat_zero aoG Nat.add_zero aoi ?_
      have e4:∀v,ah (fun z=>z=H.size) H3 (H3.wr H.size [v]):=fun v=>(ah.refl (fun z=>z=H.size) _).wr (fun _=>rfl) _
      have Vx:∀v,(H3.wr H.size [v]).own H.size=some [v]:=fun v=>af DN
      have h4:=fun v=>h3.Vw (e4 v) (by grind)
      exact⟨_,_,_,_,⟨a,r,now++[x],out,JT,fo,oT,l2,V2,mf,gX,CK,(h4 _).Tq ((h4 _).rb.tail _),f2,i2.LD (by omega),by grind,Vx _,I4,Rr.ext (e4 _) (by grind),O7.ext (e4 _) (by grind),fun z hz=>by rw[eR];grind,DO,JU⟩,rfl,rfl,rfl,rfl,rfl,rfl,rfl⟩
    ·refine v6 (ae qq) li dv Int.toNat_zero aoG Nat.add_zero ?_
     refine⟨by omega,?_⟩
     refine v6 (ae qq) li dv Int.toNat_zero aoG Nat.add_zero ?_
     refine⟨by omega,?_⟩
     refine v6 (ae qq) li dv Int.toNat_zero aoG Nat.add_zero ?_
     refine Fc.push x (by omega) fun w' H3 JT HR Rr e3=>?_
     obtain⟨h3,DN,O7,Ui,DO⟩:=h2.DL qq Eh rX uB e3 HR
     refine v8 (ae DN) DN li dv Int.toNat_zero aoG Nat.add_zero aoi ?_
     have e4:∀v,ah (fun z=>z=H.size) H3 (H3.wr H.size [v]):=fun v=>(ah.refl (fun z=>z=H.size) _).wr (fun _=>rfl) _
     have Vx:∀v,(H3.wr H.size [v]).own H.size=some [v]:=fun v=>af DN
     have h4:=fun v=>h3.Vw (e4 v) (by grind)
     exact⟨_,_,_,_,⟨a,r,now++[x],out,JT,fo,oT,l2,V2,mf,gX,CK,(h4 _).Tq ((h4 _).rb.tail _),f2,i2.LD (by omega),by grind,Vx _,I4,Rr.ext (e4 _) (by grind),O7.ext (e4 _) (by grind),fun z hz=>by rw[eR];grind,DO,JU⟩,rfl,rfl,rfl,rfl,rfl,rfl,rfl⟩
   ·refine vs ?_
    exact⟨_,_,_,_,⟨a,x::r,now,out,nb,fo,oT,l2,V2,mf,gX,CK,h2,f2,i2.V9 (by grind),by omega,qq,I4,Fc,Eh,rX,uB,JU⟩,rfl,rfl,rfl,rfl,rfl,rfl,rfl⟩
  ·refine v7 I5 Fe Eg I6 qh qi qj ?_
   have R3:b=[]:=aoI.1 (by omega)
   exact⟨_,_,_,_,⟨a,b,now,out,nb,fo,oT,l2,V2,mf,gX,CK,h2,f2,i2.V9 (by grind),by omega,qq,I4,Fc,Eh,rX,uB,JU⟩,rfl,rfl,rfl,rfl,rfl,rfl,rfl⟩
 clear Um h2 f2 i2 Rq qq I4 Fc Eh rX uB JU O6 Zu Rc I5 Fe Eg I6 qh qi qj
 rintro e3 H2 ⟨va,vb,vn,vo,Um,hv⟩
 obtain⟨a,b,now,out,nb,fo,oT,l2,V2,mf,gX,CK,h2,f2,i2,Rq,qq,I4,Fc,Eh,rX,uB,JU⟩:=id Um
 obtain⟨an,cn,rfl,Rc⟩:=Fc.cap
 obtain⟨ao,co,rfl⟩:=Sl.shape Eh
 have O6:=aE qq
 have jZ:=cu f2.wn fun c hc=>f2.win (hm:=aF w) hc
 simp only[aos]at jZ
 obtain⟨I5,Fe,Eg,I6,qh,qi,qj⟩:=hv
 refine K7 (fun e h=>∃va vb vn vo,Tr H ro nn fb tb c C w lt rows W0 g ch k (k+1) (k+1) (k+1) (fun n=>n=0∨n=2) h va vb vn vo∧Ye e fb nn H.size va vo vn k) ?_ ?_
 ·refine v8 I5 Fe Eg I6 qh qi qj (ae qq) ?_
  rw[if_neg (by decide:¬ (2:Int)=0),Int.tmod_eq_emod_of_nonneg (by omega)]
  refine v7 I5 Fe Eg I6 qh qi qj ?_
  refine ar.dec (fun gp=>?_) (fun gp=>?_)
  ·obtain⟨x,r,rfl⟩:∃x r,now=x::r:=ao8 (by grind)
   have ut:(x::r).length=r.length+1:=aop
   obtain⟨a',c',Lr,Ni,hn'⟩:=id Fc
   injection Lr with Tt ab3 Tu
   subst Tt Tu
   obtain⟨pb,po,pl,rfl,hpn,QP,Vh,hpt⟩:=hn'.resolve_left (by omega)
   have dv:pl[po]? =some (i64 x):=by
    have h7:((x::r).map i64)[0]? =some (i64 x):=rfl
    rw[←hpt,aoZ,if_pos (by simp),aoT]at h7
    exact h7
   have li:=ae QP
   refine v7 I5 Fe Eg I6 qh qi qj ?_
   refine⟨by omega,?_⟩
   refine v5 li dv Int.toNat_zero aoG Nat.add_zero ?_
   refine SR Eh x (by omega) fun w' H3 Lt ST O7 e3=>?_
   have h3:=h2.Vw e3 (by grind)
   have DN:=e3.own qq (by grind)
   have Rr:=Fc.ext e3 (by omega)
   have No:=e3.size
   refine v7 I5 Fe Eg I6 qh qi qj ?_
   refine⟨by omega,?_⟩
   refine v7 I5 Fe Eg I6 qh qi qj ?_
   have fp:(x::r++(a++(b++(out++W0)))).Perm (r++(a++(b++(out++[x]++W0)))):=by
    rw[List.perm_iff_count]
    intro z
    simp only[apK,List.count_cons,apc,List.count_nil]
    omega
   have Ui:∀z,nb=some z∨Lt=some z→H.size<z∧z<H3.size∧oT z= .no:=fun z hz=>by
    cases h2;grind
   have DO:∀z,nb=some z→Lt=some z→False:=by grind
   exact⟨_,_,_,_,⟨a,b,r,out++[x],nb,Lt,oT,l2,V2,mf,gX,CK,h3,f2.perm fp,i2.aeG,by omega,DN,I4,Rr.tail _,O7,Ui,DO,JU⟩,rfl,rfl,rfl,rfl,rfl,rfl,rfl⟩
  ·refine v7 I5 Fe Eg I6 qh qi qj ?_
   exact⟨_,_,_,_,⟨a,b,now,out,nb,fo,oT,l2,V2,mf,gX,CK,h2,f2,⟨i2.ra,i2.rb,i2.ro,i2.ka,i2.kb,i2.kn,fun c hc=>by have:=i2.ko c hc;omega,i2.hg⟩,by omega,qq,I4,Fc,Eh,rX,uB,JU⟩,rfl,rfl,rfl,rfl,rfl,rfl,rfl⟩
 clear Um h2 f2 i2 Rq qq I4 Fc Eh rX uB JU O6 Rc I5 Fe Eg I6 qh qi qj jZ
 rintro e4 H2 ⟨va,vb,vn,vo,Um,hv⟩
 obtain⟨a,b,now,out,nb,fo,oT,l2,V2,mf,gX,CK,h2,f2,i2,Rq,qq,I4,Fc,Eh,rX,uB,JU⟩:=id Um
 obtain⟨an,cn,rfl,Rc⟩:=Fc.cap
 have O6:=aE qq
 obtain⟨I5,Fe,Eg,I6,qh,qi,qj⟩:=hv
 refine v8 I5 Fe Eg I6 qh qi qj (ae qq) ?_
 refine ar.dec (fun gp=>?_) (fun gp=>?_)
 ·obtain⟨x,y,rfl⟩:∃x y,now=[x,y]:=by
   match now,gp with
   | [x,y],_=>grind
  obtain⟨a',c',Lr,Ni,hn'⟩:=id Fc
  injection Lr with Tt ab3 Tu
  subst Tt Tu
  have uG:([x,y]:List Int).length=2:=rfl
  obtain⟨pb,po,pl,rfl,hpn,QP,Vh,hpt⟩:=hn'.resolve_left (by omega)
  have Yf:pl[po]? =some (i64 x):=by
   have h7:(([x,y]:List Int).map i64)[0]? =some (i64 x):=rfl
   rw[←hpt,aoZ,if_pos (by simp),aoT]at h7
   exact h7
  have Yg:pl[po+1]? =some (i64 y):=by
   have h7:(([x,y]:List Int).map i64)[1]? =some (i64 y):=rfl
   rw[←hpt,aoZ,if_pos (by simp),aoT]at h7
   exact h7
  have li:=ae QP
  refine v7 I5 Fe Eg I6 qh qi qj ?_
  refine⟨by omega,?_⟩
  refine v12 li Yf Int.toNat_zero aoG Nat.add_zero I5 Fe Eg I6 qh qi qj ?_
  refine⟨by omega,?_⟩
  refine v11 li Yg Int.toNat_one apL I5 Fe Eg I6 qh qi qj ?_
  have Lx:=i2.kn x (by simp)
  have hyn:=i2.kn y (by simp)
  have Vq:=i2.hg x (by grind)
  have hyg:=i2.hg y (by grind)
  refine(E9 h2.m h2.hz h2.own h2.cq h2.hC bf (W:=a++(b++(out++W0))) f2 (by omega) (by omega)).mono ?_
  rintro _ H3 ⟨p,q,PY,l3,V3,WE,rfl,T6,m3,f3,c3,r3,ZE,e3⟩
  have agw:∀z,oT z= .no→¬KC oT z:=fun z h1 h2=>by
   rcases h2 with (h2| ⟨_,h2⟩)|h2<;>grind
  have No:=e3.size
  obtain⟨rest,ho⟩:=h2.own
  have agx:¬KC oT nn:=fun h=>by
   have:=h2.hn
   rcases h with (h| ⟨_,h⟩)|h<;>grind
  have h3:qf H ro nn fb tb c C w H3 PY l3 V3 (az mf p (mf p++[q])) (aJ gX q p) WE va vb a b:=by
   refine⟨m3,c3,fun z hz=>?_,⟨rest,e3.own ho agx⟩,?_,ZE,h2.rk.trans r3 h2.e.size,h2.ra.ext e3 (fun z _ h=>h) (fun z hz h=>r3.kcs hz h),h2.rb.ext e3 (fun z _ h=>h) (fun z hz h=>r3.kcs hz h),?_⟩
   ·cases h2;cases r3;grind
   ·cases h2;cases r3;grind
   ·exact⟨by omega,fun z hz hn=>by
     rw[e3.aO z (by omega) (fun h=>hn (h2.rk.kcs hz h)),h2.e.aO z hz hn]⟩
  have DN:=e3.own qq (agw _ I4)
  have O7:=Eh.ext e3 (by grind)
  have f4:ai H3 (H3.new 3 [i64 p]):=(ah.refl _ _).new _ _
  have f4':ah (fun _=>False) H3 (H3.new 3 [i64 p]):=f4
  have h4:=h3.Vw f4' (by grind)
  have nw4:I3 (H3.new 3 [i64 p]) (.slice (some ⟨H3.size,0,none⟩) 1 1) [p] (some H3.size):=I3.lit p
  have hpn:=aoy.1 f3.wn
  have Ft:p∉a∧p∉b∧p∉out∧p∉W0:=by
   have:=hpn.1
   simp only[aoD,not_or]at this
   exact(by omega)
  have i4:=i2.aax (p:=p) (q:=q) (aox _) (by omega) (by grind)
  have hz4:(H3.new 3 [i64 p]).size=H3.size+1:=ak _ _ _
  have hd4:∀z,some H3.size=some z∨fo=some z→H.size<z∧z< (H3.new 3 [i64 p]).size∧PY z= .no:=fun z hz=>by
   grind [RK.none]
  have agy:∀z,some H3.size=some z→fo=some z→False:=by grind
  refine v7 I5 Fe Eg I6 qh qi qj ?_
  rw[wrap64 (n:=(k:Int)+1) (by omega) (by omega)]
  refine⟨w.cs.length+1 - (k+1),by omega,k+1,va,vb,_,vo,rfl,⟨a,b,[p],out,some H3.size,fo,PY,l3,V3,_,_,WE,h4,f3,i4,by simp,f4.own DN (fun h=>h),r3.none O6 I4,nw4,O7.ext f4 (fun _ _ h=>h),hd4,agy,fun z hz=>?_⟩,rfl⟩
  unfold az
  grind
 ·refine v7 I5 Fe Eg I6 qh qi qj ?_
  have uJ:now=[]:=by grind
  subst uJ
  rw[wrap64 (n:=(k:Int)+1) (by omega) (by omega)]
  exact⟨w.cs.length+1 - (k+1),by omega,k+1,va,vb,_,vo,rfl,⟨a,b,[],out,nb,fo,oT,l2,V2,mf,gX,CK,h2,f2,i2.aaw (aox _),by simp,qq,I4,Fc,Eh,rX,uB,JU⟩,rfl⟩
end
end Go.Proofs.YtjkkkibiegfecaaGreatDoor

namespace Go.Proofs.YtjkkkibiegfecaaGreatDoor
open Go Go.Vc
structure ZU where
 n:Nat
 c:Nat
 fb:Nat
 tb:Nat
 rp:Nat
structure uC(H:Hp)(ro:Nat→Rl)(B:ZU)(C:Nat→Prop)(w:Nw)(l:List Value)(V:Int→Value)(ch:Int→List Int)(ay:Int→Int)(kb:Int→Option Nat)(eQ:List Value)(rows:Int→List Int)(rb:Int→Option Nat):Prop where
 own:∃tv,H.own B.n=some [ptr B.c,ptr B.fb,tv]∧Sl H 1 tv eQ.length eQ (some B.rp)
 row:∀g:Int,0≤g→g<eQ.length→∃sv,eQ[g.toNat]? =some sv∧Sl H 1 sv (rows g).length ((rows g).map i64) (rb g)
 cells:CQ H B.c C w
 fo:ForM H ro B.fb B.tb w.cs.length l V ch ay kb
 hC:∀z,C z→ro z= .cell
 rn:ro B.n= .SP
 rr:ro B.rp= .MK
 uD:∀ (g:Int) b,0≤g→g<eQ.length→rb g=some b→ro b= .row g
 hz:∀z,H.size≤z→ro z= .no
def dH(ro:Nat→Rl)(z:Nat):Prop:=ro z≠ .no
section
variable {H H' : Hp} {ro ro' : Nat → Rl} {B : ZU} {C T : Nat → Prop} {w w' : Nw} {l l' : List Value} {V V' : Int → Value} {ch dK : Int → List Int} {ay bG : Int → Int} {kb tK : Int → Option Nat} {eQ : List Value} {rows : Int → List Int} {rb : Int → Option Nat} {lt : Int → Int → Bool} {W W0 L : List Int}
theorem uC.slt(m:uC H ro B C w l V ch ay kb eQ rows rb):∀z,dH ro z→z<H.size:=fun z hz=>by
 apply aoA
 intro h
 exact hz (m.hz z (by omega))
theorem ed{ro:Nat→Rl}{z:Nat}{r:Rl}(h:ro z=r)(hr:r≠ .no):dH ro z:=fun e=>by grind
theorem uC.ext(m:uC H ro B C w l V ch ay kb eQ rows rb)(e:ah T H H')(hd:∀z,dH ro z→¬T z):uC H' ro B C w l V ch ay kb eQ rows rb:=by
 obtain⟨tv,h1,h2⟩:=m.own
 have hs:=e.size
 refine⟨⟨tv,e.own h1 (hd _ (ed m.rn nofun)),h2.ext e (fun b hb=>by injection hb with hb;subst hb;exact hd _ (ed m.rr nofun))⟩,fun g h0 h1=>?_,m.cells.ext e (fun z hz=>hd z (ed (m.hC z hz) nofun)),m.fo.ext e (fun z hz=>?_),m.hC,m.rn,m.rr,m.uD,fun z hz=>m.hz z (by omega)⟩
 ·obtain⟨sv,q1,q2⟩:=m.row g h0 h1
  exact⟨sv,q1,q2.ext e (fun b hb=>hd b (ed (m.uD g b h0 h1 hb) nofun))⟩
 ·rcases hz with h|h| ⟨x,h⟩<;>exact hd z (ed h nofun)
theorem uC.fresh(m:uC H ro B C w l V ch ay kb eQ rows rb)(e:ai H H'):uC H' ro B C w l V ch ay kb eQ rows rb:=m.ext e fun _ _ h=>h
theorem uC.aC(m:uC H ro B C w l V ch ay kb eQ rows rb)(c1:CQ H' B.c C w')(e:ah C H H')(hl:w'.cs.length=w.cs.length):uC H' ro B C w' l V ch ay kb eQ rows rb:=by
 obtain⟨tv,h1,h2⟩:=m.own
 have hs:=e.size
 have hd:∀z r,ro z=r→r≠ .cell→¬C z:=fun z r h1 h2 hc=>h2 (by rw[←h1,m.hC z hc])
 refine⟨⟨tv,e.own h1 (hd _ _ m.rn nofun),h2.ext e (fun b hb=>by cases m;grind)⟩,fun g h0 h1=>?_,c1,?_,m.hC,m.rn,m.rr,m.uD,fun z hz=>m.hz z (by omega)⟩
 ·cases m;grind [Sl.ext]
 ·rw[hl]
  refine m.fo.ext e (fun z hz=>?_)
  rcases hz with h|h| ⟨x,h⟩<;>grind
theorem uC.Tv(m:uC H ro B C w l V ch ay kb eQ rows rb)(f:ForM H' ro' B.fb B.tb w.cs.length l' V' dK bG tK)(c1:CQ H' B.c C w)(r:RK H.size ro ro')(hz:∀z,H'.size≤z→ro' z= .no)(e:ah (KC ro) H H'):uC H' ro' B C w l' V' dK bG tK eQ rows rb:=by
 obtain⟨tv,h1,h2⟩:=m.own
 have hd:∀z q,ro z=q→(∀x,q≠ .uM x)→q≠ .table→q≠ .cell→¬KC ro z:=fun z q h1 h2 h3 h4 hc=>by
  rcases hc with (hc| ⟨x,hc⟩)|hc
  ·grind
  ·grind
  grind
 have hk:∀z q,ro z=q→q≠ .no→(∀x,q≠ .uM x)→ro' z=q:=fun z q h1 h2 h3=>by
  rw[r.o z (m.slt z (ed h1 h2)) (by grind),h1]
 refine⟨⟨tv,e.own h1 (hd _ _ m.rn nofun nofun nofun),h2.ext e (fun b hb=>by cases m;grind)⟩,fun g h0 h1=>?_,c1,f,fun z hz=>hk z _ (m.hC z hz) nofun nofun,hk _ _ m.rn nofun nofun,hk _ _ m.rr nofun nofun,fun g b h0 h1 hb=>hk b _ (m.uD g b h0 h1 hb) nofun nofun,hz⟩
 cases m;grind [Sl.ext]
theorem uC.Tw(m:uC H ro B C w l V ch ay kb eQ rows rb){g:Int}(hg:0≤g∧g<eQ.length){H1:Hp}(e0:ah (fun z=>rb g=some z) H H1){lb:List Value}(uF:H1.own B.rp=some lb){sv:Value}{L':List Int}{o:Option Nat}(s:Sl H1 1 sv L'.length (L'.map i64) o)(ho:∀b,o=some b→ro b= .no∨ro b= .row g):
  uC (H1.wr B.rp (lb.set g.toNat sv)) (fun z=>if o=some z then .row g else ro z) B C w l V ch ay kb (eQ.set g.toNat sv) (az rows g L') (fun k=>if k=g then o else rb k)∧ah (dH ro) H (H1.wr B.rp (lb.set g.toNat sv))∧
   (∀z,dH (fun z=>if o=some z then .row g else ro z) z→dH ro z∨o=some z):=by
 obtain⟨tv,h1,h2⟩:=m.own
 have e:ah (fun z=>z=B.rp) H1 (H1.wr B.rp (lb.set g.toNat sv)):=(ah.refl (fun z=>z=B.rp) _).wr (fun _=>rfl) _
 have QJ:(H1.wr B.rp (lb.set g.toNat sv)).size=H1.size:=eR _ _ _
 have hs0:=e0.size
 have Ly:∀z q,ro z=q→q≠ .no→q≠ .row g→(if o=some z then Rl.row g else ro z)=q:=by grind
 have ne:∀z q,ro z=q→q≠ .MK→z≠B.rp:=fun z q h1 h2 e=>h2 (by rw[←h1,e,m.rr])
 have n0:∀z q,ro z=q→q≠ .row g→¬rb g=some z:=fun z q h1 h2 h3=>h2 (by cases m;grind)
 have hob:∀b,o=some b→b≠B.rp:=by grind
 obtain⟨ta,tc,rfl⟩:=Sl.shape h2
 have hta:ta=some ⟨B.rp,0,none⟩:=by
  obtain⟨_,_,_,hh,_⟩:=h2
  injection hh with hh
 subst hta
 have h3:=h2.ext e0 (by grind)
 refine⟨⟨⟨_,e.own (e0.own h1 (n0 _ _ m.rn nofun)) (ne _ _ m.rn nofun),?_⟩,fun k h0 h1=>?_,(m.cells.ext e0 (fun z hz=>n0 z _ (m.hC z hz) nofun)).ext e (fun z hz=>ne z _ (m.hC z hz) nofun),?_,fun z hz=>Ly z _ (m.hC z hz) nofun nofun,Ly _ _ m.rn nofun nofun,by grind,fun k b h0 h1 hb=>?_,fun z hz=>?_⟩,
  (e0.mono fun z _ h=>ed (m.uD g z hg.1 hg.2 h) nofun).trans (e.mono fun z _ h=>by rw[h];exact ed m.rr nofun),fun z hz=>?_⟩
 ·rw[aom]
  exact h3.sf uF g.toNat sv
 ·rw[aom]at h1
  by_cases hk:k=g
  ·subst hk
   refine⟨sv,by grind,?_⟩
   unfold az
   rw[if_pos rfl,if_pos rfl]
   exact s.ext e (by omega)
  ·obtain⟨sv',q1,q2⟩:=m.row k h0 h1
   refine⟨sv',by grind,?_⟩
   unfold az
   rw[if_neg hk,if_neg hk]
   exact(q2.ext e0 (fun b hb=>n0 b _ (m.uD k b h0 h1 hb) (by grind))).ext e (fun b hb=>ne b _ (m.uD k b h0 h1 hb) nofun)
 ·have f1:=(m.fo.ext e0 (fun z hz=>by rcases hz with h|h| ⟨x,h⟩<;>grind)).ext e (fun z hz=>by rcases hz with h|h| ⟨x,h⟩<;>grind)
  exact⟨f1.t,f1.kd,Ly _ _ f1.rf nofun nofun,Ly _ _ f1.rt nofun nofun,fun x b h0 h1 hb=>Ly _ _ (f1.rk x b h0 h1 hb) nofun nofun,f1.HT,f1.no⟩
 ·cases m;grind
 ·rw[QJ]at hz
  rw[if_neg (fun e=>?_),m.hz z (by omega)]
  cases o with
  |none=>cases e
  |some b=>
   injection e with e
   have:=Sl.lt s
   omega
 ·by_cases h:o=some z
  ·grind
  ·refine .inl fun h2=>hz ?_
   grind
theorem uC.Hu(m:uC H ro B C w l V ch ay kb eQ rows rb){g:Int}(hg:0≤g∧g<eQ.length):∃lb tc sv,H.own B.n=some [ptr B.c,ptr B.fb,.slice (some ⟨B.rp,0,none⟩) eQ.length tc]∧H.own B.rp=some lb∧lb[g.toNat]? =some sv∧g.toNat<lb.length∧eQ[g.toNat]? =some sv∧
  Sl H 1 sv (rows g).length ((rows g).map i64) (rb g):=by
 obtain⟨tv,h1,h2⟩:=m.own
 obtain⟨sv,q1,q2⟩:=m.row g hg.1 hg.2
 obtain⟨_,lb,tc,rfl,ho,hc,hl,ht⟩:=h2
 grind
theorem Sl.rdB{sv:Value}{L:List Int}{fp:Option Nat}{Bd:Nat}(s:Sl H 1 sv L.length (L.map i64) fp)(hf:∀b,fp=some b→b<Bd∧¬KC ro b):Fa H ro Bd sv L:=by
 cases fp with
 |none=>
  obtain⟨_,h2,rfl⟩:=s
  exact⟨none,0,by rw[h2],by omega,by grind⟩
 |some b=>
  obtain⟨_,lb,c,rfl,ho,hc,hl,ht⟩:=s
  obtain⟨h1,h2⟩:=hf b rfl
  refine⟨_,c,rfl,hc,.inr ⟨b,0,lb,rfl,h1,h2,ae ho,by omega,?_⟩⟩
  grind
theorem yJ(m:uC H ro B C w l V ch ay kb eQ rows rb){g:Int}{lv:Value}{JV:Int→List Int}(h12:JV g=rows g)(Un:Fa H ro H.size lv L)(bf:∀a b,aP w a b=true→lt a b=true)(f:iA (aF w) lt ch ay JV (L++W0))(hL:Fu ch L)(hg:∀c∈L,aF w c=g)(wq:0≤g∧g<eQ.length):
  ag Tryz.prog mJ [ptr B.n,i64 g,lv] H fun v H'=>ap (∃ro' l' V' dK bG tK I7 out Yh,uC H' ro' B C w l' V' dK bG tK I7 (az rows g out) Yh∧iA (aF w) lt dK bG (az JV g out) W0∧I7.length=eQ.length∧(∀z∈W0,dK z=ch z)∧
   (∀z,dH ro' z→dH ro z∨H.size≤z)∧ah (dH ro) H H'):=by
 obtain⟨lb,tc,sv,o1,q1,q2,uF,_,s2⟩:=m.Hu wq
 obtain⟨va,vc,rfl⟩:=Sl.shape s2
 obtain⟨aL,cL,rfl,hcL⟩:=Un.cap
 have hra:Fa H ro H.size (.slice va (rows g).length vc) (rows g):=Sl.rdB s2 (fun b hb=>by
  have h5:=m.uD g b wq.1 wq.2 hb
  refine⟨m.slt b (ed h5 nofun),fun hc=>?_⟩
  rcases hc with (hc| ⟨x,hc⟩)|hc<;>grind)
 have h0:qf H ro B.n B.fb B.tb B.c C w H ro l V ch ay kb (.slice va (rows g).length vc) (.slice aL L.length cL) (rows g) L:=⟨m.fo,m.cells,m.hC,⟨_,o1⟩,m.rn,m.hz,RK.refl m.hz,hra,Un,ah.refl _ _⟩
 have f1:=f.loose g
 have Wx:∀c∈rows g,aF w c=g:=fun c hc=>(f.rm g c (by grind)).1
 have frr:=f.rr g
 rw[h12]at f1 frr
 refine Fz xE ⟨rfl,?_⟩
 refine v1 mU.eq_1 ?_
 refine fV.intro (fun H'=>H'.own B.n=some [ptr B.c,ptr B.fb,.slice (some ⟨B.rp,0,none⟩) eQ.length tc]) o1 ?_
 refine vs ?_
 refine dV.intro (.slice (some ⟨B.rp,0,none⟩) eQ.length tc) (fun H' hI=>by refine v1 (ae hI) ?_;trivial) ?_
 refine vs ?_
 have hgi:0≤g∧g< (eQ.length:Int):=wq
 have key:∀K:Value→Hp→Prop,(∀out ro' l' V' dK bG tK vo fo H',qf H ro B.n B.fb B.tb B.c C w H' ro' l' V' dK bG tK (.slice none 0 0) (.slice none 0 0) [] []→Sl H' 1 vo out.length (out.map i64) fo→(∀z,fo=some z→H.size≤z∧ro' z= .no)→iA (aF w) lt dK bG (az JV g []) (out++W0)→Fu dK out→(∀c∈out,aF w c=g)→(∀z∈W0,dK z=ch z)→K (.tuple [vo,.bool true].toArray) H')→
   ag Tryz.prog lI [ptr B.fb,.iface 148 (ptr B.n),.slice va (rows g).length vc,.slice aL L.length cL] H K:=fun K hK=>by
  refine(DM h0 bf f1 frr hL (fun c hc=>by rcases hc with h|h;exact Wx c h;exact hg c h)).mono ?_
  rintro _ H' ⟨out,ro',l',V',dK,bG,tK,vo,fo,rfl,h1,h2,h3,h4,h5,h6,h7⟩
  grind
 refine Fy.intro ?A ?B
 case' A=>
  refine v1 (ae o1) ?_
  refine And.intro o1 ?_
  refine v1 (ae o1) ?_
  refine And.intro o1 ?_
  refine vs ?_
  refine⟨by omega,?_⟩
  refine v4 (ae q1) aoi aok q2 ?_
  refine And.intro o1 ?_
  refine vs ?_
 case' B=>
  refine v1 (ae o1) ?_
  refine And.intro o1 ?_
  refine vs ?_
  refine⟨by omega,?_⟩
  refine vs ?_
  refine Fy.intro ?C ?D
  case' C=>
   refine v1 (ae o1) ?_
   refine And.intro o1 ?_
   refine v4 (ae q1) aoi aok q2 ?_
   refine And.intro o1 ?_
   refine vs ?_
  case' D=>
   refine v4 (ae q1) aoi aok q2 ?_
   refine And.intro o1 ?_
   refine v1 (ae o1) ?_
   refine And.intro o1 ?_
   refine vs ?_
 all_goals
  refine key _ fun out oT l2 V2 mf gX CK vo fo2 H2 h2 Eh ST f2 r2 g2 w2=>?_
  obtain⟨vb,vc2,rfl⟩:=Sl.shape Eh
  have m2:=m.Tv h2.m h2.cq h2.rk h2.hz h2.e
  obtain⟨lb2,tc2,sv2,o2,q3,q4,agA,_,_⟩:=m2.Hu wq
  have o2':H2.own B.n=some [ptr B.c,ptr B.fb,.slice (some ⟨B.rp,0,none⟩) eQ.length tc]:=h2.e.own o1 (fun hc=>by
   rcases hc with (hc| ⟨x,hc⟩)|hc<;>(rw[m.rn]at hc;cases hc))
  refine And.intro o2' ?_
  refine vs ?_
  refine⟨by omega,?_⟩
  refine v3 q3 aoi aok ?_
  refine⟨by omega,?_⟩
  obtain⟨m3,e3,Wz⟩:=m2.Tw wq (ah.refl _ _) q3 Eh (by grind)
  refine vs ?_
  have hnr:B.n≠B.rp:=fun e=>by cases m2;grind
  refine And.intro (((ah.refl (fun z=>z=B.rp) _).wr (fun _=>rfl) _:ah (fun z=>z=B.rp) H2 _).own o2' hnr) ?_
  refine vs ?_
  have f3:=f2.row (g:=g) (by unfold az;grind) r2 g2
  rw[cO]at f3
  have Uo:∀z,dH oT z→dH ro z∨H.size≤z:=fun z hz=>by
   by_cases UM:z<H.size
   ·refine .inl fun h=>hz ?_
    exact h2.rk.none UM h
   omega
  refine⟨_,l2,V2,mf,gX,CK,_,_,_,m3,f3,aom ..,w2,fun z hz=>?_,?_⟩
  ·grind
  ·have e2:ah (dH ro) H H2:=h2.e.mono fun z _ h=>by
    rcases h with (h| ⟨x,h⟩)|h<;>exact ed h nofun
   exact⟨aoK e2.size e3.size,fun z hz hn=>by
    cases e3;cases e2;grind⟩
theorem Cm(m:uC H ro B C w l V ch ay kb eQ rows rb){g:Int}{lv:Value}(Un:Fa H ro H.size lv L)(bf:∀a b,aP w a b=true→lt a b=true)(f:iA (aF w) lt ch ay rows (L++W0))(hL:Fu ch L)(hg:∀c∈L,aF w c=g)(wq:0≤g∧g<eQ.length):
  ag Tryz.prog mJ [ptr B.n,i64 g,lv] H fun v H'=>ap (∃ro' l' V' dK bG tK I7 ni Yh,uC H' ro' B C w l' V' dK bG tK I7 ni Yh∧iA (aF w) lt dK bG ni W0∧I7.length=eQ.length∧(∀z∈W0,dK z=ch z)∧
   (∀z,dH ro' z→dH ro z∨H.size≤z)∧ah (dH ro) H H'):=
 (yJ m rfl Un bf f hL hg wq).mono fun _ _ ⟨ro',l',V',dK,bG,tK,I7,_,Yh,h⟩=>⟨ro',l',V',dK,bG,tK,I7,_,Yh,h⟩
end
end Go.Proofs.YtjkkkibiegfecaaGreatDoor

namespace Go.Proofs.YtjkkkibiegfecaaGreatDoor
open Go Go.Vc
def eM(n:Nat)(H:Hp)(S:Nat→Prop)(w:Nw):Prop:=∃ (B:ZU) (ro:Nat→Rl) (C:Nat→Prop) (l:List Value) (V:Int→Value) (ch:Int→List Int) (ay:Int→Int) (kb:Int→Option Nat) (eQ:List Value) (rows:Int→List Int) (rb:Int→Option Nat),
 B.n=n∧uC H ro B C w l V ch ay kb eQ rows rb∧iA (aF w) (aP w) ch ay rows []∧eQ.length=w.hs.length∧∀z,S z↔dH ro z
theorem eM.slt{n:Nat}{H:Hp}{S:Nat→Prop}{w:Nw}(h:eM n H S w):∀z,S z→z<H.size:=by
 obtain⟨B,ro,C,l,V,ch,ay,kb,eQ,rows,rb,rfl,m,f,hl,hS⟩:=h
 exact fun z hz=>m.slt z ((hS z).1 hz)
theorem eM.ext{n:Nat}{H H':Hp}{S T:Nat→Prop}{w:Nw}(h:eM n H S w)(e:ah T H H')(hd:∀z,S z→¬T z):eM n H' S w:=by
 obtain⟨B,ro,C,l,V,ch,ay,kb,eQ,rows,rb,rfl,m,f,hl,hS⟩:=h
 exact⟨B,ro,C,l,V,ch,ay,kb,eQ,rows,rb,rfl,m.ext e (by grind),f,hl,hS⟩
section
variable {H H' : Hp} {ro ro' : Nat → Rl} {B : ZU} {C T : Nat → Prop} {w w' : Nw} {l l' : List Value} {V V' : Int → Value} {ch dK : Int → List Int} {ay bG : Int → Int} {kb tK : Int → Option Nat} {eQ : List Value} {rows : Int → List Int} {rb : Int → Option Nat} {lt : Int → Int → Bool} {W W0 L : List Int}
theorem uC.M0(m:uC H ro B C w l V ch ay kb eQ rows rb)(hl:eQ.length=w.hs.length){g:Int}(h:w.has g):0≤g∧g<eQ.length:=by
 have h1:=h.1
 have:=(aoj.1 h.2).1
 omega
theorem K8(m:uC H ro B C w l V ch ay kb eQ rows rb)(f:iA (aF w) lt ch ay rows W)(hl:eQ.length=w.hs.length)(g:Int):ag Tryz.prog xa [ptr B.n,i64 g] H fun v H'=>ap ((∃o,Sl H 1 v (rows g).length ((rows g).map i64) o∧∀b,o=some b→b<H.size∧¬KC ro b)∧H'=H):=by
 obtain⟨tv,ho,_⟩:=m.own
 refine aU xF ?_
 refine v1 (ae ho) ?_
 refine(iZ m.cells g).mono ?_
 rintro _ _ ⟨rfl,rfl⟩
 refine vs ?_
 by_cases hg:w.has g
 ·rw[aov hg]
  have wq:=m.M0 hl hg
  obtain⟨lb,tc,sv,o1,q1,q2,uF,_,s2⟩:=m.Hu wq
  refine v1 (ae o1) ?_
  refine⟨by omega,?_⟩
  refine v4 (ae q1) aoi aok q2 ?_
  refine⟨⟨rb g,s2,fun b hb=>?_⟩,rfl⟩
  have h5:=m.uD g b wq.1 wq.2 hb
  refine⟨m.slt b (ed h5 nofun),fun hc=>?_⟩
  rcases hc with (hc| ⟨x,hc⟩)|hc<;>grind
 ·rw[aow hg]
  refine vs ?_
  have hr:rows g=[]:=by
   cases hc:rows g with
   |nil=>rfl
   |cons c r=>
    obtain⟨h1,_,h2,_⟩:=f.rm g c (by grind)
    have:=((m.cells.hm c).2 (by omega)).1
    grind
  rw[hr]
  exact⟨⟨none,Sl.nil _ _,nofun⟩,rfl⟩
theorem iA.root(f:iA (aF w) (aP w) ch ay rows []){y g:Int}(hg:0<g)(hy:aF w y=g):∃r∈rows g,r=y∨aP w r y=true:=by
 obtain⟨r,h1,h2,h3⟩:=f.pr.root (aw w) (n:=w.cs.length) (fun x h=>rJ x h) _ (aox _) (x:=y) (by omega)
 rcases f.Ax r (by omega) h2 with h|h
 ·grind
 grind
theorem Cn{n:Nat}{H:Hp}{S:Nat→Prop}{w:Nw}(h:eM n H S w)(g:Int):ag Tryz.prog mI [ptr n,i64 g] H fun v H'=>ap (
  (w.len g=0∧v= .tuple [i64 0,.bool false].toArray∧eM n H' S w∧ah S H H')∨(∃x,w.first g x∧v= .tuple [i64 x,.bool true].toArray∧eM n H' S w∧ah S H H')):=by
 obtain⟨B,ro,C,l,V,ch,ay,kb,eQ,rows,rb,rfl,m,f,hl,hS⟩:=id h
 have sT:=m.cells.CI
 refine aU xC ?_
 refine vs ?_
 refine(K8 m f hl g).mono ?_
 rintro _ H' ⟨⟨o,s,hso⟩,e⟩
 obtain rfl:=e.symm
 obtain⟨va,vc,rfl⟩:=Sl.shape s
 refine vs ?_
 refine ar.dec (fun h0=>?_) (fun h0=>?_)<;>refine vs ?_
 ·refine .inl ⟨?_,rfl,h,ah.refl _ _⟩
  have hr:rows g=[]:=aoI.1 (by omega)
  by_cases hg:0<g
  ·rw[rB hg]
   intro x hx
   obtain⟨r,JK,_⟩:=f.root hg hx
   grind
  ·exact Nw.Aa.2 (.inl (by omega))
 obtain⟨x,R,hr⟩:∃x R,rows g=x::R:=ao8 (by grind)
 have X2:∀c∈rows g,aF w c=g∧0<g:=fun c hc=>by
  cases f;grind
 have PS:=(X2 x (by grind)).2
 rw[hr]at s X2
 have hlr:(rows g).length=(x::R).length:=by rw[hr]
 rw[hlr]
 have rl:(x::R).length=R.length+1:=aop
 have hsB:=s
 have bu:=cu (f.rr g).nodup fun c hc=>rJ (w:=w) c (by grind)
 rw[hr]at bu
 obtain⟨b,lb,c,Q0,rfl,qb,qc,_,uF,_⟩:=Sl.Vv s (i:=0) (x:=x) rfl
 injection Q0 with h1 h2 h3
 subst h1 h3
 have li:=ae qb
 obtain⟨_,Wp,c',iY,q2,No,XF,Ug⟩:=id s
 injection iY with _ _ iY
 subst iY
 rw[qb]at q2
 injection q2 with q2
 subst q2
 rw[aok]at XF Ug
 refine⟨by omega,?_⟩
 refine v5 li qc Int.toNat_zero aoG Nat.add_zero ?_
 refine⟨by omega,?_⟩
 refine vs ?_
 have wq:=m.M0 hl ((m.cells.hm x).2 (by grind)).1
 rw[(X2 x (by simp)).1]at wq
 have hrB:Fa H ro H.size (.slice (some ⟨b,0,none⟩) (x::R).length vc) (x::R):=Sl.rdB s hso
 obtain⟨a',hv,_,_,_⟩:=Tp s.rd (lo:=1) (hi:=R.length+1) (lo':=1) (hi':=((R.length+1:Nat):Int)) rfl rfl (by omega) (by omega) (by omega)
 have hB:Fa H ro H.size (.slice a' R.length (vc - 1)) R:=by
  rw[show R.length=R.length+1 - 1 by omega,←hv]
  exact hrB.tail _
 rw[hv,show((R.length+1:Nat):Int).toNat - Int.toNat 1=R.length by simp,Nat.add_sub_cancel]
 refine bX.intro (fun mm env H'=>∃ (j:Nat) (cS:Int),mm=R.length - j∧j≤R.length∧CQ H' B.c C w∧ah C H H'∧cS∈x::R.take j∧(∀c∈x::R.take j,c≠cS→aP w cS c=true)∧
  env=[(0,ptr B.n),(7,i64 cS),(20,.slice a' R.length (vc - 1)),(21,i64 R.length),(22,i64 j)]) R.length ⟨0,x,rfl,by omega,m.cells,ah.refl _ _,by simp,by simp,rfl⟩ ?_
 rintro mm env H1 ⟨j,cS,rfl,hj,c1,e1,Mz,yt,rfl⟩
 have m1:=m.aC c1 e1 rfl
 obtain⟨Dt,o1,_⟩:=m1.own
 refine vs ?_
 refine ar.dec (fun bf=>?_) (fun bf=>?_)<;>refine vs ?_
 ·have FF:j<R.length:=by omega
  obtain⟨y,hy⟩:∃y,R[j]? =some y:=by grind
  have hB1:=hB.ext e1 (fun z _ hk hc=>hk (.inr (m.hC z hc))) (ro':=ro) (fun _ _ h=>h)
  obtain⟨_,b2,o2,lb2,rfl,q2,q3⟩:=fh.num hB1.rd hy
  refine⟨by omega,?_⟩
  refine v5 q2 aok Int.toNat_natCast q3 (ae o1) ?_
  refine(cA c1 y cS).mono ?_
  rintro _ H2 ⟨rfl,c2,e2⟩
  have hym:y∈x::R:=by grind
  have Xr:cS∈x::R:=by
   rcases aoR.1 Mz with h|h
   ·grind
   ·grind
  have HV:=X2 y hym
  have Wu:=X2 cS Xr
  rw[gw (w:=w) (a:=y) (b:=cS) (by omega) (by omega)]
  have tk:R.take (j+1)=R.take j++[y]:=by rw[aoL,hy];rfl
  cases hyb:aP w y cS
  ·refine vs ?_
   rw[wrap64 (n:=(j:Int)+1) (by omega) (by omega)]
   refine⟨R.length - (j+1),by omega,j+1,cS,rfl,by omega,c2,e1.trans e2,?_,fun c hc bN=>?_,rfl⟩
   ·grind
   ·rw[tk,←apc]at hc
    rcases aoD.1 hc with hc|hc
    ·grind
    ·rw[aoB.1 hc]at bN ⊢
     exact(by grind [aP,Nw.key,Nw.seq])
  ·refine vs ?_
   rw[wrap64 (n:=(j:Int)+1) (by omega) (by omega)]
   refine⟨R.length - (j+1),by omega,j+1,y,rfl,by omega,c2,e1.trans e2,?_,fun c hc bN=>?_,rfl⟩
   ·grind
   ·rw[tk,←apc]at hc
    rcases aoD.1 hc with hc|hc
    ·by_cases e:c=cS
     ·grind
     ·exact(by grind [aP,Nw.key,Nw.seq])
    grind
 ·obtain rfl:j=R.length:=by omega
  rw[aoP]at Mz yt
  refine .inr ⟨cS,?_,rfl,⟨B,ro,C,l,V,ch,ay,kb,eQ,rows,rb,rfl,m1,f,hl,hS⟩,e1.mono fun z _ hz=>(hS z).2 (ed (m.hC z hz) nofun)⟩
  rw[bD]
  refine⟨PS,(X2 cS Mz).1,fun y hy bN=>?_⟩
  obtain⟨r,FI,JK⟩:=f.root PS hy
  rw[hr]at FI
  by_cases e:r=cS
  ·grind
  ·have h5:=yt r FI e
   rcases JK with h6|h6
   ·grind
   ·exact(aw w).tr _ _ _ h5 h6
end
end Go.Proofs.YtjkkkibiegfecaaGreatDoor
