/- Texts put behind each other. -/
import Derived.Test.YtjkkkibiegfecaaGreatDoorK98
import Derived.Test.YtjkkkibiegfecaaGreatDoorK1
import Derived.Test.YtjkkkibiegfecaaGreatDoorK21
import Derived.Test.YtjkkkibiegfecaaGreatDoorK24
import Derived.Test.YtjkkkibiegfecaaGreatDoorK25
import Derived.Test.YtjkkkibiegfecaaGreatDoorK26
import Derived.Test.YtjkkkibiegfecaaGreatDoorK28
set_option maxRecDepth 100000
set_option maxHeartbeats 8000000
set_option linter.unusedVariables false
set_option linter.unusedSimpArgs false
namespace Go.Proofs.YtjkkkibiegfecaaGreatDoor
open Go Go.Vc
theorem rI{H:Hp}{n:Nat}{S:Nat→Prop}{d st:Int}{w:Nw}(h:cZ H n S d st w)(x:Int):ag Tryz.prog nU [ptr n,i64 x] H fun v H'=>ap (
  (¬cI w.cs x∧v= .bool false∧H=H')∨
  (cI w.cs x∧v= .bool true∧∃ (c0:Ce) (q:Nat),w.cs[x.toNat]? =some c0∧(q:Int)≤d*(jj d (w.len c0.1 - 1):Nat)+1∧∃S',cZ H' n S' d (min (st+q) 4611686018427387904) (w.put x (0,0,0))∧ah S H H'∧∀z,S' z→S z∨H.size≤z)):=by
 obtain⟨c,C,rv,fp,rs,m,l,hS⟩:=h
 refine aU zB ?_
 refine v1 (ae m.own) ?_
 refine(cY m.cells x).mono ?_
 rintro _ H1 (⟨bU,rfl,rfl⟩| ⟨ci,c0,DZ,rfl,c1,e1⟩)
 ·refine vs ?_
  exact .inl ⟨bU,rfl,rfl⟩
 obtain⟨im,c0',KT,gI⟩:=id ci
 rw[DZ]at KT
 injection KT with KT
 subst KT
 obtain⟨R,hR⟩:=(l.hs c0.1.toNat).1 (m.cells.live _ (by grind) gI)
 have Nq:((c0.1.toNat:Nat):Int)=c0.1:=by omega
 have dW:=l.mem _ R hR
 have bu:=l.len _ R hR
 rw[Nq]at dW bu
 have jh:(w.put x (0,0,0)).cs[x.toNat]? =some (0,0,0):=aot (by grind)
 have B6:∀y:Nat,y≠x.toNat→(w.put x (0,0,0)).cs[y]? =w.cs[y]? :=fun y hy=>aor (Ne.symm hy)
 have o1:=e1.own m.own m.nC
 have m1:gR H1 n c C rv fp d st w rs:=⟨o1,c1,m.sl.ext e1 (fun b hb h=>(m.ye b hb).2 h),fun i R hR=>(m.row i R hR).ext e1 (fun x hx=>(m.nE i R hR x hx).1),m.nC,m.ye,m.nE,m.vZ⟩
 have bf:=(aoj.1 hR).1
 have hxR:x∈R.l:=by grind
 have Hd:∀z∈R.l,cI w.cs z:=fun z hz=>by
  obtain⟨z0,e,he⟩:=(dW z).1 hz
  exact⟨z0,_,he,gI⟩
 obtain⟨b,o,c',lb,q1,q2,q3,q4⟩:=fh.get m1.sl.rd (i:=c0.1.toNat) (j:=0) (x:=ptr R.r) (by omega) (by simp[hR,Q8])
 subst q1
 have Vm:=m.cells.st
 have sT:=m.cells.CI
 have rl:R.l.length≤65536:=by have:=(w.kT c0.1).2;omega
 refine v1 (ae o1) ?_
 refine⟨by omega,?_⟩
 refine v2 q2 (show lb[o+c0.1.toNat*1]? =some (ptr R.r)from q4) ?_
 refine(DE (Ca (c:=c) (rv:=.slice (some ⟨b,o,none⟩) rs.length c') (d:=d) (st:=st) (w:=w) m.nC) (m1.row _ R hR) (fun z hz ht=>?_) (n:=0) (by grind) l.tf x (by omega) (l.ok _ R hR).pl Hd).mono ?_
 ·cases m;grind
 rintro _ H2 (⟨hp,_,_⟩| ⟨i,hp,rfl,r2,⟨c2,o2⟩,e2⟩)
 ·exact absurd hp ((bP.mem (l.ok _ R hR) x).1 hxR)
 obtain⟨p1,p2,p3,p4⟩:=bP.XW (aw w) l.tf (l.ok _ R hR) hp
 generalize hU:cU (aP w) d x R.l R.pl i=U at*
 rw[aoi]at c2
 refine v1 (ae o2) ?_
 refine(kV c2 x).mono ?_
 rintro _ H3 (⟨bU,_,_⟩| ⟨_,rfl,c3,e3⟩)
 ·exact absurd ci bU
 refine vs ?_
 have o3:=e3.own o2 m.nC
 have CJ:ah (fun z=>R.S z∨C z∨z=n) H1 H3:=e2.trans (e3.mono (by grind))
 have r3:=r2.ext e3 (fun z hz=>(m.nE _ R hR z hz).1)
 have Nu:∀z,(R.S z∨C z∨z=n)→S z:=fun z hz=>(hS z).1 (by
  rcases hz with hz|hz|hz
  ·exact .inr (by grind)
  ·exact .inl hz
  ·exact .inr (.inl hz))
 have dL:∀ (h:Nat) Q,(rs.set c0.1.toNat (some (⟨R.r,R.S,U.1,U.2.1⟩:Rw)))[h]? =some (some Q)→(h=c0.1.toNat∧Q=⟨R.r,R.S,U.1,U.2.1⟩)∨(h≠c0.1.toNat∧rs[h]? =some (some Q)):=by grind
 have FC:∀ (h:Nat) Q,rs[h]? =some (some Q)→0<h:=fun h Q hQ=>by
  cases l;grind
 have bN:∀ (h:Nat) Q,h≠c0.1.toNat→rs[h]? =some (some Q)→∀y∈Q.l,y.toNat≠x.toNat:=fun h Q hh hQ y hy e=>by
  obtain⟨y0,e',he⟩:=(l.mem h Q hQ y).1 hy
  grind
 have XP:∀y∈U.1,y.toNat≠x.toNat:=by grind
 refine .inr ⟨ci,rfl,c0,U.2.2,DZ,?_,B9 n C fp (rs.set c0.1.toNat (some ⟨R.r,R.S,U.1,U.2.1⟩)),
  ⟨c,C,_,fp,rs.set c0.1.toNat (some ⟨R.r,R.S,U.1,U.2.1⟩),m1.setRow hR (R':=⟨R.r,R.S,U.1,U.2.1⟩) rfl r3 (by grind) CJ (fun z hz=>?_) c3 o3,
   ⟨l.tf,by rw[aom];exact l.hl,fun h=>?_,?_,fun h Q hQ=>?_,fun h Q hQ y=>?_,fun h Q hQ=>?_⟩,fun z=>Iff.rfl⟩,?_,fun z hz=>?_⟩
 ·grind
 ·grind
 ·show w.hs[h]? =some true↔_
  rw[l.hs h]
  grind
 ·rw[aor (by omega)];exact l.h0
 ·rcases dL h Q hQ with ⟨rfl,rfl⟩| ⟨h5,h6⟩
  ·exact bP.congr l.tf p1 fun z hz y hy=>(iw w x _ (XP z hz) (XP y hy)).symm
  ·exact bP.congr l.tf (l.ok h Q h6) fun z hz y hy=>(iw w x _ (by grind) (by grind)).symm
 ·by_cases FD:y.toNat=x.toNat
  ·grind
  ·rw[B6 _ FD]
   rcases dL h Q hQ with ⟨rfl,rfl⟩| ⟨h5,h6⟩
   ·grind
   ·exact l.mem h Q h6 y
 ·rcases dL h Q hQ with ⟨rfl,rfl⟩| ⟨h5,h6⟩
  ·grind [Nw.gK]
  ·have:=FC h Q h6
   rw[l.len h Q h6,Nw.gK DZ h,if_neg (by omega),if_neg (by omega)]
   omega
 ·exact(e1.mono (by grind)).trans (CJ.mono (by grind))
 ·rcases hz with hz|rfl|hz| ⟨i,Q,hQ,hz⟩
  ·grind
  ·grind
  ·exact .inl ((hS z).1 (.inr (.inr (.inl hz))))
  ·rcases dL i Q hQ with ⟨rfl,rfl⟩| ⟨h5,h6⟩
   ·grind
   ·exact .inl ((hS z).1 (.inr (by grind)))
theorem Cb{H:Hp}{n:Nat}{S:Nat→Prop}{d st:Int}{w:Nw}(h:cZ H n S d st w)(g:Int):ag Tryz.prog mH [ptr n,i64 g] H fun v H'=>ap (
  ((¬w.has g∨(w.has g∧w.len g=0))∧v= .tuple [i64 0,.bool false].toArray∧H=H')∨
  (w.has g∧∃x,cI w.cs x∧(∃e,w.cs[x.toNat]? =some (g,e))∧(∀y,0≤y→(∃e,w.cs[y.toNat]? =some (g,e))→y≠x→aP w x y=true)∧v= .tuple [i64 x,.bool true].toArray∧
   ∃q:Nat,(q:Int)≤d*(jj d (w.len g - 1):Nat)+1∧∃S',cZ H' n S' d (min (st+q) 4611686018427387904) (w.put x (0,0,0))∧ah S H H'∧∀z,S' z→S z∨H.size≤z)):=by
 refine aU xw ?_
 refine vs ?_
 refine(yG h g).mono ?_
 rintro _ _ ⟨⟨bU,rfl⟩| ⟨hh,h0,rfl⟩| ⟨hh,x,hx,he,rfl,Do⟩,rfl⟩
 ·refine vs ?_
  exact .inl ⟨.inl bU,rfl,rfl⟩
 ·refine vs ?_
  exact .inl ⟨.inr ⟨hh,h0⟩,rfl,rfl⟩
 ·refine vs ?_
  refine(rI h x).mono ?_
  rintro _ H1 (⟨bU,_,_⟩| ⟨_,rfl,c0,q,DZ,hq,S',d1,e1,Vk⟩)
  ·exact absurd hx bU
  refine vs ?_
  obtain⟨e,FE⟩:=id he
  rw[DZ]at FE
  injection FE with FE
  subst FE
  exact .inr ⟨hh,x,hx,he,Do,rfl,q,hq,S',d1,e1,Vk⟩
theorem Q9(w:Nw){x:Int}{y:Ce}{k s:Int}(hy:w.cs[x.toNat]? =some y)(hl:¬fQ y.2.1 y.2.2 k s){z:Int}(hz:z.toNat≠x.toNat)(h:aP w z x=false):aP (w.put x (y.1,k,s)) z x=false:=by
 have k1:w.key x=y.2.1:=by unfold Nw.key;rw[aon,hy];rfl
 have k2:w.seq x=y.2.2:=by unfold Nw.seq;rw[aon,hy];rfl
 have hs:=aot (l:=w.cs) (a:=(y.1,k,s)) (aoj.1 hy).1
 have k3:(w.put x (y.1,k,s)).key x=k:=by unfold Nw.key Nw.put;simp only[aon];rw[hs];rfl
 have k4:(w.put x (y.1,k,s)).seq x=s:=by unfold Nw.seq Nw.put;simp only[aon];rw[hs];rfl
 have k5:(w.put x (y.1,k,s)).key z=w.key z:=by unfold Nw.key Nw.put;simp only[aon];grind
 have k6:(w.put x (y.1,k,s)).seq z=w.seq z:=by unfold Nw.seq Nw.put;simp only[aon];grind
 unfold aP at h ⊢
 rw[k3,k4,k5,k6]
 rw[k1,k2]at h
 simp only[decide_eq_false_iff_not,fQ]at*
 omega
theorem Ag{H:Hp}{n:Nat}{S:Nat→Prop}{d st:Int}{w:Nw}(h:cZ H n S d st w)(x k s:Int):ag Tryz.prog lF [ptr n,i64 x,tE k s] H fun v H'=>ap (
  (¬ (cI w.cs x∧∀y,w.cs[x.toNat]? =some y→¬fQ y.2.1 y.2.2 k s)∧v= .bool false∧cZ H' n S d st w∧ai H H')∨
  (cI w.cs x∧∃y,w.cs[x.toNat]? =some y∧¬fQ y.2.1 y.2.2 k s∧v= .bool true∧∃q:Nat,(q:Int)≤jj d (w.len y.1 - 1)∧∃S',cZ H' n S' d (min (st+q) 4611686018427387904) (w.put x (y.1,k,s))∧ah S H H'∧∀z,S' z→S z∨H.size≤z)):=by
 obtain⟨c,C,rv,fp,rs,m,l,hS⟩:=h
 refine aU vr ?_
 refine vs ?_
 have f0:ai H (H.new 190 [i64 k,u64 s]):=(ah.refl _ _).new _ _
 have b0:(H.new 190 [i64 k,u64 s]).own H.size=some [i64 k,u64 s]:=aA _ _ _
 have m0:=m.ext f0 (fun _ _ h=>h)
 generalize H.new 190 [i64 k,u64 s]=H0 at*
 refine v2 (ae m0.own) (ae b0) ?_
 refine(jK m0.cells x k s).mono ?_
 rintro _ H1 (⟨bU,rfl,c1,e1⟩| ⟨ci,rfl,y,hy,jI,c1,e1⟩)
 ·refine vs ?_
  exact .inl ⟨bU,rfl,⟨c,C,rv,fp,rs,m0.ext e1 (fun _ _ h=>h),l,hS⟩,f0.trans e1⟩
 have o1:=e1.own m0.own m.nC
 refine v1 (ae o1) ?_
 obtain⟨im,y',nL,gI⟩:=id ci
 rw[hy]at nL
 injection nL with nL
 subst nL
 have jh:(w.put x (y.1,k,s)).cs[x.toNat]? =some (y.1,k,s):=aot (by grind)
 have B6:∀z:Nat,z≠x.toNat→(w.put x (y.1,k,s)).cs[z]? =w.cs[z]? :=fun z hz=>aor (Ne.symm hz)
 have OV:cI (w.put x (y.1,k,s)).cs x:=⟨im,_,jh,gI⟩
 refine(cY c1 x).mono ?_
 rintro _ H2 (⟨bU,_,_⟩| ⟨_,y2,HV,rfl,c2,e2⟩)
 ·exact absurd OV bU
 rw[jh]at HV
 injection HV with HV
 subst HV
 have oY:=e1.trans e2
 obtain⟨R,hR⟩:=(l.hs y.1.toNat).1 (m.cells.live _ (by grind) gI)
 have Nq:((y.1.toNat:Nat):Int)=y.1:=by omega
 have Tb:∀ (h:Nat) Q,rs[h]? =some (some Q)→∀z:Int,z∈Q.l↔0≤z∧∃e,(w.put x (y.1,k,s)).cs[z.toNat]? =some (((h:Nat):Int),e):=fun h Q hQ z=>by
  cases l;grind
 have dW:=Tb _ R hR
 have bu:=l.len _ R hR
 rw[Nq]at dW bu
 have hxR:x∈R.l:=by grind
 have Hd:∀z∈R.l,cI (w.put x (y.1,k,s)).cs z:=fun z hz=>by
  obtain⟨z0,e,he⟩:=(dW z).1 hz
  exact⟨z0,_,he,gI⟩
 have o2:=e2.own o1 m.nC
 have m2:gR H2 n c C rv fp d st (w.put x (y.1,k,s)) rs:=⟨o2,c2,m0.sl.ext oY (fun b hb h=>(m.ye b hb).2 h),fun i R hR=>(m0.row i R hR).ext oY (fun x hx=>(m.nE i R hR x hx).1),m.nC,m.ye,m.nE,m.vZ⟩
 have bf:=(aoj.1 hR).1
 obtain⟨b,o,c',lb,q1,q2,q3,q4⟩:=fh.get m2.sl.rd (i:=y.1.toNat) (j:=0) (x:=ptr R.r) (by omega) (by simp[hR,Q8])
 subst q1
 have Vm:=m.cells.st
 have sT:=m.cells.CI
 have rl:R.l.length≤65536:=by have:=(w.kT y.1).2;omega
 refine v1 (ae o2) ?_
 refine⟨by omega,?_⟩
 refine v2 q2 (show lb[o+y.1.toNat*1]? =some (ptr R.r)from q4) ?_
 refine(EX (Ca (c:=c) (rv:=.slice (some ⟨b,o,none⟩) rs.length c') (d:=d) (st:=st) (w:=w.put x (y.1,k,s)) m.nC) (m2.row _ R hR) (fun z hz ht=>?_) (n:=0) (by grind) x (by omega) (fun i hi=>by
  obtain⟨h1,h2⟩:=((l.ok _ R hR).pl x i).1 hi
  grind) OV Hd).mono ?_
 ·cases m;grind
 rintro _ H3 (⟨hp,_,_⟩| ⟨i,hp,rfl,r3,⟨c3,o3⟩,e3⟩)
 ·exact absurd hp ((bP.mem (l.ok _ R hR) x).1 hxR)
 have UF:∀z∈R.l,z≠x→z.toNat≠x.toNat:=by grind
 obtain⟨p1,p2,p3,p4⟩:=bP.raise (aw w) (aw (w.put x (y.1,k,s))) l.tf (l.ok _ R hR) hp (fun a ha b hb uv lq=>iw w x _ (UF a ha uv) (UF b hb lq)) (fun z hz hzx hl=>Q9 w hy jI (UF z hz hzx) hl)
 generalize hU:fM (aP (w.put x (y.1,k,s))) d x i.toNat R.l R.pl i=U at*
 rw[aoi]at c3
 refine vs ?_
 have Nu:∀z,(R.S z∨C z∨z=n)→S z:=fun z hz=>(hS z).1 (by
  rcases hz with hz|hz|hz
  ·exact .inr (by grind)
  ·exact .inl hz
  ·exact .inr (.inl hz))
 have dL:∀ (h:Nat) Q,(rs.set y.1.toNat (some (⟨R.r,R.S,U.l,U.pl⟩:Rw)))[h]? =some (some Q)→(h=y.1.toNat∧Q=⟨R.r,R.S,U.l,U.pl⟩)∨(h≠y.1.toNat∧rs[h]? =some (some Q)):=by grind
 have bN:∀ (h:Nat) Q,h≠y.1.toNat→rs[h]? =some (some Q)→∀z∈Q.l,z.toNat≠x.toNat:=by grind
 have hwl:∀h:Int,(w.put x (y.1,k,s)).len h=w.len h:=fun h=>by
  grind [Nw.gK]
 refine .inr ⟨ci,y,hy,jI,rfl,U.asked,by grind,B9 n C fp (rs.set y.1.toNat (some ⟨R.r,R.S,U.l,U.pl⟩)),
  ⟨c,C,_,fp,rs.set y.1.toNat (some ⟨R.r,R.S,U.l,U.pl⟩),m2.setRow hR (R':=⟨R.r,R.S,U.l,U.pl⟩) rfl r3 (by grind) e3 (fun z hz=>?_) c3 o3,
   ⟨l.tf,by rw[aom];exact l.hl,fun h=>?_,?_,fun h Q hQ=>?_,fun h Q hQ z=>?_,fun h Q hQ=>?_⟩,fun z=>Iff.rfl⟩,?_,fun z hz=>?_⟩
 ·grind
 ·show w.hs[h]? =some true↔_
  rw[l.hs h]
  grind
 ·rw[aor (by omega)];exact l.h0
 ·rcases dL h Q hQ with ⟨rfl,rfl⟩| ⟨h5,h6⟩
  ·exact p1
  ·exact bP.congr l.tf (l.ok h Q h6) fun z hz v hv=>(iw w x _ (by grind) (by grind)).symm
 ·grind
 ·cases l;grind
 ·exact(f0.mono fun _ _ h=>h.elim).trans ((oY.mono (by grind)).trans (e3.mono (by grind)))
 ·rcases hz with hz|rfl|hz| ⟨j,Q,hQ,hz⟩
  ·grind
  ·grind
  ·exact .inl ((hS z).1 (.inr (.inr (.inl hz))))
  ·rcases dL j Q hQ with ⟨rfl,rfl⟩| ⟨h5,h6⟩
   ·grind
   ·exact .inl ((hS z).1 (.inr (by grind)))
theorem gR.at_{H:Hp}{n c:Nat}{C:Nat→Prop}{rv:Value}{fp:Option Nat}{d st:Int}{w:Nw}{rs:List (Option Rw)}(m:gR H n c C rv fp d st w rs){i:Nat}{o:Option Rw}(h:rs[i]? =some o):
  ∃f cc lb,rv= .slice (some ⟨f,0,none⟩) rs.length cc∧fp=some f∧H.own f=some lb∧lb[i]? =some (Q8 o)∧i<rs.length:=by
 have hi:=(aoj.1 h).1
 obtain⟨hl,hm⟩:=id m.sl
 cases fp with
 |none=>obtain⟨e,_⟩:=hm;omega
 |some f=>
  obtain⟨lb,cc,hv,ho,h1,h2,h3⟩:=hm
  refine⟨f,cc,lb,hv,rfl,ho,?_,hi⟩
  have h4:(rs.map Q8)[i]? =some (Q8 o):=by rw[aoF,h];rfl
  grind
theorem OY{rs:List (Option Rw)}{a b:Nat}{T:Rw}(ha:a<rs.length)(hb:b<rs.length)(eJ:a≠b){h:Nat}{Q:Rw}(hQ:((rs.set a (some T)).set b none)[h]? =some (some Q)):
  (h=a∧Q=T)∨(h≠a∧h≠b∧rs[h]? =some (some Q)):=by
 grind
theorem gR.two{H:Hp}{n c f cc:Nat}{C:Nat→Prop}{d st:Int}{w:Nw}{rs:List (Option Rw)}(m:gR H n c C (.slice (some ⟨f,0,none⟩) rs.length cc) (some f) d st w rs){a b:Nat}(eJ:a≠b){T:Rw}(hT:rs[a]? =some (some T)∨rs[b]? =some (some T))
  (ha:a<rs.length)(hb:b<rs.length){lb:List Value}(hf:H.own f=some lb):
  gR ((H.wr f (lb.set a (ptr T.r))).wr f ((lb.set a (ptr T.r)).set b (.pointer none))) n c C (.slice (some ⟨f,0,none⟩) rs.length cc) (some f) d st w ((rs.set a (some T)).set b none)∧
   ah (fun z=>z=f) H ((H.wr f (lb.set a (ptr T.r))).wr f ((lb.set a (ptr T.r)).set b (.pointer none))):=by
 have e:ah (fun z=>z=f) H ((H.wr f (lb.set a (ptr T.r))).wr f ((lb.set a (ptr T.r)).set b (.pointer none))):=((ah.refl (fun z=>z=f) _).wr (fun _=>rfl) _).wr (fun _=>rfl) _
 have jg:=m.ye f rfl
 have Uk:∀ (h:Nat) Q,((rs.set a (some T)).set b none)[h]? =some (some Q)→∃h',rs[h']? =some (some Q)∧((h'=h∧h≠a∧h≠b)∨(h=a∧(h'=a∨h'=b))):=by grind
 refine⟨⟨e.own m.own (Ne.symm jg.1),m.cells.ext e (by grind),?_,fun h Q hQ=>?_,m.nC,m.ye,fun h Q hQ x hx=>?_,fun h h' Q Q' hQ Vi bN x hx BP=>?_⟩,e⟩
 ·have h1:=(m.sl.sf hf a (ptr T.r)).sf (af hf) b (.pointer none)
  rw[aom,aom,aoN,aoN]
  exact h1
 ·obtain⟨h',h1,_⟩:=Uk h Q hQ
  exact(m.row h' Q h1).ext e (fun x hx hz=>(m.nE h' Q h1 x hx).2.2 (by grind))
 ·obtain⟨h',h1,_⟩:=Uk h Q hQ
  exact m.nE h' Q h1 x hx
 ·obtain⟨g,h1,h2⟩:=Uk h Q hQ
  obtain⟨g',h3,h4⟩:=Uk h' Q' Vi
  exact m.vZ g g' Q Q' h1 h3 (by omega) x hx BP
theorem JO.join{d:Int}{w:Nw}{rs:List (Option Rw)}(l:JO d w rs){a b:Int}(ha:w.has a)(hb:w.has b)(eJ:a≠b){Ra Rb T:Rw}(E4:rs[a.toNat]? =some (some Ra))(E5:rs[b.toNat]? =some (some Rb))
  (pR:bP (aP (w.join a b)) d T.l T.pl)(dW:∀z,z∈T.l↔z∈Ra.l∨z∈Rb.l)(bu:T.l.length=Ra.l.length+Rb.l.length):JO d (w.join a b) ((rs.set a.toNat (some T)).set b.toNat none):=by
 have Uc:=ha.1
 have Mz:=hb.1
 have IR:=(aoj.1 E4).1
 have uF:=(aoj.1 E5).1
 have bN:a.toNat≠b.toNat:=by omega
 have Wt:((a.toNat:Nat):Int)=a:=by omega
 have Wu:((b.toNat:Nat):Int)=b:=by omega
 refine⟨l.tf,by rw[aom,aom,l.hl];simp[Nw.join],fun h=>?_,?_,fun h Q hQ=>?_,fun h Q hQ z=>?_,fun h Q hQ=>?_⟩
 ·show(w.hs.set b.toNat false)[h]? =some true↔_
  by_cases h1:h=b.toNat
  ·grind
  ·rw[aor (Ne.symm h1),aor (Ne.symm h1)]
   by_cases h2:h=a.toNat
   ·subst h2
    rw[aot IR]
    exact⟨by grind,fun _=>ha.2⟩
   ·rw[aor (Ne.symm h2)]
    exact l.hs h
 ·cases l;grind
 ·rcases OY IR uF bN hQ with ⟨rfl,rfl⟩| ⟨h1,h2,h3⟩
  ·exact pR
  ·exact bP.congr l.tf (l.ok h Q h3) fun z _ y _=>(vN w a b z y).symm
 ·rw[vM]
  rcases OY IR uF bN hQ with ⟨rfl,rfl⟩| ⟨h1,h2,h3⟩
  ·rw[dW z,l.mem _ Ra E4 z,l.mem _ Rb E5 z,Wt,Wu]
   cases w.cs[z.toNat]? with
   |none=>simp
   |some c=>
    obtain⟨c1,c2⟩:=c
    simp only[Option.map_some,aoq,Prod.mk.injEq]
    constructor
    ·rintro(⟨z0,e,rfl,rfl⟩| ⟨z0,e,rfl,rfl⟩)
     ·simp_all
     grind
    grind
  ·rw[l.mem h Q h3 z]
   grind
 cases l;grind [Nw.GU]
theorem Hg{H:Hp}{n:Nat}{S:Nat→Prop}{d st:Int}{w:Nw}(h:cZ H n S d st w)(a b:Int):ag Tryz.prog qG [ptr n,i64 a,i64 b] H fun v H'=>ap (
  (¬ (w.has a∧w.has b∧a≠b)∧v= .bool false∧H=H')∨
  ((w.has a∧w.has b∧a≠b)∧v= .bool true∧∃q:Nat,(q:Int)≤min (w.len a) (w.len b)*(jj d (w.len a+w.len b):Nat)∧∃S',cZ H' n S' d (min (st+q) 4611686018427387904) (w.join a b)∧ah S H H'∧∀z,S' z→S z∨H.size≤z)):=by
 obtain⟨c,C,rv,fp,rs,m,l,hS⟩:=h
 refine Fz C3 ⟨rfl,?_⟩
 refine v2 qS.eq_1 (ae m.own) ?_
 refine(kW m.cells a b).mono ?_
 rintro _ H1 (⟨bU,rfl,rfl⟩| ⟨⟨ha,hb,eJ⟩,rfl,c1,e1⟩)
 ·refine vs ?_
  exact .inl ⟨bU,rfl,rfl⟩
 obtain⟨Ra,E4⟩:=l.ed ha
 obtain⟨Rb,E5⟩:=l.ed hb
 have Uc:=ha.1
 have Mz:=hb.1
 have IR:=(aoj.1 E4).1
 have uF:=(aoj.1 E5).1
 have o1:=e1.own m.own m.nC
 have m1:gR H1 n c C rv fp d st (w.join a b) rs:=⟨o1,c1,m.sl.ext e1 (fun b hb h=>(m.ye b hb).2 h),fun i R hR=>(m.row i R hR).ext e1 (fun x hx=>(m.nE i R hR x hx).1),m.nC,m.ye,m.nE,m.vZ⟩
 obtain⟨f,cc,lb,rfl,rfl,of,ga,la⟩:=m1.at_ E4
 obtain⟨f',Uh,Wp,hv,JC,Vl,gb,lb2⟩:=m1.at_ E5
 injection JC with JC
 subst JC
 rw[of]at Vl
 injection Vl with Vl
 subst Vl
 refine v1 (ae o1) ?_
 refine⟨by omega,?_⟩
 simp(disch:=(first|omega| (simp only[Zs]<;>omega)|fail)) only[go_sem, ↓reduceIte,Zv,ae of,ae o1,aok,ga,Q8]
 refine⟨by omega,?_⟩
 simp(disch:=(first|omega| (simp only[Zs]<;>omega)|fail)) only[go_sem, ↓reduceIte,Zv,ae of,aok,gb,Q8]
 refine iD (fun e H'=>e.find 0=some (ptr n)∧e.find 1=some (i64 a)∧e.find 2=some (i64 b)∧H'=H1∧∃T F:Rw,e.find 7=some (ptr T.r)∧e.find 8=some (ptr F.r)∧
  ((T=Ra∧F=Rb∧Rb.l.length≤Ra.l.length)∨(T=Rb∧F=Ra∧Ra.l.length<Rb.l.length))) ?_ ?_
 ·refine vs ?_
  refine(yz (m1.row _ Ra E4)).mono ?_
  rintro _ _ ⟨rfl,rfl⟩
  refine vs ?_
  refine(yz (m1.row _ Rb E5)).mono ?_
  rintro _ _ ⟨rfl,rfl⟩
  refine vs ?_
  refine ar.dec (fun bf=>?_) (fun bf=>?_)<;>refine vs ?_
  ·exact⟨trivial,trivial,trivial,trivial,Rb,Ra,rfl,rfl,.inr ⟨rfl,rfl,by omega⟩⟩
  ·exact⟨trivial,trivial,trivial,trivial,Ra,Rb,rfl,rfl,.inl ⟨rfl,rfl,by omega⟩⟩
 rintro e H1' ⟨e0,ea,eb,hH1,T,F,eT,eF,Tc⟩
 obtain rfl:=hH1.symm
 have Wt:((a.toNat:Nat):Int)=a:=by omega
 have Wu:((b.toNat:Nat):Int)=b:=by omega
 have bN:a.toNat≠b.toNat:=by omega
 have hT:rs[a.toNat]? =some (some T)∨rs[b.toNat]? =some (some T):=by
  rcases Tc with ⟨rfl,rfl,_⟩| ⟨rfl,rfl,_⟩
  ·exact .inl E4
  ·exact .inr E5
 obtain⟨iT,iF,Q7,hF,XR,gI⟩:∃iT iF:Nat,rs[iT]? =some (some T)∧rs[iF]? =some (some F)∧iT≠iF∧0<iF:=by
  rcases Tc with ⟨rfl,rfl,_⟩| ⟨rfl,rfl,_⟩
  ·exact⟨_,_,E4,E5,bN,by omega⟩
  ·exact⟨_,_,E5,E4,Ne.symm bN,by omega⟩
 have DD:∀z,(z∈T.l∨z∈F.l)↔(z∈Ra.l∨z∈Rb.l):=fun z=>by
  rcases Tc with ⟨rfl,rfl,_⟩| ⟨rfl,rfl,_⟩
  ·exact Iff.rfl
  ·exact Or.comm
 have eLa:=l.len _ Ra E4
 have eLb:=l.len _ Rb E5
 rw[Wt]at eLa
 rw[Wu]at eLb
 have bu:T.l.length+F.l.length=Ra.l.length+Rb.l.length∧((F.l.length:Nat):Int)=min (w.len a) (w.len b):=by
  rcases Tc with ⟨rfl,rfl,_⟩| ⟨rfl,rfl,_⟩<;>omega
 clear Tc
 have Td:∀z∈F.l,z∉T.l:=fun z hz hz'=>by
  obtain⟨_,e1,h1⟩:=(l.mem iF F hF z).1 hz
  obtain⟨_,e2,h2⟩:=(l.mem iT T Q7 z).1 hz'
  rw[h1]at h2
  injection h2 with h2
  injection h2 with h2 _
  omega
 have OX:∀ (i:Nat) Q,rs[i]? =some (some Q)→0<i→∀z∈Q.l,cI (w.join a b).cs z:=fun i Q hQ hi z hz=>by
  obtain⟨z0,e,he⟩:=(l.mem i Q hQ z).1 hz
  exact(GV w (by omega) (by omega) z).2 ⟨z0,_,he,by simp only;omega⟩
 have FC:∀ (h:Nat) Q,rs[h]? =some (some Q)→0<h:=fun h Q hQ=>by
  rcases Nat.eq_zero_or_pos h with hi|hi
  ·subst hi;rw[l.h0]at hQ;cases hQ
  ·exact hi
 have sT:=m.cells.CI
 have rl:Ra.l.length≤65536∧Rb.l.length≤65536:=by have:=(w.kT a).2;have:=(w.kT b).2;omega
 have Vm:=m.cells.st
 have h2:=m1.two bN hT IR uF of
 rw[MU]at h2
 obtain⟨m2,e2⟩:=h2
 have abJ:dq (H1.wr f ((lb.set a.toNat (ptr T.r)).set b.toNat (.pointer none))) F.r F.S d F.l F.pl:=(m1.row iF F hF).ext e2 (fun x hx hz=>(m.nE iF F hF x hx).2.2 (aoo some hz.symm))
 have of1:(H1.wr f (lb.set a.toNat (ptr T.r))).own f=some (lb.set a.toNat (ptr T.r)):=af of
 have afY:lb.length=(lb.set a.toNat (ptr T.r)).length:=(aom ..).symm
 have Oy:=(aoj.1 gb).1
 have Q3:=(aoj.1 ga).1
 refine v6 e0 ea eb eT eF (ae o1) ?_
 refine⟨by omega,?_⟩
 refine v7 e0 ea eb eT eF of aok ?_
 refine⟨by omega,?_⟩
 refine v1 aoi ?_
 refine⟨by omega,?_⟩
 refine v2 of1 aok ?_
 refine⟨by rw[aom];omega,?_⟩
 refine v1 aoi ?_
 generalize H1.wr f ((lb.set a.toNat (ptr T.r)).set b.toNat (.pointer none))=H2 at*
 refine v5 e0 ea eb eT eF ?_
 refine(IL abJ (by omega)).mono ?_
 rintro v3 H3 ⟨f3,fp3,s3,XX⟩
 obtain⟨a3,c3,rfl⟩:=fh.Oz s3.rd
 refine v5 e0 ea eb eT eF ?_
 have m3:=m2.ext f3 (fun _ _ h=>h)
 have bL:=m1.slt
 have z1:=e1.size
 have z2:=e2.size
 have z3:=f3.size
 have hU:∀j:Nat,j≤F.l.length→jj d ((T.l.length+j:Nat):Int)≤jj d (w.len a+w.len b):=fun j hj=>lX l.tf (w.len a+w.len b).toNat _ _ (aox _) (by omega)
 generalize jj d (w.len a+w.len b)=U at*
 refine bX.intro (fun k env H'=>∃ (j:Nat) (T':Rw) (q:Nat),env=[(0,ptr n),(7,ptr T.r),(54,.slice a3 F.l.length c3),(55,i64 F.l.length),(56,i64 j)]∧k=F.l.length - j∧j≤F.l.length∧T'.r=T.r∧
   gR H' n c C (.slice (some ⟨f,0,none⟩) rs.length cc) (some f) d (min (st+q) 4611686018427387904) (w.join a b) ((rs.set a.toNat (some T')).set b.toNat none)∧bP (aP (w.join a b)) d T'.l T'.pl∧
   (∀z,z∈T'.l↔z∈T.l∨z∈F.l.take j)∧T'.l.length=T.l.length+j∧q≤j*U∧(∀z,T'.S z→T.S z∨H3.size≤z)∧ah (fun z=>T.S z∨C z∨z=n) H3 H'∧Sl H' 1 (.slice a3 F.l.length c3) F.l.length (F.l.map i64) fp3∧
   (∀b,fp3=some b→¬T'.S b∧¬C b∧b≠n)) F.l.length
  ⟨0,T,0,rfl,by omega,by omega,rfl,by rw[show min (st+((0:Nat):Int)) 4611686018427387904=st by omega];exact m3,bP.congr l.tf (l.ok iT T Q7) fun z _ y _=>(vN w a b z y).symm,
   fun z=>by simp,rfl,by omega,fun z hz=>.inl hz,ah.refl _ _,s3,fun b hb=>⟨fun h=>by have:=XX b hb;have:=bL b (.inr (.inr (.inr ⟨iT,T,Q7,h⟩)));omega,fun h=>by have:=XX b hb;have:=bL b (.inl h);omega,fun h=>by have:=XX b hb;have:=aE o1;omega⟩⟩ ?_
 rintro k env H4 ⟨j,T',q,rfl,rfl,hj,hr,m4,pR,dW,Te,hq,Wv,e4,s4,Tf⟩
 refine vs ?_
 have XS:((rs.set a.toNat (some T')).set b.toNat none)[a.toNat]? =some (some T'):=by
  rw[aor (Ne.symm bN),aot IR]
 refine ar.dec (fun bf=>?_) (fun bf=>?_)<;>refine vs ?_
 ·obtain⟨x,hx⟩:∃x,F.l[j]? =some x:=⟨_,aol (by omega)⟩
  have ZJ:=aou hx
  obtain⟨bb,bo,bc,bl,q1,q2,q3,q4⟩:=fh.get s4.rd (i:=j) (j:=0) (x:=i64 x) (by omega) (by simp[hx])
  injection q1 with q1 _ q1'
  subst q1 q1'
  refine⟨by omega,?_⟩
  refine v3 q2 Int.toNat_natCast (show bl[bo+j*1]? =some (i64 x)from q4) ?_
  rw[←hr]
  have hxT:x∉T'.l:=fun hm=>by
   rcases(dW x).1 hm with h|h
   ·exact Td x ZJ h
   ·obtain⟨i,hi⟩:=aoC h
    rw[aoZ]at hi
    split at hi
    ·have:=(l.ok iF F hF).pl.Dm hi hx
     omega
    ·cases hi
  have KU:T'.pl x=none:=by
   cases hp:T'.pl x with
   |none=>rfl
   |some i=>exact absurd ((bP.mem pR x).2 (by rw[hp];simp)) hxT
  have XT:∀z∈T'.l,cI (w.join a b).cs z:=fun z hz=>by
   rcases(dW z).1 hz with h|h
   ·exact OX iT T Q7 (FC iT T Q7) z h
   ·exact OX iF F hF gI z (List.mem_of_mem_take h)
  refine(yA (Ca (c:=c) (rv:=.slice (some ⟨f,0,none⟩) rs.length cc) (d:=d) (st:=min (st+q) 4611686018427387904) (w:=w.join a b) m.nC) (m4.row _ T' XS) (fun z hz ht=>?_) (n:=0)
   ⟨by rw[show min (min (st+(q:Int)) 4611686018427387904+((0:Nat):Int)) 4611686018427387904=min (st+q) 4611686018427387904 by omega];exact m4.cells,m4.own⟩ x (by omega) (OX iF F hF gI x ZJ) XT).mono ?_
  ·rcases ht with ht|ht
   ·exact(m4.nE _ T' XS z hz).1 ht
   ·exact(m4.nE _ T' XS z hz).2.1 ht
  rintro _ H5 (⟨hp,_,_⟩| ⟨_,rfl,S',r5,⟨c5,o5⟩,e5,Vk⟩)
  ·exact absurd KU hp
  obtain⟨p1,p2,p3,p4⟩:=bP.add (aw (w.join a b)) l.tf pR KU
  generalize hUp:fM (aP (w.join a b)) d x T'.l.length (T'.l++[x]) T'.pl T'.l.length=Up at*
  rw[aoi]at c5
  refine vs ?_
  have hq5:Up.asked≤U:=by
   have:=hU j hj
   rw[Te]at p4
   omega
  have m5:=m4.setRow XS (R':=⟨T'.r,S',Up.l,Up.pl⟩) rfl r5 Vk e5 (fun z hz=>by
   rcases hz with hz|hz|hz
   ·exact .inr (.inl hz)
   ·exact .inl hz
   ·exact .inr (.inr hz)) c5 o5
  rw[List.set_comm _ _ (Ne.symm bN),List.set_set,show min (min (st+(q:Int)) 4611686018427387904+((Up.asked:Nat):Int)) 4611686018427387904=min (st+((q+Up.asked:Nat):Int)) 4611686018427387904 by omega]at m5
  have z4:=e4.size
  have XF:∀b,fp3=some b→b<H4.size:=fun b hb=>Sl.lt (hb▸s4)
  rw[wrap64 (n:=(j:Int)+1) (by omega) (by omega),hr]
  refine⟨F.l.length - (j+1),by omega,j+1,⟨T'.r,S',Up.l,Up.pl⟩,q+Up.asked,rfl,rfl,by omega,hr,m5,p1,fun z=>?_,by show Up.l.length=_;omega,?_,fun z hz=>?_,e4.oz e5 (fun z WT hz=>?_),s4.ext e5 (fun b hb hz=>?_),fun b hb=>⟨fun hz=>?_,(Tf b hb).2⟩⟩
  ·show z∈Up.l↔_
   rw[p2 z,dW z,aoL,hx]
   simp only[Option.toList_some,aoD,aoB]
   constructor
   ·rintro(h|h|h)
    ·exact .inr (.inr h)
    ·exact .inl h
    ·exact .inr (.inl h)
   ·rintro(h|h|h)
    ·exact .inr (.inl h)
    ·exact .inr (.inr h)
    ·exact .inl h
  ·rw[api,apL];omega
  ·rcases Vk z hz with h|h
   ·exact Wv z h
   ·exact .inr (by omega)
  ·rcases hz with hz|hz|hz
   ·rcases Wv z hz with h|h
    ·exact .inl h
    ·exact absurd WT (by omega)
   ·exact .inr (.inl hz)
   ·exact .inr (.inr hz)
  ·rcases hz with hz|hz|hz
   ·exact(Tf b hb).1 hz
   ·exact(Tf b hb).2.1 hz
   ·exact(Tf b hb).2.2 hz
  ·rcases Vk b hz with h|h
   ·exact(Tf b hb).1 h
   ·have:=XF b hb;omega
 ·have hjL:j=F.l.length:=by omega
  subst hjL
  have Nu:∀z,(T.S z∨C z∨z=n)→S z:=fun z hz=>(hS z).1 (by
   rcases hz with hz|hz|hz
   ·exact .inr (.inr (.inr ⟨_,T,Q7,hz⟩))
   ·exact .inl hz
   ·exact .inr (.inl hz))
  refine .inr ⟨⟨ha,hb,eJ⟩,rfl,q,?_,B9 n C (some f) ((rs.set a.toNat (some T')).set b.toNat none),⟨c,C,_,some f,_,m4,l.join ha hb eJ E4 E5 pR (fun z=>?_) (by omega),fun z=>Iff.rfl⟩,?_,fun z hz=>?_⟩
  ·rw[←bu.2,←Int.natCast_mul]
   exact Int.ofNat_le.2 hq
  ·rw[dW z,aoP,DD z]
  ·exact(e1.mono fun z _ hz=>Nu z (.inr (.inl hz))).trans ((e2.mono fun z _ hz=>(hS z).1 (.inr (.inr (.inl (by rw[hz]))))).trans ((f3.mono fun _ _ h=>h.elim).trans (e4.mono fun z _ hz=>Nu z hz)))
  ·rcases hz with hz|rfl|hz| ⟨i,Q,hQ,hz⟩
   ·exact .inl ((hS z).1 (.inl hz))
   ·exact .inl ((hS z).1 (.inr (.inl rfl)))
   ·exact .inl ((hS z).1 (.inr (.inr (.inl hz))))
   ·rcases OY IR uF bN hQ with ⟨rfl,rfl⟩| ⟨h5,h6,h7⟩
    ·rcases Wv z hz with h|h
     ·exact .inl (Nu z (.inl h))
     ·exact .inr (by omega)
    ·exact .inl ((hS z).1 (.inr (.inr (.inr ⟨i,Q,h7,hz⟩))))
theorem OZ(n:Nat):tN (.iface 168 (ptr n)) (fun H S w=>∃st,dF H n S st w) where
 slt:=by rintro H S w ⟨st,h⟩;exact h.slt
 ext:=by rintro H H' S w T ⟨st,h⟩ e hd;exact⟨st,h.ext e hd⟩
 cells:=by
  rintro H S w ⟨st,c,C,rv,fr,fa,ps,at_,m,l,hS⟩
  exact⟨c,C,st,m.cells⟩
 has:=by
  rintro H S w g ⟨st,c,C,rv,fr,fa,ps,at_,m,l,hS⟩
  obtain⟨av,ho,_⟩:=m.own
  exact⟨_,_,bJ,ptr c,rfl,cD (off:=0) (by kernel_rfl) (ae ho) rfl,(it m.cells g).mono fun v H' hp=>hp⟩
 make:=by
  rintro H S w ⟨st,h⟩
  refine⟨_,_,qJ,ptr n,rfl,aS (by kernel_rfl),(Hc h).mono ?_⟩
  rintro v H' (⟨h1,rfl,rfl⟩| ⟨h1,rfl,S',h2,h3,h4⟩)
  ·exact .inl ⟨h1,rfl,bq.same ⟨st,h⟩ (ah.refl _ _)⟩
  ·exact .inr ⟨h1,rfl,S',⟨_,h2⟩,h3,h4⟩
 insert:=by
  rintro H S w g x k s ⟨st,h⟩
  refine⟨_,_,og,ptr n,rfl,aS (by kernel_rfl),(DC h g x k s).mono ?_⟩
  rintro v H' (⟨h1,rfl,h2,h3⟩| ⟨h1,rfl,S',q,h2,_,h3,h4,h5⟩)
  ·exact .inl ⟨h1,rfl,bq.same ⟨st,h2⟩ h3⟩
  ·exact .inr ⟨h1,rfl,S',⟨_,h3⟩,h4,h5⟩
 min:=by
  rintro H S w g ⟨st,h⟩
  refine⟨_,_,tA,ptr n,rfl,aS (by kernel_rfl),(yE h g).mono ?_⟩
  rintro v H' ⟨h1,rfl⟩
  rcases h1 with ⟨h1,rfl⟩| ⟨x,h2,rfl⟩
  ·exact .inl ⟨h1,rfl,bq.same ⟨st,h⟩ (ah.refl _ _)⟩
  ·exact .inr ⟨x,h2,rfl,bq.same ⟨st,h⟩ (ah.refl _ _)⟩
 extract:=by
  rintro H S w g ⟨st,h⟩
  refine⟨_,_,mQ,ptr n,rfl,aS (by kernel_rfl),(B7 h g).mono ?_⟩
  rintro v H' (⟨h1,rfl,rfl⟩| ⟨x,h1,rfl,q,hq,S',h5,h6,h7⟩)
  ·exact .inl ⟨h1,rfl,bq.same ⟨st,h⟩ (ah.refl _ _)⟩
  ·exact .inr ⟨x,h1,rfl,S',⟨_,h5⟩,h6,h7⟩
 mc:=by
  rintro H S w x k s ⟨st,h⟩
  refine⟨_,_,lM,ptr n,rfl,aS (by kernel_rfl),(Af h x k s).mono ?_⟩
  rintro v H' (⟨h1,rfl,h2,h3⟩| ⟨h1,y,hy,h2,rfl,q,hq,S',h3,h4,h5⟩)
  ·exact .inl ⟨h1,rfl,bq.same ⟨st,h2⟩ (h3.mono fun _ _ h=>h.elim)⟩
  ·exact .inr ⟨⟨h1,by grind⟩,rfl,y,hy,S',⟨_,h3⟩,h4,h5⟩
 entry:=by
  rintro H S w x ⟨st,h⟩
  obtain⟨c,C,rv,fr,fa,ps,at_,m,l,hS⟩:=id h
  obtain⟨av,ho,_⟩:=m.own
  refine⟨_,_,bj,ptr c,rfl,cD (off:=0) (by kernel_rfl) (ae ho) rfl,(jJ m.cells x).mono ?_⟩
  rintro v H' ⟨_,f,hv⟩
  exact⟨⟨st,h.fresh f⟩,f,hv⟩
 len:=by
  rintro H S w g ⟨st,c,C,rv,fr,fa,ps,at_,m,l,hS⟩
  obtain⟨av,ho,_⟩:=m.own
  exact⟨_,_,bK,ptr c,rfl,cD (off:=0) (by kernel_rfl) (ae ho) rfl,(iu m.cells g).mono fun v H' hp=>hp⟩
 home:=by
  rintro H S w x ⟨st,h⟩
  obtain⟨c,C,rv,fr,fa,ps,at_,m,l,hS⟩:=id h
  obtain⟨av,ho,_⟩:=m.own
  refine⟨_,_,bC,ptr c,rfl,cD (off:=0) (by kernel_rfl) (ae ho) rfl,(cY m.cells x).mono ?_⟩
  rintro v H' (⟨h1,rfl,rfl⟩| ⟨h1,y,hy,rfl,c1,e1⟩)
  ·exact .inl ⟨h1,rfl,bq.same ⟨st,h⟩ (ah.refl _ _)⟩
  ·exact .inr ⟨h1,by rw[kX h1.1 hy],bq.same ⟨st,c,C,rv,fr,fa,ps,at_,m.aC c1 e1,l,hS⟩ (e1.mono fun z _ hz=>(hS z).1 (.inl hz))⟩
 delete:=by
  rintro H S w x ⟨st,h⟩
  refine⟨_,_,od,ptr n,rfl,aS (by kernel_rfl),(rH h x).mono ?_⟩
  rintro v H' (⟨h1,rfl,rfl⟩| ⟨h1,rfl,_,_,_,_,S',h3,h4,h5⟩)
  ·exact .inl ⟨h1,rfl,bq.same ⟨st,h⟩ (ah.refl _ _)⟩
  ·exact .inr ⟨h1,rfl,S',⟨_,h3⟩,h4,h5⟩
 yP:=by
  rintro H S w a b ⟨st,h⟩
  refine⟨_,_,qK,ptr n,rfl,aS (by kernel_rfl),(He h a b).mono ?_⟩
  rintro v H' (⟨h1,rfl,rfl⟩| ⟨h1,rfl,_,_,S',h3,h4,h5⟩)
  ·exact .inl ⟨h1,rfl,bq.same ⟨st,h⟩ (ah.refl _ _)⟩
  ·exact .inr ⟨h1,rfl,S',⟨_,h3⟩,h4,h5⟩
theorem Hi(n:Nat)(d:Int):tN (.iface 144 (ptr n)) (fun H S w=>∃st,cZ H n S d st w) where
 slt:=by rintro H S w ⟨st,h⟩;exact h.slt
 ext:=by rintro H H' S w T ⟨st,h⟩ e hd;exact⟨st,h.ext e hd⟩
 cells:=by
  rintro H S w ⟨st,c,C,rv,fp,rs,m,l,hS⟩
  exact⟨c,C,st,m.cells⟩
 has:=by
  rintro H S w g ⟨st,c,C,rv,fp,rs,m,l,hS⟩
  exact⟨_,_,bJ,ptr c,rfl,cD (off:=0) (by kernel_rfl) (ae m.own) rfl,(it m.cells g).mono fun v H' hp=>hp⟩
 make:=by
  rintro H S w ⟨st,h⟩
  refine⟨_,_,qF,ptr n,rfl,aS (by kernel_rfl),(Hf h).mono ?_⟩
  rintro v H' (⟨h1,rfl,rfl⟩| ⟨h1,rfl,S',h2,h3,h4⟩)
  ·exact .inl ⟨h1,rfl,bq.same ⟨st,h⟩ (ah.refl _ _)⟩
  ·exact .inr ⟨h1,rfl,S',⟨_,h2⟩,h3,h4⟩
 insert:=by
  rintro H S w g x k s ⟨st,h⟩
  refine⟨_,_,nV,ptr n,rfl,aS (by kernel_rfl),(DF h g x k s).mono ?_⟩
  rintro v H' (⟨h1,rfl,h2,h3⟩| ⟨h1,rfl,S',q,h2,_,h3,h4,h5⟩)
  ·exact .inl ⟨h1,rfl,bq.same ⟨st,h2⟩ h3⟩
  ·exact .inr ⟨h1,rfl,S',⟨_,h3⟩,h4,h5⟩
 min:=by
  rintro H S w g ⟨st,h⟩
  refine⟨_,_,tw,ptr n,rfl,aS (by kernel_rfl),(yG h g).mono ?_⟩
  rintro v H' ⟨h1,rfl⟩
  have hn:=bq.same (I:=fun H S w=>∃st,cZ H n S d st w) ⟨st,h⟩ (ah.refl S H)
  obtain⟨c,C,rv,fp,rs,m,l,hS⟩:=h
  rcases h1 with ⟨h1,rfl⟩| ⟨h1,h2,rfl⟩| ⟨h1,x,h2,h3,rfl,h4⟩
  ·refine .inl ⟨Nw.Aa.2 ?_,rfl,hn⟩
   by_cases hg:g≤0
   ·omega
   ·refine .inr fun i c hc e=>h1 ⟨by omega,?_⟩
    have:=m.cells.live c (by grind) (by omega)
    grind
  ·grind
  ·exact .inr ⟨x,⟨by have:=h1.1;omega,h2.1,h3,h4⟩,rfl,hn⟩
 extract:=by
  rintro H S w g ⟨st,h⟩
  refine⟨_,_,mH,ptr n,rfl,aS (by kernel_rfl),(Cb h g).mono ?_⟩
  rintro v H' (⟨h1,rfl,rfl⟩| ⟨h1,x,h2,h3,h4,rfl,q,hq,S',h5,h6,h7⟩)
  ·have hn:=bq.same (I:=fun H S w=>∃st,cZ H n S d st w) ⟨st,h⟩ (ah.refl S H)
   obtain⟨c,C,rv,fp,rs,m,l,hS⟩:=h
   rcases h1 with h1| ⟨_,h1⟩
   ·refine .inl ⟨Nw.Aa.2 ?_,rfl,hn⟩
    by_cases hg:g≤0
    ·omega
    ·refine .inr fun i c hc e=>h1 ⟨by omega,?_⟩
     have:=m.cells.live c (by grind) (by omega)
     grind
   grind
  ·exact .inr ⟨x,⟨by have:=h1.1;omega,h2.1,h3,h4⟩,rfl,S',⟨_,h5⟩,h6,h7⟩
 mc:=by
  rintro H S w x k s ⟨st,h⟩
  refine⟨_,_,lF,ptr n,rfl,aS (by kernel_rfl),(Ag h x k s).mono ?_⟩
  rintro v H' (⟨h1,rfl,h2,h3⟩| ⟨h1,y,hy,h2,rfl,q,hq,S',h3,h4,h5⟩)
  ·exact .inl ⟨h1,rfl,bq.same ⟨st,h2⟩ (h3.mono fun _ _ h=>h.elim)⟩
  ·exact .inr ⟨⟨h1,by grind⟩,rfl,y,hy,S',⟨_,h3⟩,h4,h5⟩
 entry:=by
  rintro H S w x ⟨st,h⟩
  obtain⟨c,C,rv,fp,rs,m,l,hS⟩:=id h
  refine⟨_,_,bj,ptr c,rfl,cD (off:=0) (by kernel_rfl) (ae m.own) rfl,(jJ m.cells x).mono ?_⟩
  rintro v H' ⟨_,f,hv⟩
  exact⟨⟨st,h.fresh f⟩,f,hv⟩
 len:=by
  rintro H S w g ⟨st,c,C,rv,fp,rs,m,l,hS⟩
  exact⟨_,_,bK,ptr c,rfl,cD (off:=0) (by kernel_rfl) (ae m.own) rfl,(iu m.cells g).mono fun v H' hp=>hp⟩
 home:=by
  rintro H S w x ⟨st,h⟩
  obtain⟨c,C,rv,fp,rs,m,l,hS⟩:=id h
  refine⟨_,_,bC,ptr c,rfl,cD (off:=0) (by kernel_rfl) (ae m.own) rfl,(cY m.cells x).mono ?_⟩
  rintro v H' (⟨h1,rfl,rfl⟩| ⟨h1,y,hy,rfl,c1,e1⟩)
  ·exact .inl ⟨h1,rfl,bq.same ⟨st,h⟩ (ah.refl _ _)⟩
  ·exact .inr ⟨h1,by rw[kX h1.1 hy],bq.same ⟨st,c,C,rv,fp,rs,m.aC c1 e1,l,hS⟩ (e1.mono fun z _ hz=>(hS z).1 (.inl hz))⟩
 delete:=by
  rintro H S w x ⟨st,h⟩
  refine⟨_,_,nU,ptr n,rfl,aS (by kernel_rfl),(rI h x).mono ?_⟩
  rintro v H' (⟨h1,rfl,rfl⟩| ⟨h1,rfl,_,_,_,_,S',h3,h4,h5⟩)
  ·exact .inl ⟨h1,rfl,bq.same ⟨st,h⟩ (ah.refl _ _)⟩
  ·exact .inr ⟨h1,rfl,S',⟨_,h3⟩,h4,h5⟩
 yP:=by
  rintro H S w a b ⟨st,h⟩
  refine⟨_,_,qG,ptr n,rfl,aS (by kernel_rfl),(Hg h a b).mono ?_⟩
  rintro v H' (⟨h1,rfl,rfl⟩| ⟨h1,rfl,_,_,S',h3,h4,h5⟩)
  ·exact .inl ⟨h1,rfl,bq.same ⟨st,h⟩ (ah.refl _ _)⟩
  ·exact .inr ⟨h1,rfl,S',⟨_,h3⟩,h4,h5⟩
structure gB(H:Hp)(r nb pb:Nat)(N P:List Int):Prop where
 own:H.own r=some [.slice (some ⟨nb,0,none⟩) N.length N.length,.slice (some ⟨pb,0,none⟩) P.length P.length]
 PU:H.own nb=some (N.map i64)
 Ww:H.own pb=some (P.map i64)
 len:P.length=N.length
 ne:r≠nb∧r≠pb∧nb≠pb
def cd(N:List Int)(x:Int):Int:=if 0≤x∧x<N.length then N.getD x.toNat 0 else x
theorem Hj{N:List Int}{x:Int}(hx:0≤x∧x<N.length):N[x.toNat]? =some (cd N x):=by
 grind [cd]
theorem XY{N:List Int}{x:Int}(hx:¬ (0≤x∧x<N.length)):cd N x=x:=by unfold cd;omega
theorem FH{N:List Int}{x:Int}(hx:0≤x∧x<N.length)(v z:Int):cd (N.set x.toNat v) z=if z=x then v else cd N z:=by
 grind [cd]
theorem O0{N P:List Int}(h:AG (cd N) (cd P)){x:Int}(hx:0≤x∧x<N.length):0≤cd N x∧cd N x<N.length:=by
 apply aoA
 intro hn
 have h1:=XY hn
 cases h;grind
section
variable {H H' : Hp} {r nb pb : Nat} {N P : List Int} {T : Nat → Prop}
theorem gB.ext(h:gB H r nb pb N P)(e:ah T H H')(h1:¬T r)(h2:¬T nb)(h3:¬T pb):gB H' r nb pb N P:=⟨e.own h.own h1,e.own h.PU h2,e.own h.Ww h3,h.len,h.ne⟩
theorem ik(h:gB H r nb pb N P)(x:Int):ag Tryz.prog CZ [ptr r,i64 x] H fun v H'=>ap (v= .bool (decide (0≤x∧x<N.length))∧H'=H):=by
 refine aU C8 ?_
 refine vs ?_
 refine ar.dec (fun h0=>?_) (fun h0=>?_)<;>refine v1 (ae h.own) ?_
 ·refine⟨?_,rfl⟩
  rw[show(decide (0≤x∧x< (N.length:Int)))=decide (x< (N.length:Int)) by simp[h0]]
  rfl
 ·refine⟨?_,rfl⟩
  rw[aow (fun h=>h0 h.1)]
  rfl
theorem Hk(h:gB H r nb pb N P){x:Int}(hx:0≤x∧x<N.length):ag Tryz.prog Bc [ptr r,i64 x] H fun v H'=>ap (v= .tuple [i64 (cd N x),.bool true].toArray∧H'=H):=by
 refine aU BE ?_
 refine vs ?_
 refine(ik h x).mono ?_
 rintro _ H' ⟨rfl,e⟩
 obtain rfl:=e.symm
 rw[aov hx]
 have hn:(N.map i64)[x.toNat]? =some (i64 (cd N x)):=by rw[aoF,Hj hx];rfl
 refine v1 (ae h.own) ?_
 refine⟨by omega,?_⟩
 refine v4 (ae h.PU) aoi aok hn ?_
 exact⟨rfl,rfl⟩
theorem c7(h:gB H r nb pb N P)(hi:AG (cd N) (cd P)){x y:Int}(hx:0≤x∧x<N.length)(hy:0≤y∧y<N.length):ag Tryz.prog xj [ptr r,i64 x,i64 y] H fun v H'=>ap (v= .bool true∧
  ∃N' P',gB H' r nb pb N' P'∧N'.length=N.length∧cd N'=uH (cd N) x y∧AG (cd N') (cd P')∧ah (fun z=>z=nb∨z=pb) H H'):=by
 refine Fz xP ⟨rfl,?_⟩
 refine v1 mX.eq_1 ?_
 refine(ik h x).mono ?_
 rintro _ H' ⟨rfl,e⟩
 obtain rfl:=e.symm
 rw[aov hx]
 refine vs ?_
 refine(ik h y).mono ?_
 rintro _ H' ⟨rfl,e⟩
 obtain rfl:=e.symm
 rw[aov hy]
 have Ns:(N.map i64)[x.toNat]? =some (i64 (cd N x)):=by rw[aoF,Hj hx];rfl
 have hny:(N.map i64)[y.toNat]? =some (i64 (cd N y)):=by rw[aoF,Hj hy];rfl
 obtain⟨a0,a1⟩:=O0 hi hx
 obtain⟨b0,b1⟩:=O0 hi hy
 obtain⟨d1,d2,d3⟩:=h.ne
 have hl:=h.len
 refine v1 (ae h.own) ?_
 refine⟨by omega,?_⟩
 refine v5 (ae h.PU) (ae h.own) aoi aok Ns ?_
 refine⟨by omega,?_⟩
 refine v5 (ae h.PU) (ae h.own) aoi aok hny ?_
 refine⟨by omega,?_⟩
 refine v3 h.PU aoi aok ?_
 refine⟨by grind,?_⟩
 refine vs ?_
 have e1:ah (fun z=>z=nb) H (H.wr nb ((N.map i64).set x.toNat (i64 (cd N y)))):=(ah.refl (fun z=>z=nb) _).wr (fun _=>rfl) _
 have q1:(H.wr nb ((N.map i64).set x.toNat (i64 (cd N y)))).own nb=some ((N.map i64).set x.toNat (i64 (cd N y))):=af h.PU
 generalize H.wr nb ((N.map i64).set x.toNat (i64 (cd N y)))=H1 at*
 refine⟨by omega,?_⟩
 refine v3 q1 aoi aok ?_
 refine⟨by grind,?_⟩
 refine vs ?_
 have e2:ah (fun z=>z=nb) H1 (H1.wr nb (((N.map i64).set x.toNat (i64 (cd N y))).set y.toNat (i64 (cd N x)))):=(ah.refl (fun z=>z=nb) _).wr (fun _=>rfl) _
 have q2:(H1.wr nb (((N.map i64).set x.toNat (i64 (cd N y))).set y.toNat (i64 (cd N x)))).own nb=some (((N.map i64).set x.toNat (i64 (cd N y))).set y.toNat (i64 (cd N x))):=af q1
 generalize H1.wr nb (((N.map i64).set x.toNat (i64 (cd N y))).set y.toNat (i64 (cd N x)))=H2 at*
 have oY:=e1.trans e2
 have o2:=oY.own h.own d1
 have p2:=oY.own h.Ww (Ne.symm d3)
 have o1:=e1.own h.own d1
 refine v2 (ae o1) (ae o2) ?_
 refine⟨by omega,?_⟩
 refine v3 p2 aoi aok ?_
 refine⟨by grind,?_⟩
 refine vs ?_
 have e3:ah (fun z=>z=pb) H2 (H2.wr pb ((P.map i64).set (cd N y).toNat (i64 x))):=(ah.refl (fun z=>z=pb) _).wr (fun _=>rfl) _
 have q3:(H2.wr pb ((P.map i64).set (cd N y).toNat (i64 x))).own pb=some ((P.map i64).set (cd N y).toNat (i64 x)):=af p2
 generalize H2.wr pb ((P.map i64).set (cd N y).toNat (i64 x))=H3 at*
 refine⟨by omega,?_⟩
 refine v3 q3 aoi aok ?_
 refine⟨by grind,?_⟩
 refine vs ?_
 have e4:ah (fun z=>z=pb) H3 (H3.wr pb (((P.map i64).set (cd N y).toNat (i64 x)).set (cd N x).toNat (i64 y))):=(ah.refl (fun z=>z=pb) _).wr (fun _=>rfl) _
 have q4:(H3.wr pb (((P.map i64).set (cd N y).toNat (i64 x)).set (cd N x).toNat (i64 y))).own pb=some (((P.map i64).set (cd N y).toNat (i64 x)).set (cd N x).toNat (i64 y)):=af q3
 have XZ:=e3.trans e4
 have nf:cd ((N.set x.toNat (cd N y)).set y.toNat (cd N x))=uH (cd N) x y:=by
  funext z
  rw[FH (by grind),FH hx]
  unfold uH
  by_cases h1:z=x
  ·grind
  ·omega
 have pf:cd ((P.set (cd N y).toNat x).set (cd N x).toNat y)=UA (cd N) (cd P) x y:=by
  funext z
  rw[FH (by grind),FH (by omega)]
  rfl
 refine⟨rfl,(N.set x.toNat (cd N y)).set y.toNat (cd N x),(P.set (cd N y).toNat x).set (cd N x).toNat y,⟨?_,?_,?_,by simp[hl],h.ne⟩,by simp,nf,?_,(oY.mono fun z _ h=>.inl h).trans (XZ.mono fun z _ h=>.inr h)⟩
 ·rw[aom,aom,aom,aom]
  exact XZ.own o2 d2
 ·rw[aoN,aoN]
  exact XZ.own q2 d3
 ·simp_all
 ·rw[nf,pf]
  exact hi.uH x y
theorem jR(h:gB H r nb pb N P)(hi:AG (cd N) (cd P)){x:Int}(hx:0≤x∧x<N.length):ag Tryz.prog Bb [ptr r,i64 x] H fun v H'=>ap (v= .bool true∧
  ∃N' P',gB H' r nb pb N' P'∧N'.length=N.length∧cd N'=uH (cd N) x (cd P x)∧AG (cd N') (cd P')∧ah (fun z=>z=nb∨z=pb) H H'):=by
 have xZ:AG (cd P) (cd N):=⟨hi.np,hi.pn⟩
 have hl:=h.len
 have gE:=O0 xZ (x:=x) (by omega)
 have hp:(P.map i64)[x.toNat]? =some (i64 (cd P x)):=by rw[aoF,Hj (by omega)];rfl
 refine aU BD ?_
 refine vs ?_
 refine(ik h x).mono ?_
 rintro _ H' ⟨rfl,e⟩
 obtain rfl:=e.symm
 rw[aov hx]
 refine v1 (ae h.own) ?_
 refine⟨by omega,?_⟩
 refine v4 (ae h.Ww) aoi aok hp ?_
 refine(c7 h hi hx (y:=cd P x) (by omega)).mono ?_
 rintro _ H1 ⟨rfl,h1⟩
 refine vs ?_
 exact⟨rfl,h1⟩
theorem qd(h:gB H r nb pb N P){x:Int}{A:List Int}(hc:oW (cd N) (x::A))(hn:(x::A).Nodup)(hx:∀c∈x::A,0≤c∧c<N.length)(hN:N.length≤65536):ag Tryz.prog CY [ptr r,i64 x] H fun v H'=>ap (∃b,
  Sl H' 1 v (x::A).length ((x::A).map i64) (some b)∧H.size≤b∧ai H H'):=by
 have im:=hx x (by simp)
 have bu:=cu hn hx
 have bL:r<H.size∧nb<H.size∧pb<H.size:=⟨aE h.own,aE h.PU,aE h.Ww⟩
 have rdn:∀ {z:Int},0≤z∧z<N.length→(N.map i64)[z.toNat]? =some (i64 (cd N z)):=fun hz=>by rw[aoF,Hj hz];rfl
 refine aU C7 ?_
 refine vs ?_
 refine(ik h x).mono ?_
 rintro _ H' ⟨rfl,e⟩
 obtain rfl:=e.symm
 rw[aov im]
 refine vs ?_
 have f0:ai H (H.new 3 [i64 x]):=(ah.refl _ _).new _ _
 have s0:Sl (H.new 3 [i64 x]) 1 (.slice (some ⟨H.size,0,none⟩) 1 1) [x].length ([x].map i64) (some H.size):=Sl.dM (size:=1) (n:=1) (xs:=[i64 x]) rfl rfl
 have h0:=h.ext f0 (fun h=>h) (fun h=>h) (fun h=>h)
 generalize H.new 3 [i64 x]=H0 at*
 refine v2 (ae h0.own) (ae h.own) ?_
 refine⟨by omega,?_⟩
 refine v5 (ae h0.PU) (ae h.PU) aoi aok (rdn im) ?_
 have hp:nl (cd N) x A x:=hc
 have hd:∀ {a z:Int} {l:List Int},nl (cd N) a l z→cd N a=l.headD z:=fun{a z l} h=>by
  cases l with
  |nil=>exact h
  |cons b l=>exact h.1
 refine bX.intro (fun mm env H'=>∃ (d s:List Int) (wv:Value) (b:Nat),mm=s.length∧A=d++s∧gB H' r nb pb N P∧H.size≤b∧Sl H' 1 wv (x::d).length ((x::d).map i64) (some b)∧ah (fun z=>H.size≤z) H H'∧
  env=[(0,ptr r),(1,i64 x),(5,wv),(6,i64 (s.headD x))]) _ ⟨[],A,_,H.size,rfl,rfl,h0,aox _,s0,f0.mono fun _ _ h=>h.elim,by grind⟩ ?_
 rintro mm env H1 ⟨d,s,wv,b,rfl,hds,h1,hb,s1,e1,rfl⟩
 have z1:=e1.size
 refine vs ?_
 cases s with
 |nil=>
  refine ar.dec (fun _=>?_) (fun h=>absurd rfl h)
  refine vs ?_
  rw[aoO]at hds
  subst hds
  exact⟨b,s1,hb,e1.mono (by omega)⟩
 |cons c s=>
  have Nk:c∈A:=by rw[hds];simp
  have Jo:=hx c (aoU _ Nk)
  have Rc:c≠x:=by grind
  have rl:d.length+(s.length+1)=A.length:=by grind
  rw[aop]at bu
  refine ar.dec (fun h=>absurd h Rc) (fun _=>?_)
  refine vs ?_
  refine abi (B:=H.size) hb (by omega) s1 c (by grind) fun w' H2 b' AD s2 e2=>?_
  refine vs ?_
  have h2:=h1.ext e2 (by omega) (by omega) (by omega)
  simp(disch:=(first|omega| (simp only[Zs]<;>omega)|fail)) only[go_sem, ↓reduceIte,Zv,ae h2.own,List.headD_cons]
  refine⟨⟨by omega,by omega⟩,?_⟩
  refine v4 (ae h2.PU) aoi aok (rdn Jo) ?_
  have Ns:cd N c=s.headD x:=hd (nl.Zi.1 (by rw[←hds];exact hp)).2
  exact⟨s.length,by simp,d++[c],s,w',b',rfl,by grind,h2,AD,s2,e1.trans e2,by rw[Ns]⟩
end
end Go.Proofs.YtjkkkibiegfecaaGreatDoor

namespace Go.Proofs.YtjkkkibiegfecaaGreatDoor
open Go Go.Vc
structure Pc where
 u:Int
 k:Int
 d:Int
 m:Bool
def Vo(y:Pc):List Value:=[i64 y.u,i64 y.k,i64 y.d,.bool y.m]
def aK(L:List Pc):List Value:=L.flatMap Vo
theorem abK{L:List Pc}{i:Nat}{y:Pc}(hi:L[i]? =some y):(aK L)[i*4]? =some (i64 y.u)∧(aK L)[i*4+1]? =some (i64 y.k)∧(aK L)[i*4+2]? =some (i64 y.d)∧(aK L)[i*4+3]? =some (.bool y.m):=by
 induction L generalizing i with
 |nil=>grind
 |cons a r ih=>
  have e:aK (a::r)=i64 a.u::i64 a.k::i64 a.d:: .bool a.m::aK r:=rfl
  grind
theorem oR{L:List Pc}{i:Nat}{y:Pc}(hi:L[i]? =some y):(∀v,(aK L).set (i*4) (i64 v)=aK (L.set i ⟨v,y.k,y.d,y.m⟩))∧(∀v,(aK L).set (i*4+1) (i64 v)=aK (L.set i ⟨y.u,v,y.d,y.m⟩))∧
  (∀v,(aK L).set (i*4+2) (i64 v)=aK (L.set i ⟨y.u,y.k,v,y.m⟩))∧(∀v,(aK L).set (i*4+3) (.bool v)=aK (L.set i ⟨y.u,y.k,y.d,v⟩))∧
  (∀z:Pc,aX (aK L) (i*4) [i64 z.u,i64 z.k,i64 z.d,.bool z.m]=aK (L.set i z)):=by
 induction L generalizing i with
 |nil=>grind
 |cons a r ih=>
  have e:aK (a::r)=i64 a.u::i64 a.k::i64 a.d:: .bool a.m::aK r:=rfl
  cases i with
  |zero=>simp at hi;subst hi;exact⟨fun _=>rfl,fun _=>rfl,fun _=>rfl,fun _=>rfl,fun _=>rfl⟩
  |succ i=>
   obtain⟨h1,h2,h3,h4,h5⟩:=ih (by simpa using hi)
   have e2:∀z:Pc,aK ((a::r).set (i+1) z)=i64 a.u::i64 a.k::i64 a.d:: .bool a.m::aK (r.set i z):=fun _=>rfl
   refine⟨fun v=>?_,fun v=>?_,fun v=>?_,fun v=>?_,fun z=>?_⟩
   ·grind
   ·grind
   ·grind
   ·grind
   ·have h5:=h5 z
    simp only[aX]at h5 ⊢
    rw[e,e2,show(i+1)*4=i*4+1+1+1+1 by omega]
    simp_all
def oS:Pc:=⟨-1, -1,0,false⟩
def fu(L:List Pc)(x:Int):Pc:=if 0≤x then(L[x.toNat]?).getD oS else oS
theorem Hl{L:List Pc}{x:Int}{y:Pc}(h0:0≤x)(h:L[x.toNat]? =some y):fu L x=y:=by grind [fu]
def mD(f:Int→Pc)(x:Int)(y:Pc):Int→Pc:=fun z=>if z=x then y else f z
theorem Cc{L:List Pc}{x:Int}(hx:0≤x∧x<L.length)(y:Pc):fu (L.set x.toNat y)=mD (fu L) x y:=by
 grind [mD,fu]
structure FB where
 n:Nat
 c:Nat
 r:Nat
 nb:Nat
 pb:Nat
 tb:Nat
 tp:Nat
def FB.S(B:FB)(C:Nat→Prop)(z:Nat):Prop:=C z∨z=B.n∨z=B.r∨z=B.nb∨z=B.pb∨z=B.tb∨z=B.tp
structure bV(H:Hp)(B:FB)(C:Nat→Prop)(w:Nw)(N P:List Int)(L:List Pc)(tops:List Int):Prop where
 own:∃tv,H.own B.n=some [ptr B.c,ptr B.r,.slice (some ⟨B.tb,0,none⟩) L.length L.length,tv]∧Sl H 1 tv tops.length (tops.map i64) (some B.tp)
 cells:CQ H B.c C w
 ring:gB H B.r B.nb B.pb N P
 inv:AG (cd N) (cd P)
 places:H.own B.tb=some (aK L)
 len:L.length=w.cs.length∧N.length=w.cs.length
 mY:(B.n≠B.r∧B.n≠B.nb∧B.n≠B.pb∧B.n≠B.tb∧B.n≠B.tp)∧(B.tb≠B.r∧B.tb≠B.nb∧B.tb≠B.pb∧B.tb≠B.tp)∧(B.tp≠B.r∧B.tp≠B.nb∧B.tp≠B.pb)
 out:¬C B.n∧¬C B.r∧¬C B.nb∧¬C B.pb∧¬C B.tb∧¬C B.tp
section
variable {H H' : Hp} {B : FB} {C V : Nat → Prop} {w w' : Nw} {N P N' P' : List Int} {L L' : List Pc} {tops : List Int}
theorem bV.slt(h:bV H B C w N P L tops):∀z,B.S C z→z<H.size:=by
 obtain⟨tv,h1,h2⟩:=h.own
 rintro z (hz|rfl|rfl|rfl|rfl|rfl|rfl)
 ·exact h.cells.slt z hz
 ·exact aE h1
 ·exact aE h.ring.own
 ·exact aE h.ring.PU
 ·exact aE h.ring.Ww
 ·exact aE h.places
 ·exact h2.lt
theorem bV.ext(h:bV H B C w N P L tops)(e:ah V H H')(hd:∀z,B.S C z→¬V z):bV H' B C w N P L tops:=by
 obtain⟨tv,h1,h2⟩:=h.own
 exact⟨⟨tv,e.own h1 (hd _ (.inr (.inl rfl))),h2.ext e (fun b hb=>by injection hb with hb;exact hb▸hd _ (.inr (by omega)))⟩,h.cells.ext e (fun x hx=>hd x (.inl hx)),
  h.ring.ext e (hd _ (.inr (.inr (.inl rfl)))) (hd _ (.inr (by omega))) (hd _ (.inr (by omega))),h.inv,e.own h.places (hd _ (.inr (by omega))),h.len,h.mY,h.out⟩
theorem bV.fresh(h:bV H B C w N P L tops)(e:ai H H'):bV H' B C w N P L tops:=h.ext e fun _ _ h=>h
theorem bV.aC(h:bV H B C w N P L tops)(c1:CQ H' B.c C w')(e:ah C H H')(hl:w'.cs.length=w.cs.length):bV H' B C w' N P L tops:=by
 obtain⟨tv,h1,h2⟩:=h.own
 obtain⟨o1,o2,o3,o4,o5,o6⟩:=h.out
 exact⟨⟨tv,e.own h1 o1,h2.ext e (by grind)⟩,c1,h.ring.ext e o2 o3 o4,h.inv,e.own h.places o5,by rw[hl];exact h.len,h.mY,h.out⟩
theorem bV.qe(h:bV H B C w N P L tops)(r1:gB H' B.r B.nb B.pb N' P')(hi:AG (cd N') (cd P'))(e:ah (fun z=>z=B.nb∨z=B.pb) H H')(hl:N'.length=N.length):bV H' B C w N' P' L tops:=by
 obtain⟨tv,h1,h2⟩:=h.own
 obtain⟨o1,o2,o3,o4,o5,o6⟩:=h.out
 obtain⟨⟨d1,d2,d3,d4,d5⟩,⟨d6,d7,d8,d9⟩,⟨d10,d11,d12⟩⟩:=h.mY
 exact⟨⟨tv,e.own h1 (by omega),h2.ext e (by grind)⟩,h.cells.ext e (by grind),r1,hi,e.own h.places (by omega),by rw[hl];exact h.len,h.mY,h.out⟩
theorem bV.Tg(h:bV H B C w N P L tops)(hl:L'.length=L.length):bV (H.wr B.tb (aK L')) B C w N P L' tops∧ah (fun z=>z=B.tb) H (H.wr B.tb (aK L')):=by
 obtain⟨tv,h1,h2⟩:=h.own
 obtain⟨o1,o2,o3,o4,o5,o6⟩:=h.out
 obtain⟨⟨d1,d2,d3,d4,d5⟩,⟨d6,d7,d8,d9⟩,⟨d10,d11,d12⟩⟩:=h.mY
 have e:ah (fun z=>z=B.tb) H (H.wr B.tb (aK L')):=(ah.refl (fun z=>z=B.tb) _).wr (fun _=>rfl) _
 exact⟨⟨⟨tv,by rw[hl];exact e.own h1 d4,h2.ext e (by grind)⟩,h.cells.ext e (by grind),h.ring.ext e (Ne.symm d6) (Ne.symm d7) (Ne.symm d8),h.inv,af h.places,by rw[hl];exact h.len,h.mY,h.out⟩,e⟩
theorem bV.dZ(h:bV H B C w N P L tops):∃c l,H.own B.n=some [ptr B.c,ptr B.r,.slice (some ⟨B.tb,0,none⟩) L.length L.length,.slice (some ⟨B.tp,0,none⟩) tops.length c]∧H.own B.tp=some l∧tops.length≤c∧c≤l.length∧l.take tops.length=tops.map i64:=by
 obtain⟨tv,h1,_,l,c,rfl,h3,h4,h5,h6⟩:=h.own
 grind
theorem bV.cT(h:bV H B C w N P L tops){l:List Value}(hl:H.own B.tp=some l){i:Nat}{x:Int}(hx:tops[i]? =some x):l[i]? =some (i64 x):=by
 obtain⟨c,l',_,h2,_,_,h5⟩:=h.dZ
 rw[hl]at h2
 injection h2 with h2
 subst h2
 have h7:(tops.map i64)[i]? =some (i64 x):=by rw[aoF,hx];rfl
 grind
theorem bV.fR(h:bV H B C w N P L tops){l:List Value}(hl:H.own B.tp=some l)(i:Nat)(v:Int):bV (H.wr B.tp (l.set i (i64 v))) B C w N P L (tops.set i v)∧ah (fun z=>z=B.tp) H (H.wr B.tp (l.set i (i64 v))):=by
 obtain⟨c,l',h1,h2,h3,h4,h5⟩:=h.dZ
 rw[hl]at h2
 injection h2 with h2
 subst h2
 obtain⟨o1,o2,o3,o4,o5,o6⟩:=h.out
 obtain⟨⟨d1,d2,d3,d4,d5⟩,⟨d6,d7,d8,d9⟩,⟨d10,d11,d12⟩⟩:=h.mY
 have e:ah (fun z=>z=B.tp) H (H.wr B.tp (l.set i (i64 v))):=(ah.refl (fun z=>z=B.tp) _).wr (fun _=>rfl) _
 refine⟨⟨⟨_,e.own h1 d5,?_⟩,h.cells.ext e (by grind),h.ring.ext e (Ne.symm d10) (Ne.symm d11) (Ne.symm d12),h.inv,e.own h.places d9,h.len,h.mY,h.out⟩,e⟩
 refine⟨by simp,l.set i (i64 v),c,by grind,af hl,by grind,by grind,?_⟩
 rw[aom,aok,wK,h5,aoN]
theorem bV.rd(h:bV H B C w N P L tops){x:Int}(hx:0≤x∧x<w.cs.length):x.toNat*4+3< (aK L).length∧(aK L)[x.toNat*4]? =some (i64 (fu L x).u)∧(aK L)[x.toNat*4+1]? =some (i64 (fu L x).k)∧
  (aK L)[x.toNat*4+2]? =some (i64 (fu L x).d)∧(aK L)[x.toNat*4+3]? =some (.bool (fu L x).m):=by
 cases h;grind [abK,Hl]
theorem bV.aJ(h:bV H B C w N P L tops){x:Int}(hx:0≤x∧x<w.cs.length)(v:Int):∃L',fu L'=mD (fu L) x ⟨v,(fu L x).k,(fu L x).d,(fu L x).m⟩∧bV (H.wr B.tb ((aK L).set (x.toNat*4) (i64 v))) B C w N P L' tops∧ah (fun z=>z=B.tb) H (H.wr B.tb ((aK L).set (x.toNat*4) (i64 v))):=by
 have hl:=h.len
 obtain⟨y,hy⟩:∃y,L[x.toNat]? =some y:=⟨_,aol (by omega)⟩
 rw[Hl hx.1 hy,(oR hy).1]
 exact⟨_,Cc (by omega) _,h.Tg (by grind)⟩
theorem bV.eV(h:bV H B C w N P L tops){x:Int}(hx:0≤x∧x<w.cs.length)(v:Int):∃L',fu L'=mD (fu L) x ⟨(fu L x).u,v,(fu L x).d,(fu L x).m⟩∧bV (H.wr B.tb ((aK L).set (x.toNat*4+1) (i64 v))) B C w N P L' tops∧ah (fun z=>z=B.tb) H (H.wr B.tb ((aK L).set (x.toNat*4+1) (i64 v))):=by
 have hl:=h.len
 obtain⟨y,hy⟩:∃y,L[x.toNat]? =some y:=⟨_,aol (by omega)⟩
 rw[Hl hx.1 hy,(oR hy).2.1]
 exact⟨_,Cc (by omega) _,h.Tg (by grind)⟩
theorem bV.X0(h:bV H B C w N P L tops){x:Int}(hx:0≤x∧x<w.cs.length)(v:Int):∃L',fu L'=mD (fu L) x ⟨(fu L x).u,(fu L x).k,v,(fu L x).m⟩∧bV (H.wr B.tb ((aK L).set (x.toNat*4+2) (i64 v))) B C w N P L' tops∧ah (fun z=>z=B.tb) H (H.wr B.tb ((aK L).set (x.toNat*4+2) (i64 v))):=by
 have hl:=h.len
 obtain⟨y,hy⟩:∃y,L[x.toNat]? =some y:=⟨_,aol (by omega)⟩
 rw[Hl hx.1 hy,(oR hy).2.2.1]
 exact⟨_,Cc (by omega) _,h.Tg (by grind)⟩
theorem bV.dB(h:bV H B C w N P L tops){x:Int}(hx:0≤x∧x<w.cs.length)(v:Bool):∃L',fu L'=mD (fu L) x ⟨(fu L x).u,(fu L x).k,(fu L x).d,v⟩∧bV (H.wr B.tb ((aK L).set (x.toNat*4+3) (.bool v))) B C w N P L' tops∧ah (fun z=>z=B.tb) H (H.wr B.tb ((aK L).set (x.toNat*4+3) (.bool v))):=by
 have hl:=h.len
 obtain⟨y,hy⟩:∃y,L[x.toNat]? =some y:=⟨_,aol (by omega)⟩
 rw[Hl hx.1 hy,(oR hy).2.2.2.1]
 exact⟨_,Cc (by omega) _,h.Tg (by grind)⟩
theorem bV.O1(h:bV H B C w N P L tops){x:Int}(hx:0≤x∧x<w.cs.length)(z:Pc):∃L',fu L'=mD (fu L) x z∧bV (H.wr B.tb (aX (aK L) (x.toNat*4) [i64 z.u,i64 z.k,i64 z.d,.bool z.m])) B C w N P L' tops∧ah (fun z=>z=B.tb) H (H.wr B.tb (aX (aK L) (x.toNat*4) [i64 z.u,i64 z.k,i64 z.d,.bool z.m])):=by
 have hl:=h.len
 obtain⟨y,hy⟩:∃y,L[x.toNat]? =some y:=⟨_,aol (by omega)⟩
 rw[(oR hy).2.2.2.2]
 exact⟨_,Cc (by omega) _,h.Tg (by grind)⟩
end
end Go.Proofs.YtjkkkibiegfecaaGreatDoor

namespace Go.Proofs.YtjkkkibiegfecaaGreatDoor
open Go Go.Vc
def Lu(f:Int→Pc)(ch:Int→List Int)(ay:Int→Int):Prop:=∀x,(f x).u=ay x∧(f x).k=(ch x).headD (-1)∧(f x).d=(ch x).length
section
variable {H H' : Hp} {B : FB} {C V : Nat → Prop} {w : Nw} {N P : List Int} {L : List Pc} {tops : List Int} {ch : Int → List Int} {ay : Int → Int} {am : Int → List Int} {W : List Int}
theorem dU.win{lt:Int→Int→Bool}{nx:Int→Int}(f:dU (aF w) lt nx ch ay am W){x:Int}(hx:x∈W):0≤x∧x<w.cs.length:=by
 obtain⟨a,b,_⟩:=aG (f.wm x hx).2.2
 omega
theorem dU.rin{lt:Int→Int→Bool}{nx:Int→Int}(f:dU (aF w) lt nx ch ay am W){g x:Int}(hx:x∈am g):0≤x∧x<w.cs.length:=by
 obtain⟨h1,_,h2,_⟩:=f.rm g x hx
 obtain⟨a,b,_⟩:=aG (w:=w) (x:=x) (by omega)
 omega
theorem dU.HT{lt:Int→Int→Bool}{nx:Int→Int}(f:dU (aF w) lt nx ch ay am W){p x:Int}(hx:x∈ch p):0≤x∧x<w.cs.length:=by
 obtain⟨a,b,_⟩:=aG (f.pr.dn p x hx).2.2.2.1
 omega
theorem yH(m:bV H B C w N P L tops){x g:Int}(f:dU (aF w) (aP w) (cd N) ch ay am (x::W))(hg:aF w x=g)(eC:g<tops.length)(ht:aM tops g=(am g).headD (-1)):
  ag Tryz.prog kA [ptr B.n,i64 g,i64 x] H fun v H'=>ap (∃N' P' me l,bV H' B C w N' P' L me∧me.length=tops.length∧aM me=cR (aM tops) g (l.headD (-1))∧
   dU (aF w) (aP w) (cd N') ch ay (az am g l) W∧(l.headD (-1)=x∨(l.headD (-1)=aM tops g∧aM tops g≠ -1))∧l.headD (-1)≠ -1∧
   (x≠l.headD (-1)→aP w (l.headD (-1)) x=true)∧(aM tops g≠ -1→aM tops g≠l.headD (-1)→aP w (l.headD (-1)) (aM tops g)=true)∧ah (fun z=>C z∨z=B.nb∨z=B.pb∨z=B.tp) H H'):=by
 have hx:=f.win (x:=x) (by simp)
 have Lx:=f.wne (c:=x) (by simp)
 have R2:0<g:=by rw[←hg];exact(f.wm x (by simp)).2.2
 obtain⟨cc,lt,o1,q1,AA,yO,KO⟩:=m.dZ
 have q2:=m.cT q1 (cf (tops:=tops) (h:=g) (by omega) eC)
 have bu:=m.len
 refine aU kM ?_
 refine v1 (ae o1) ?_
 refine⟨⟨by omega,by omega⟩,?_⟩
 refine v4 (ae q1) aoi aok q2 ?_
 refine ar.dec (fun h0=>?_) (fun h0=>?_)<;>refine v1 (ae o1) ?_
 ·have hr:am g=[]:=by
   rw[h0]at ht
   cases hc:am g with
   |nil=>rfl
   |cons c r=>rw[hc]at ht;exact absurd ht.symm (f.rne (h:=g) (by rw[hc];simp))
  refine⟨⟨by omega,by omega⟩,?_⟩
  refine v3 q1 aoi aok ?_
  refine⟨by omega,?_⟩
  obtain⟨m2,e2⟩:=m.fR q1 g.toNat x
  refine vs ?_
  have f2:=f.aar (by rw[hg];exact hr)
  rw[hg]at f2
  exact⟨N,P,_,[x],m2,aom ..,cX (by omega) eC x,f2,.inl rfl,Lx,by grind,by omega,e2.mono (by omega)⟩
 obtain⟨t,A,hr⟩:∃t A,am g=t::A:=by
  cases hc:am g with
  |nil=>grind
  |cons c r=>grind
 have htt:aM tops g=t:=by rw[ht,hr];rfl
 rw[htt]
 rw[htt]at q2
 have htr:=f.rin (g:=g) (x:=t) (by grind)
 have htn:=f.rne (c:=t) (h:=g) (by rw[hr];simp)
 have RZ:t≠x:=fun e=>(f.rm g t (by rw[hr];simp)).2.2.2 (by rw[e];simp)
 refine⟨⟨by omega,by omega⟩,?_⟩
 refine v4 (ae q1) aoi aok q2 ?_
 refine(c7 m.ring m.inv (x:=t) (y:=x) (by omega) (by omega)).mono ?_
 rintro _ H2 ⟨rfl,N2,P2,r2,l2,n2,i2,e2⟩
 have m2:=m.qe r2 i2 e2 l2
 have f2:=f.RY (t:=t) (A:=A) (by rw[hg];exact hr)
 rw[hg,←n2]at f2
 obtain⟨cc,lt2,o2,q3,_⟩:=m2.dZ
 have q4:=m2.cT q3 (cf (tops:=tops) (h:=g) (by omega) eC)
 rw[htt]at q4
 refine v1 (ae o2) ?_
 refine⟨⟨by omega,by omega⟩,?_⟩
 refine v4 (ae q3) aoi aok q4 ?_
 refine(cA m2.cells x t).mono ?_
 rintro _ H3 ⟨rfl,c3,e3⟩
 have m3:=m2.aC c3 e3 rfl
 have eJ:=gw (w:=w) (a:=x) (b:=t) (by omega) (by have:=(f.rm g t (by rw[hr];simp)).1;omega)
 rw[eJ]
 have z8:ah (fun z=>C z∨z=B.nb∨z=B.pb∨z=B.tp) H H3:=(e2.mono fun z _ h=>h.elim (fun h=>.inr (.inl h)) (fun h=>.inr (.inr (.inl h)))).trans (e3.mono fun z _ h=>.inl h)
 cases bf:aP w x t
 ·refine vs ?_
  have ZK:=((aw w).WR t x RZ).resolve_right (by rw[bf];simp)
  refine⟨N2,P2,tops,t::x::A,m3,rfl,?_,f2,.inr ⟨rfl,htn⟩,htn,fun _=>ZK,by grind,z8⟩
  funext z
  show aM tops z=if z=g then t else aM tops z
  grind
 ·obtain⟨cc,lt3,o3,q5,_,hc5,_⟩:=m3.dZ
  have q6:=m3.cT q5 (cf (tops:=tops) (h:=g) (by omega) eC)
  have xY:=by omega
  refine v1 (ae o3) ?_
  refine⟨⟨by omega,by omega⟩,?_⟩
  refine v3 q5 aoi aok ?_
  refine⟨by omega,?_⟩
  obtain⟨m4,e4⟩:=m3.fR q5 g.toNat x
  refine vs ?_
  have f3:=f2.wT (g:=g) (l:=x::A++[t]) (by
   unfold az
   rw[if_pos rfl]
   exact aoY (l₁:=[t]) (l₂:=x::A)) (by
   have:=f2.rc g
   unfold az at this
   rw[if_pos rfl]at this
   exact oW.Zj (l1:=[t]) (l2:=x::A) this)
  rw[cO]at f3
  exact⟨N2,P2,_,x::A++[t],m4,aom ..,cX (by omega) eC x,f3,.inl rfl,Lx,by grind,fun _ _=>bf,z8.trans (e4.mono (by omega))⟩
theorem Hm(m:bV H B C w N P L tops){x y:Int}(f:dU (aF w) (aP w) (cd N) ch ay am (x::y::W))(hp:Lu (fu L) ch ay)(hh:aF w x=aF w y)(hl:aP w x y=true):
  ag Tryz.prog su [ptr B.n,i64 y,i64 x] H fun v H'=>ap (∃N' P' L' dK bG,bV H' B C w N' P' L' tops∧dU (aF w) (aP w) (cd N') dK bG am (x::W)∧Lu (fu L') dK bG∧(dK x).length=(ch x).length+1∧(∀z,z≠x→dK z=ch z)∧
   ah (fun z=>z=B.nb∨z=B.pb∨z=B.tb) H H'):=by
 have hx:=f.win (x:=x) (by simp)
 have hy:=f.win (x:=y) (by simp)
 have QK:x≠y:=fun e=>by rw[e,(aw w).Lp]at hl;cases hl
 have bu:=m.len
 obtain⟨tv,o1,_⟩:=m.own
 obtain⟨px,kx,dx⟩:=hp x
 obtain⟨py,ky,dy⟩:=hp y
 obtain⟨a0,a1,a2,a3,a4⟩:=m.rd hx
 have rV:(ch x).length≤w.cs.length:=cu (f.pr.nd x) fun c hc=>f.HT hc
 have sT:=m.cells.CI
 refine aU sK ?_
 refine v1 (ae o1) ?_
 refine⟨by omega,?_⟩
 refine v1 (ae o1) ?_
 refine⟨by omega,?_⟩
 refine v3 (ae m.places) aoi a2 ?_
 refine ar.dec (fun h0=>?_) (fun h0=>?_)<;>refine vs ?_
 ·have hc:ch x=[]:=by
   rw[h0]at kx
   cases hc:ch x with
   |nil=>rfl
   |cons c r=>rw[hc]at kx;exact absurd kx.symm (f.pr.ne (x:=x) (by grind))
  have f1:=f.WV hh hl hc
  obtain⟨H1,eH⟩:∃H1,H1=H:=⟨_,rfl⟩
  rw[←eH]at m ⊢
  have m1:=m
  obtain⟨N1,eN⟩:∃N1,N1=N:=⟨_,rfl⟩
  obtain⟨P1,eP⟩:∃P1,P1=P:=⟨_,rfl⟩
  rw[←eN,←eP]at m1
  rw[←eN]at f1
  have e1:ah (fun z=>z=B.nb∨z=B.pb) H1 H1:=ah.refl _ _
  have Ay:([y]:List Int).length=(ch x).length+1:=by rw[hc];rfl
  obtain⟨b0,_⟩:=m1.rd hx
  obtain⟨L2,k2,m2,e2⟩:=m1.eV hx y
  refine v2 m1.places aoi ?_
  refine⟨by omega,?_⟩
  refine vs ?_
  generalize H1.wr B.tb ((aK L).set (x.toNat*4+1) (i64 y))=H2 at*
  obtain⟨c0,c1,c2,c3,c4⟩:=m2.rd hx
  have rX:(fu L2 x).d=(ch x).length:=by rw[k2];unfold mD;rw[if_pos rfl];exact dx
  obtain⟨L3,k3,m3,e3⟩:=m2.X0 hx ((fu L2 x).d+1)
  rw[rX]at c3 k3 m3 e3
  refine v4 (ae m2.places) m2.places aoi c3 ?_
  rw[wrap64 (by omega) (by omega)]
  refine⟨by omega,?_⟩
  refine vs ?_
  generalize H2.wr B.tb ((aK L2).set (x.toNat*4+2) (i64 ((ch x).length+1)))=H3 at*
  obtain⟨d0,_⟩:=m3.rd hy
  obtain⟨L4,k4,m4,e4⟩:=m3.aJ hy x
  refine v3 m3.places aoi Nat.add_zero ?_
  refine⟨by omega,?_⟩
  refine vs ?_
  generalize H3.wr B.tb ((aK L3).set (y.toNat*4) (i64 x))=H4 at*
  obtain⟨g0,_⟩:=m4.rd hy
  obtain⟨L5,k5,m5,e5⟩:=m4.dB hy false
  refine v3 m4.places aoi Nat.add_zero ?_
  refine⟨by omega,?_⟩
  refine vs ?_
  refine⟨N1,P1,L5,_,_,m5,f1,fun z=>?_,?_,fun z hz=>?_,((((e1.mono (by omega)).trans (e2.mono (by omega))).trans (e3.mono (by omega))).trans (e4.mono (by omega))).trans (e5.mono (by omega))⟩
  ·rw[k5,k4,k3,k2]
   unfold mD az
   by_cases h1:z=y
   ·rw[h1,if_pos rfl,if_neg QK.symm,if_neg QK.symm]
    simp only[if_neg QK.symm,if_true]
    refine⟨by unfold aJ;omega,?_,?_⟩
    ·exact ky
    omega
   ·rw[if_neg h1]
    unfold aJ
    rw[if_neg h1]
    by_cases h2:z=x
    ·grind
    ·simp only[if_neg h1,if_neg h2]
     exact hp z
  ·unfold az;grind
  ·unfold az;grind
 ·obtain⟨k,K,hc⟩:∃k K,ch x=k::K:=by
   cases hc:ch x with
   |nil=>grind
   |cons c r=>grind
  have hk:(fu L x).k=k:=by rw[kx,hc];rfl
  have ZL:=f.HT (p:=x) (x:=k) (by grind)
  have f1:=f.under hh hl hc
  rw[hk]at a2
  refine v4 (ae o1) (ae m.places) aoi a2 ?_
  refine(c7 m.ring m.inv (x:=k) (y:=y) (by omega) (by omega)).mono ?_
  rintro _ H1 ⟨rfl,N1,P1,r1,l1,n1,i1,e1⟩
  have m1:=m.qe r1 i1 e1 l1
  rw[←n1]at f1
  have Ay:(y::K++[k]).length=(ch x).length+1:=by rw[hc];simp
  refine vs ?_
  obtain⟨b0,_⟩:=m1.rd hx
  obtain⟨L2,k2,m2,e2⟩:=m1.eV hx y
  refine v2 m1.places aoi ?_
  refine⟨by omega,?_⟩
  refine vs ?_
  generalize H1.wr B.tb ((aK L).set (x.toNat*4+1) (i64 y))=H2 at*
  obtain⟨c0,c1,c2,c3,c4⟩:=m2.rd hx
  have rX:(fu L2 x).d=(ch x).length:=by rw[k2];unfold mD;rw[if_pos rfl];exact dx
  obtain⟨L3,k3,m3,e3⟩:=m2.X0 hx ((fu L2 x).d+1)
  rw[rX]at c3 k3 m3 e3
  refine v4 (ae m2.places) m2.places aoi c3 ?_
  rw[wrap64 (by omega) (by omega)]
  refine⟨by omega,?_⟩
  refine vs ?_
  generalize H2.wr B.tb ((aK L2).set (x.toNat*4+2) (i64 ((ch x).length+1)))=H3 at*
  obtain⟨d0,_⟩:=m3.rd hy
  obtain⟨L4,k4,m4,e4⟩:=m3.aJ hy x
  refine v3 m3.places aoi Nat.add_zero ?_
  refine⟨by omega,?_⟩
  refine vs ?_
  generalize H3.wr B.tb ((aK L3).set (y.toNat*4) (i64 x))=H4 at*
  obtain⟨g0,_⟩:=m4.rd hy
  obtain⟨L5,k5,m5,e5⟩:=m4.dB hy false
  refine v3 m4.places aoi Nat.add_zero ?_
  refine⟨by omega,?_⟩
  refine vs ?_
  refine⟨N1,P1,L5,_,_,m5,f1,fun z=>?_,?_,fun z hz=>?_,((((e1.mono (by omega)).trans (e2.mono (by omega))).trans (e3.mono (by omega))).trans (e4.mono (by omega))).trans (e5.mono (by omega))⟩
  ·rw[k5,k4,k3,k2]
   unfold mD az
   by_cases h1:z=y
   ·rw[h1,if_pos rfl,if_neg QK.symm,if_neg QK.symm]
    simp only[if_neg QK.symm,if_true]
    refine⟨by unfold aJ;omega,?_,?_⟩
    ·exact ky
    omega
   ·rw[if_neg h1]
    unfold aJ
    rw[if_neg h1]
    by_cases h2:z=x
    ·grind
    ·simp only[if_neg h1,if_neg h2]
     exact hp z
  ·unfold az;grind
  ·unfold az;grind
end
end Go.Proofs.YtjkkkibiegfecaaGreatDoor

namespace Go.Proofs.YtjkkkibiegfecaaGreatDoor
open Go Go.Vc
theorem we(H:Hp):ag Tryz.prog AY [] H fun v H'=>ap (v= .agg #[i64 (-1),i64 (-1),i64 0,.bool false]∧ai H H'):=by
 refine aU Bu ?_
 have f0:ai H (H.new 229 [Value.int .i64 0,Value.int .i64 0,Value.int .i64 0,Value.bool false]):=(ah.refl _ _).new _ _
 refine vs ?_
 have q:((H.new 229 [Value.int .i64 0,Value.int .i64 0,Value.int .i64 0,Value.bool false]).wr H.size [Value.int .i64 (-1),Value.int .i64 (-1),Value.int .i64 0,Value.bool false]).own H.size=some [Value.int .i64 (-1),Value.int .i64 (-1),Value.int .i64 0,Value.bool false]:=af (aA _ _ _)
 have e2:ah (fun z=>z=H.size) (H.new 229 [Value.int .i64 0,Value.int .i64 0,Value.int .i64 0,Value.bool false]) ((H.new 229 [Value.int .i64 0,Value.int .i64 0,Value.int .i64 0,Value.bool false]).wr H.size [Value.int .i64 (-1),Value.int .i64 (-1),Value.int .i64 0,Value.bool false]):=(ah.refl (fun z=>z=H.size) _).wr (fun _=>rfl) _
 refine v1 (ae q) ?_
 exact⟨rfl,f0.then e2 (by omega)⟩
section
variable {H H' : Hp} {B : FB} {C V : Nat → Prop} {w : Nw} {N P : List Int} {L : List Pc} {tops : List Int} {ch : Int → List Int} {ay : Int → Int} {am : Int → List Int} {W : List Int}
theorem wg(m:bV H B C w N P L tops){x g:Int}{A:List Int}(f:dU (aF w) (aP w) (cd N) ch ay am W)(hp:Lu (fu L) ch ay)(hr:am g=x::A):
  ag Tryz.prog sr [ptr B.n,i64 x] H fun v H'=>ap (∃N' P' L' A',bV H' B C w N' P' L' tops∧dU (aF w) (aP w) (cd N') (az ch x []) (fx ch ay x) (az am g (x::A')) W∧Lu (fu L') (az ch x []) (fx ch ay x)∧
   ah (fun z=>z=B.nb∨z=B.pb∨z=B.tb) H H'):=by
 have hx:=f.rin (g:=g) (x:=x) (by grind)
 have gE:=(f.rm g x (by grind)).2.1
 have bu:=m.len
 have sT:=m.cells.CI
 obtain⟨tv,o1,_⟩:=m.own
 obtain⟨px,kx,dx⟩:=hp x
 obtain⟨a0,a1,a2,a3,a4⟩:=m.rd hx
 refine aU sJ ?_
 refine v1 (ae o1) ?_
 refine⟨by omega,?_⟩
 refine v3 (ae m.places) aoi a2 ?_
 refine ar.dec (fun h0=>?_) (fun h0=>?_)<;>refine vs ?_
 ·have hc:ch x=[]:=by
   rw[h0]at kx
   cases hc:ch x with
   |nil=>rfl
   |cons c r=>rw[hc]at kx;exact absurd kx.symm (f.pr.ne (x:=x) (by grind))
  have e1:az ch x []=ch:=by
   funext z
   unfold az
   split
   ·grind
   ·rfl
  have e2:fx ch ay x=ay:=by
   funext z
   unfold fx
   grind
  have e3:az am g (x::A)=am:=by
   funext z
   unfold az
   split
   ·grind
   ·rfl
  exact⟨N,P,L,A,m,by grind,by grind,ah.refl _ _⟩
 obtain⟨k,K,hc⟩:∃k K,ch x=k::K:=by
  cases hc:ch x with
  |nil=>grind
  |cons c r=>grind
 have hk:(fu L x).k=k:=by rw[kx,hc];rfl
 rw[hk]
 have Lq:=f.cy x
 have jk:=f.pr.nd x
 rw[hc]at Lq jk
 have ci:∀c∈k::K,0≤c∧c<w.cs.length:=fun c Nk=>f.HT (p:=x) (by grind)
 have hkl:(k::K).length≤w.cs.length:=cu jk ci
 have hk1:(k::K).length=K.length+1:=aop
 refine v1 (ae o1) ?_
 refine(qd m.ring Lq jk (by grind) (by omega)).mono ?_
 rintro kv H1 ⟨b,s1,hb,f1⟩
 have m1:=m.fresh f1
 have z1:=f1.size
 have hS:=m.slt
 have Sx:B.tb<H.size:=hS _ (.inr (by omega))
 obtain⟨ka,kc,rfl⟩:=Sl.shape s1
 refine vs ?_
 refine bX.intro (fun mm env H'=>∃ (i:Nat) (L':List Pc),mm=(k::K).length - i∧i≤(k::K).length∧bV H' B C w N P L' tops∧Sl H' 1 (.slice ka (k::K).length kc) (k::K).length ((k::K).map i64) (some b)∧ah (fun z=>z=B.tb) H H'∧
  (∀z,(fu L' z).k=(fu L z).k∧(fu L' z).d=(fu L z).d∧(fu L' z).u=if z∈(k::K).take i then -1 else(fu L z).u)∧
  env=[(0,ptr B.n),(1,i64 x),(4,i64 k),(22,.slice ka (k::K).length kc),(23,i64 (k::K).length),(24,i64 i)]) _ ⟨0,L,rfl,by omega,m1,s1,f1.mono (by grind),by grind,rfl⟩ ?_
 rintro mm env H2 ⟨i,L2,rfl,hi,m2,s2,e2,g2,rfl⟩
 refine vs ?_
 refine ar.dec (fun gi=>?_) (fun gi=>?_)<;>refine vs ?_
 ·have xZ:i< (k::K).length:=by omega
  obtain⟨c,Nj⟩:∃c,(k::K)[i]? =some c:=by grind
  have Nk:=ci c (by grind)
  obtain⟨_,kb,lb,rfl,q2,q3⟩:=Sl.Ab s2 Nj
  obtain⟨QY,o2,_⟩:=m2.own
  have uG:=m2.len
  refine⟨by omega,?_⟩
  refine v6 (ae q2) aoi aok Int.toNat_natCast q3 (ae o2) ?_
  refine⟨by omega,?_⟩
  obtain⟨b0,_⟩:=m2.rd Nk
  obtain⟨L3,k3,m3,e3⟩:=m2.aJ Nk (-1)
  refine v3 m2.places aoi Nat.add_zero ?_
  refine⟨by omega,?_⟩
  refine vs ?_
  generalize H2.wr B.tb ((aK L2).set (c.toNat*4) (Value.int .i64 (-1)))=H3 at*
  obtain⟨c0,_⟩:=m3.rd Nk
  have SS:=m3.len
  obtain⟨L4,k4,m4,e4⟩:=m3.dB Nk false
  refine⟨by omega,?_⟩
  refine v3 m3.places aoi Nat.add_zero ?_
  refine⟨by omega,?_⟩
  refine vs ?_
  refine⟨(k::K).length - (i+1),by omega,i+1,L4,rfl,by omega,m4,(s2.ext e3 (by grind)).ext e4 (by grind),(e2.trans e3).trans e4,fun z=>?_,?_⟩
  ·have tk:(k::K).take (i+1)=(k::K).take i++[c]:=by rw[aoL,Nj];rfl
   obtain⟨g3,g4,g5⟩:=g2 z
   rw[tk,k4,k3]
   unfold mD
   grind
  grind [wrap64]
 obtain rfl:i=(k::K).length:=by omega
 rw[aoP]at g2
 have ZL:=ci k (by simp)
 have f2:=f.raise hr hc
 obtain⟨QY,o2,_⟩:=m2.own
 have uG:=m2.len
 refine v1 (ae o2) ?_
 refine(c7 m2.ring m2.inv (x:=x) (y:=k) (by omega) (by omega)).mono ?_
 rintro _ H3 ⟨rfl,N3,P3,r3,l3,n3,i3,e3⟩
 have m3:=m2.qe r3 i3 e3 l3
 rw[←n3]at f2
 obtain⟨cc,lt,o3,_⟩:=m3.dZ
 refine vs ?_
 refine fV.intro (fun H'=>H'.own B.n=some [ptr B.c,ptr B.r,.slice (some ⟨B.tb,0,none⟩) L2.length L2.length,.slice (some ⟨B.tp,0,none⟩) tops.length cc]) o3 ?_
 refine vs ?_
 refine dV.intro (.slice (some ⟨B.tb,0,none⟩) L2.length L2.length) (fun H' hI=>by refine v1 (ae hI) ?_;trivial) ?_
 refine vs ?_
 refine(we H3).mono ?_
 rintro _ H4 ⟨rfl,e4⟩
 have o4:=e4.own o3 (fun h=>h)
 refine And.intro o4 ?_
 have m4:=m3.fresh e4
 refine vs ?_
 refine⟨by omega,?_⟩
 obtain⟨b0,_⟩:=m4.rd hx
 obtain⟨L5,k5,m5,e5⟩:=m4.O1 hx oS
 refine v2 m4.places aoi ?_
 refine⟨by omega,?_⟩
 rw[show aX (aK L2) (x.toNat*4) (aI (Value.agg #[i64 (-1),i64 (-1),i64 0,Value.bool false]))=aX (aK L2) (x.toNat*4) [i64 oS.u,i64 oS.k,i64 oS.d,.bool oS.m]from rfl]
 have oX:=m4.mY.1.2.2.2.1
 generalize H4.wr B.tb (aX (aK L2) (x.toNat*4) [i64 oS.u,i64 oS.k,i64 oS.d,.bool oS.m])=H5 at*
 refine vs ?_
 refine And.intro (e5.own o4 oX) ?_
 refine vs ?_
 refine⟨N3,P3,L5,K++k::A,m5,f2,fun z=>?_,(((e2.mono (by omega)).trans (e3.mono (by omega))).trans (e4.mono fun z _ h=>h.elim)).trans (e5.mono (by omega))⟩
 rw[k5]
 unfold mD az fx
 obtain⟨g3,g4,g5⟩:=g2 z
 obtain⟨pz,kz,dz⟩:=hp z
 by_cases hz:z=x
 ·rw[if_pos hz,if_pos hz,hz,if_neg (fun h=>by have:=(f.LA h).1 g;grind),gE]
  exact⟨rfl,rfl,rfl⟩
 grind
end
end Go.Proofs.YtjkkkibiegfecaaGreatDoor

namespace Go.Proofs.YtjkkkibiegfecaaGreatDoor
open Go Go.Vc
section
variable {H H' : Hp} {B : FB} {C V : Nat → Prop} {w : Nw} {N P : List Int} {L : List Pc} {tops : List Int} {ch : Int → List Int} {ay : Int → Int} {am : Int → List Int} {W : List Int}
theorem Cd(m:bV H B C w N P L tops){lt:Int→Int→Bool}(hs:bF lt){x p g t:Int}{A:List Int}(f:dU (aF w) lt (cd N) ch ay am W)(hp:Lu (fu L) ch ay)(hx:x∈ch p)(hg:aF w x=g)(eC:g<tops.length)(hr:am g=t::A)(ht:aM tops g=t):
  ag Tryz.prog ve [ptr B.n,i64 g,i64 x] H fun v H'=>ap (∃N' P' L' l,bV H' B C w N' P' L' tops∧dU (aF w) lt (cd N') (az ch p l) (aJ ay x (-1)) (az am g (t::x::A)) W∧Lu (fu L') (az ch p l) (aJ ay x (-1))∧(ch p).Perm (x::l)∧
   ah (fun z=>z=B.nb∨z=B.pb∨z=B.tb) H H'):=by
 obtain⟨x1,x2,x3,x4,x5⟩:=f.pr.dn p x hx
 have gE:p≠x:=fun e=>by rw[e,hs.Lp]at x5;cases x5
 have ut:=f.HT hx
 obtain⟨p0,p1,_⟩:=aG (w:=w) (x:=p) (by omega)
 have bu:=m.len
 have sT:=m.cells.CI
 have rV:(ch p).length≤w.cs.length:=cu (f.pr.nd p) fun c hc=>f.HT hc
 obtain⟨l,Ft,Lq⟩:=(f.cy p).from hx
 have jk:=Ft.nodup_iff.1 (f.pr.nd p)
 have rl:(ch p).length=l.length+1:=by rw[Ft.length_eq,aop]
 have f1:=f.aau Ft Lq
 have AA:az ch p (x::l) p=x::l:=by unfold az;grind
 obtain⟨ux,_,_⟩:=hp x
 obtain⟨up,kp,dp⟩:=hp p
 rw[x1]at ux
 have htr:=f.rin (g:=g) (x:=t) (by grind)
 have R2:=by omega
 obtain⟨cc,ltp,o1,q1,_⟩:=m.dZ
 obtain⟨a0,a1,a2,a3,a4⟩:=m.rd ut
 obtain⟨b0,b1,b2,b3,b4⟩:=m.rd (x:=p) ⟨p0,p1⟩
 rw[ux]at a1
 rw[dp]at b3
 refine aU vD ?_
 refine v1 (ae o1) ?_
 refine⟨by omega,?_⟩
 refine v4 (ae m.places) aoi Nat.add_zero a1 ?_
 refine⟨by omega,?_⟩
 refine v4 (ae m.places) m.places aoi b3 ?_
 rw[wrap64 (by omega) (by omega)]
 obtain⟨L2,k2,m2,e2⟩:=m.X0 (x:=p) ⟨p0,p1⟩ (((ch p).length:Int) - 1)
 refine⟨by omega,?_⟩
 refine vs ?_
 generalize H.wr B.tb ((aK L).set (p.toNat*4+2) (i64 (((ch p).length:Int) - 1)))=H2 at*
 obtain⟨c0,_⟩:=m2.rd (x:=p) ⟨p0,p1⟩
 obtain⟨L3,k3,m3,e3⟩:=m2.eV (x:=p) ⟨p0,p1⟩ (-1)
 refine v2 m2.places aoi ?_
 refine⟨by omega,?_⟩
 refine vs ?_
 generalize H2.wr B.tb ((aK L2).set (p.toNat*4+1) (Value.int .i64 (-1)))=H3 at*
 obtain⟨cc3,lt3,o3,q3,_⟩:=m3.dZ
 refine v1 (ae o3) ?_
 refine(Hk m3.ring (x:=x) (by omega)).mono ?_
 rintro _ H' ⟨rfl,e⟩
 obtain rfl:=e.symm
 refine vs ?_
 have z8:ah (fun z=>z=B.nb∨z=B.pb∨z=B.tb) H H3:=(e2.mono (by omega)).trans (e3.mono (by omega))
 have hlc:l=[]∨∃A0 y,l=A0++[y]:=by
  rcases List.eq_nil_or_concat l with h| ⟨A0,y,h⟩
  ·grind
  ·grind
 rcases hlc with rfl| ⟨A0,y,rfl⟩
 ·have Ns:cd N x=x:=Lq
  rw[Ns]
  refine ar.dl (by simp) ?_
  refine vs ?_
  have m4:=m3
  have Ac:=z8
  obtain⟨L4,eL⟩:∃L4,L4=L3:=⟨_,rfl⟩
  rw[←eL]at m4 k3
  have k4x:fu L4 x=fu L x:=by rw[k3,k2];unfold mD;grind
  have k4p:fu L4 p=⟨(fu L p).u, -1,((ch p).length:Int) - 1,(fu L p).m⟩:=by rw[k3,k2];unfold mD;grind
  have k4o:∀z,z≠p→fu L4 z=fu L z:=fun z hz=>by rw[k3,k2];unfold mD;grind
  have QO:∀ {N5:List Int},cd N5=uH (cd N) x (cd P x)→dU (aF w) lt (cd N5) (az ch p []) (aJ ay x (-1)) am (x::W):=fun h=>by
   rw[h]
   have hpv:cd P x=x:=by
    have:=m.inv.pn x
    grind
   rw[hpv,Lz]
   have f2:=f1.aeF AA
   rwa[cO]at f2
  obtain⟨cc4,lt4,o4,q4,_⟩:=m4.dZ
  refine v1 (ae o4) ?_
  refine(jR m4.ring m4.inv (x:=x) (by omega)).mono ?_
  rintro _ H5 ⟨rfl,N5,P5,r5,l5,n5,i5,e5⟩
  have m5:=m4.qe r5 i5 e5 l5
  have f5:=QO n5
  obtain⟨cc5,lt5,o5,q5,_⟩:=m5.dZ
  have hl5:=m5.len
  refine v1 (ae o5) ?_
  refine⟨by omega,?_⟩
  obtain⟨d0,_⟩:=m5.rd ut
  obtain⟨L6,k6,m6,e6⟩:=m5.aJ ut (-1)
  refine v3 m5.places aoi Nat.add_zero ?_
  refine⟨by omega,?_⟩
  refine vs ?_
  generalize H5.wr B.tb ((aK L4).set (x.toNat*4) (Value.int .i64 (-1)))=H6 at*
  have hl6:=m6.len
  refine⟨by omega,?_⟩
  obtain⟨g0,_⟩:=m6.rd ut
  obtain⟨L7,k7,m7,e7⟩:=m6.dB ut false
  refine v3 m6.places aoi Nat.add_zero ?_
  refine⟨by omega,?_⟩
  refine vs ?_
  generalize H6.wr B.tb ((aK L6).set (x.toNat*4+3) (Value.bool false))=H7 at*
  obtain⟨cc7,lt7,o7,q7,_⟩:=m7.dZ
  have q8:=m7.cT q7 (cf (tops:=tops) (h:=g) (by omega) eC)
  rw[ht]at q8
  have hl7:=m7.len
  refine v1 (ae o7) ?_
  refine⟨by omega,?_⟩
  refine v4 (ae q7) aoi aok q8 ?_
  refine(c7 m7.ring m7.inv (x:=t) (y:=x) (by omega) (by omega)).mono ?_
  rintro _ H8 ⟨rfl,N8,P8,r8,l8,n8,i8,e8⟩
  have m8:=m7.qe r8 i8 e8 l8
  have f8:=f5.RY (t:=t) (A:=A) (by grind)
  rw[hg,←n8]at f8
  refine vs ?_
  refine⟨N8,P8,L7,[],m8,f8,fun z=>?_,Ft,(((Ac.trans (e5.mono (by omega))).trans (e6.mono (by omega))).trans (e7.mono (by omega))).trans (e8.mono (by omega))⟩
  rw[k7,k6]
  obtain⟨uz,kz,dz⟩:=hp z
  by_cases h1:z=x
  ·rw[h1]
   rw[h1]at kz dz
   unfold mD aJ az
   grind
  ·unfold mD aJ az
   grind
 ·have hhd:cd N x=(A0++[y]).headD (-1):=by
   cases A0 with
   |nil=>exact Lq.1
   |cons a A0=>exact Lq.1
  have Ns:cd N x≠x:=fun e=>by
   have h1:=(aoy.1 jk).1
   apply h1
   rw[e]at hhd
   cases A0 with
   |nil=>grind
   |cons a A0=>grind
  refine ar.dec (fun h=>absurd h Ns) (fun _=>?_)
  obtain⟨r0,_⟩:=m3.rd (x:=p) ⟨p0,p1⟩
  obtain⟨L4,k4,m4,e4⟩:=m3.eV (x:=p) ⟨p0,p1⟩ (cd N x)
  refine v2 m3.places aoi ?_
  refine⟨by omega,?_⟩
  refine vs ?_
  generalize H3.wr B.tb ((aK L3).set (p.toNat*4+1) (i64 (cd N x)))=H4 at*
  have Ac:=z8.trans (e4.mono (by omega))
  have k4x:fu L4 x=fu L x:=by rw[k4,k3,k2];unfold mD;grind
  have k4p:fu L4 p=⟨(fu L p).u,cd N x,((ch p).length:Int) - 1,(fu L p).m⟩:=by rw[k4,k3,k2];unfold mD;grind
  have k4o:∀z,z≠p→fu L4 z=fu L z:=fun z hz=>by rw[k4,k3,k2];unfold mD;grind
  have QO:∀ {N5:List Int},cd N5=uH (cd N) x (cd P x)→dU (aF w) lt (cd N5) (az ch p (A0++[y])) (aJ ay x (-1)) am (x::W):=fun h=>by
   rw[h]
   have hpv:cd P x=y:=oW.last (A:=A0) m.inv Lq
   rw[hpv]
   have f2:=f1.off (A:=A0) (y:=y) AA
   rwa[cO]at f2
  obtain⟨cc4,lt4,o4,q4,_⟩:=m4.dZ
  refine v1 (ae o4) ?_
  refine(jR m4.ring m4.inv (x:=x) (by omega)).mono ?_
  rintro _ H5 ⟨rfl,N5,P5,r5,l5,n5,i5,e5⟩
  have m5:=m4.qe r5 i5 e5 l5
  have f5:=QO n5
  obtain⟨cc5,lt5,o5,q5,_⟩:=m5.dZ
  have hl5:=m5.len
  refine v1 (ae o5) ?_
  refine⟨by omega,?_⟩
  obtain⟨d0,_⟩:=m5.rd ut
  obtain⟨L6,k6,m6,e6⟩:=m5.aJ ut (-1)
  refine v3 m5.places aoi Nat.add_zero ?_
  refine⟨by omega,?_⟩
  refine vs ?_
  generalize H5.wr B.tb ((aK L4).set (x.toNat*4) (Value.int .i64 (-1)))=H6 at*
  have hl6:=m6.len
  refine⟨by omega,?_⟩
  obtain⟨g0,_⟩:=m6.rd ut
  obtain⟨L7,k7,m7,e7⟩:=m6.dB ut false
  refine v3 m6.places aoi Nat.add_zero ?_
  refine⟨by omega,?_⟩
  refine vs ?_
  generalize H6.wr B.tb ((aK L6).set (x.toNat*4+3) (Value.bool false))=H7 at*
  obtain⟨cc7,lt7,o7,q7,_⟩:=m7.dZ
  have q8:=m7.cT q7 (cf (tops:=tops) (h:=g) (by omega) eC)
  rw[ht]at q8
  have hl7:=m7.len
  refine v1 (ae o7) ?_
  refine⟨by omega,?_⟩
  refine v4 (ae q7) aoi aok q8 ?_
  refine(c7 m7.ring m7.inv (x:=t) (y:=x) (by omega) (by omega)).mono ?_
  rintro _ H8 ⟨rfl,N8,P8,r8,l8,n8,i8,e8⟩
  have m8:=m7.qe r8 i8 e8 l8
  have f8:=f5.RY (t:=t) (A:=A) (by grind)
  rw[hg,←n8]at f8
  refine vs ?_
  refine⟨N8,P8,L7,(A0++[y]),m8,f8,fun z=>?_,Ft,(((Ac.trans (e5.mono (by omega))).trans (e6.mono (by omega))).trans (e7.mono (by omega))).trans (e8.mono (by omega))⟩
  rw[k7,k6]
  obtain⟨uz,kz,dz⟩:=hp z
  by_cases h1:z=x
  ·rw[h1]
   rw[h1]at kz dz
   unfold mD aJ az
   grind
  ·unfold mD aJ az
   grind
end
end Go.Proofs.YtjkkkibiegfecaaGreatDoor

namespace Go.Proofs.YtjkkkibiegfecaaGreatDoor
open Go Go.Vc
section
variable {H H' : Hp} {B : FB} {C V : Nat → Prop} {w : Nw} {N P : List Int} {L : List Pc} {tops : List Int} {ch : Int → List Int} {ay : Int → Int} {am : Int → List Int} {W : List Int}
theorem DG(m:bV H B C w N P L tops){lt:Int→Int→Bool}(hs:bF lt){x g t:Int}{A:List Int}(f:dU (aF w) lt (cd N) ch ay am W)(hp:Lu (fu L) ch ay)(hg:aF w x=g)(PS:0<g)(eC:g<tops.length)(hr:am g=t::A)(ht:aM tops g=t):
  ag Tryz.prog pT [ptr B.n,i64 g,i64 x] H fun v H'=>ap (∃N' P' L' dK bG A',bV H' B C w N' P' L' tops∧dU (aF w) lt (cd N') dK bG (az am g (t::A')) W∧Lu (fu L') dK bG∧(∀z,ay z= -1→bG z= -1)∧
   ah (fun z=>z=B.nb∨z=B.pb∨z=B.tb) H H'):=by
 have e0:az am g (t::A)=am:=by
  funext z
  unfold az
  split
  ·grind
  ·rfl
 refine aU pY ?_
 refine vs ?_
 refine bX.intro (fun mm env H'=>∃ (x:Int) (N' P':List Int) (L':List Pc) (dK:Int→List Int) (bG:Int→Int) (A':List Int),mm=Nt lt w.cs.length x∧aF w x=g∧bV H' B C w N' P' L' tops∧dU (aF w) lt (cd N') dK bG (az am g (t::A')) W∧Lu (fu L') dK bG∧(∀z,ay z= -1→bG z= -1)∧
   ah (fun z=>z=B.nb∨z=B.pb∨z=B.tb) H H'∧env=[(0,ptr B.n),(1,i64 g),(2,i64 x)]) _ ⟨x,N,P,L,ch,ay,A,rfl,hg,m,by grind,hp,fun _ h=>h,ah.refl _ _,rfl⟩ ?_
 rintro mm env H1 ⟨y,N1,P1,L1,PV,yf,A1,rfl,hy,m1,f1,p1,u1,e1,rfl⟩
 obtain⟨y0,y1,_⟩:=aG (w:=w) (x:=y) (by omega)
 obtain⟨tv,o1,_⟩:=m1.own
 obtain⟨a0,a1,a2,a3,a4⟩:=m1.rd ⟨y0,y1⟩
 obtain⟨uy,_,_⟩:=p1 y
 have hl:=m1.len
 rw[uy]at a1
 refine v1 (ae o1) ?_
 refine⟨by omega,?_⟩
 refine v4 (ae m1.places) aoi Nat.add_zero a1 ?_
 refine ar.dec (fun h0=>?_) (fun h0=>?_)<;>refine v1 (ae o1) ?_
 ·exact⟨N1,P1,L1,PV,yf,A1,m1,f1,p1,u1,e1⟩
 refine⟨by omega,?_⟩
 refine v3 (ae m1.places) aoi a4 ?_
 have hyc:=f1.pr.up y _ rfl h0
 obtain⟨_,_,h3,h4,h5⟩:=f1.pr.dn _ _ hyc
 cases hm:(fu L1 y).m
 ·refine v1 (ae o1) ?_
  refine⟨by omega,?_⟩
  obtain⟨L2,k2,m2,e2⟩:=m1.dB ⟨y0,y1⟩ true
  refine v2 m1.places aoi ?_
  refine⟨by omega,?_⟩
  refine vs ?_
  refine⟨N1,P1,L2,PV,yf,A1,m2,f1,fun z=>?_,u1,e1.trans (e2.mono (by omega))⟩
  rw[k2]
  unfold mD
  split
  ·grind
  ·exact p1 z
 ·refine v1 (ae o1) ?_
  refine⟨by omega,?_⟩
  refine v4 (ae m1.places) aoi Nat.add_zero a1 ?_
  refine(Cd m1 hs f1 p1 hyc hy eC (A:=A1) (by unfold az;grind) ht).mono ?_
  rintro _ H2 ⟨N2,P2,L2,l,m2,f2,p2,Ft,e2⟩
  rw[cO]at f2
  refine vs ?_
  obtain⟨z0,z1,_⟩:=aG (w:=w) (x:=yf y) (by omega)
  refine⟨Nt lt w.cs.length (yf y),Fs hs ⟨z0,by omega⟩ h5,yf y,N2,P2,L2,_,_,y::A1,rfl,by omega,m2,f2,p2,fun z hz=>?_,e1.trans e2,rfl⟩
  unfold aJ
  grind
theorem tO(m:bV H B C w N P L tops){lt:Int→Int→Bool}(hs:bF lt){x g t:Int}{A:List Int}(f:dU (aF w) lt (cd N) ch ay am W)(hp:Lu (fu L) ch ay)(hg:aF w x=g)(PS:0<g)(eC:g<tops.length)(hr:am g=t::A)(ht:aM tops g=t):
  ag Tryz.prog qH [ptr B.n,i64 g,i64 x] H fun v H'=>ap (∃N' P' L' dK bG A',bV H' B C w N' P' L' tops∧dU (aF w) lt (cd N') dK bG (az am g (t::A')) W∧Lu (fu L') dK bG∧bG x= -1∧(∀z,ay z= -1→bG z= -1)∧
   ah (fun z=>z=B.nb∨z=B.pb∨z=B.tb) H H'):=by
 obtain⟨y0,y1,_⟩:=aG (w:=w) (x:=x) (by omega)
 obtain⟨tv,o1,_⟩:=m.own
 obtain⟨a0,a1,a2,a3,a4⟩:=m.rd ⟨y0,y1⟩
 obtain⟨uy,_,_⟩:=hp x
 have hl:=m.len
 rw[uy]at a1
 refine aU qX ?_
 refine v1 (ae o1) ?_
 refine⟨by omega,?_⟩
 refine v4 (ae m.places) aoi Nat.add_zero a1 ?_
 refine ar.dec (fun h0=>?_) (fun h0=>?_)<;>refine vs ?_
 ·have e0:az am g (t::A)=am:=by
   funext z
   unfold az
   split
   ·grind
   ·rfl
  exact⟨N,P,L,ch,ay,A,m,by grind,hp,h0,fun _ h=>h,ah.refl _ _⟩
 have hxc:=f.pr.up x _ rfl h0
 obtain⟨_,_,h3,h4,h5⟩:=f.pr.dn _ _ hxc
 refine(Cd m hs f hp hxc hg eC hr ht).mono ?_
 rintro _ H2 ⟨N2,P2,L2,l,m2,f2,p2,Ft,e2⟩
 refine vs ?_
 refine(DG m2 hs (x:=ay x) (A:=x::A) f2 p2 (by omega) PS eC (by unfold az;grind) ht).mono ?_
 rintro _ H3 ⟨N3,P3,L3,KV,nF,A3,m3,f3,p3,u3,e3⟩
 rw[cO]at f3
 refine vs ?_
 exact⟨N3,P3,L3,KV,nF,A3,m3,f3,p3,u3 x (by unfold aJ;omega),fun z hz=>u3 z (by unfold aJ;omega),e2.trans e3⟩
end
end Go.Proofs.YtjkkkibiegfecaaGreatDoor
