/- Texts put behind each other. -/
import Derived.Test.YthpjfeolagohkaaGreatK98
import Derived.Test.YthpjfeolagohkaaGreatK12
import Derived.Test.YthpjfeolagohkaaGreatK26
import Derived.Test.YthpjfeolagohkaaGreatK30
set_option maxRecDepth 100000
set_option maxHeartbeats 8000000
set_option linter.unusedVariables false
set_option linter.unusedSimpArgs false
namespace Go.Proofs.YthpjfeolagohkaaGreat
open Go Go.Vc
theorem Sl.at_{H:Hp}{v:Value}{n:Nat}{xs:List Value}{fp:Option Nat}(h:Sl H 1 v n xs fp){i:Nat}{x:Value}(hx:xs[i]? =some x):∃b cc lb,v= .slice (some ⟨b,0,none⟩) n cc∧fp=some b∧H.own b=some lb∧lb[i]? =some x∧i<n∧n≤lb.length:=by
 have hi:=(aoq.1 hx).1
 obtain⟨hl,hm⟩:=id h
 cases fp with
 |none=>obtain⟨e,_⟩:=hm;omega
 |some f=>
  obtain⟨lb,cc,hv,ho,h1,h2,h3⟩:=hm
  refine⟨f,cc,lb,hv,rfl,ho,?_,by omega,by omega⟩
  rw[←h3,aoT (by omega)]at hx
  exact hx
structure gE(H:Hp)(n c:Nat)(C:Nat→Prop)(rv:Value)(r:Nat)(fp fa:Option Nat)(st:Int)(w:Nw)(l at_:List Int):Prop where
 own:∃av,H.own n=some [ptr c,rv,av]∧Sl H 1 av at_.length (at_.map i64) fa
 cells:bi H c C st w
 je:∃sv,H.own r=some [ptr n,sv]∧Sl H 1 sv l.length (l.map i64) fp
 nC:¬C n
 rC:¬C r
 rn:r≠n
 xd:∀b,fp=some b→¬C b∧b≠n∧b≠r∧fa≠some b
 JY:∀b,fa=some b→¬C b∧b≠n∧b≠r
 ll:l.length≤65536
abbrev pv(r:Nat):Value:=.iface 338 (ptr r)
theorem rH{l:List Int}{i:Nat}{x:Int}(h:l[i]? =some x):l.getD i 0=x:=by rw[aou,h];rfl
theorem getD_take{l:List Int}{k m:Nat}(h:k<m):(l.take m).getD k 0=l.getD k 0:=by rw[aou,aou,aoT h]
section
variable {H : Hp} {n c : Nat} {C : Nat → Prop} {rv : Value} {r : Nat} {fp fa : Option Nat} {st : Int} {w : Nw} {l at_ : List Int}
theorem oQ(m:gE H n c C rv r fp fa st w l at_):af Tryz.prog gJ [ptr r] H fun v H'=>ar (v=i64 l.length∧H=H'):=by
 obtain⟨sv,ho,hs⟩:=m.je
 obtain⟨a,cc,rfl⟩:=cK.SE hs.rd
 refine aZ Eb ?_
 refine v1 (ae ho) ?_
 exact⟨rfl,rfl⟩
theorem Gh(m:gE H n c C rv r fp fa st w l at_){i j:Nat}(hi:i<l.length)(hj:j<l.length)(bE:∀z∈l,cU w.cs z):af Tryz.prog pE [ptr r,i64 i,i64 j] H fun v H'=>ar (
  v= .bool (aN w (l.getD i 0) (l.getD j 0))∧gE H' n c C rv r fp fa (min (st+1) 4611686018427387904) w l at_∧ag C H H'):=by
 obtain⟨av,hn,ha⟩:=m.own
 obtain⟨sv,ho,hs⟩:=m.je
 obtain⟨x,hx⟩:∃x,l[i]? =some x:=⟨_,aop hi⟩
 obtain⟨y,hy⟩:∃y,l[j]? =some y:=⟨_,aop hj⟩
 obtain⟨b,cc,lb,rfl,fU,hb,lV,_,_⟩:=Sl.at_ hs (i:=i) (x:=i64 x) (by simp[hx])
 obtain⟨b',Ux,Wd,hv,iN,mU,hby,_,_⟩:=Sl.at_ hs (i:=j) (x:=i64 y) (by simp[hy])
 rw[fU]at iN
 injection iN with iN
 subst iN
 rw[hb]at mU
 injection mU with mU
 subst mU
 have jx:=m.ll
 refine aZ Cy ?_
 refine v2 (ae ho) (ae hn) ?_
 refine⟨by omega,?_⟩
 refine v5 (ae hb) aos lV (ae ho) Int.toNat_natCast ?_
 refine⟨by omega,?_⟩
 refine v4 (ae hb) aos hby Int.toNat_natCast ?_
 have h1:=bE x (aow hx)
 have h2:=bE y (aow hy)
 refine(iR m.cells x y).mono ?_
 rintro _ H1 ⟨rfl,c1,e1⟩
 refine vs ?_
 have ma:=m.cells.st
 rw[if_pos ⟨h1,h2⟩,show fO st 1=min (st+1) 4611686018427387904 by unfold fO;rw[if_neg (by omega)];split<;>omega]at c1
 refine⟨by rw[rH hx,rH hy,CS h1 h2];rfl,⟨⟨av,e1.own hn m.nC,ha.ext e1 (fun b hb=>(m.JY b hb).1)⟩,c1,⟨_,e1.own ho m.rC,hs.ext e1 (fun b hb=>(m.xd b hb).1)⟩,m.nC,m.rC,m.rn,m.xd,m.JY,m.ll⟩,e1⟩
theorem Gi(m:gE H n c C rv r fp fa st w l at_)(lC:mr l at_){i j:Nat}(hi:i<l.length)(hj:j<l.length)(Hd:i≠j):af Tryz.prog pG [ptr r,i64 i,i64 j] H fun v H'=>ar (
  v= .tuple [].toArray∧gE H' n c C rv r fp fa st w (swp l i j) (Bj l at_ i j)∧ag (fun z=>fp=some z∨fa=some z) H H'):=by
 obtain⟨av,hn,ha⟩:=m.own
 obtain⟨sv,ho,hs⟩:=m.je
 obtain⟨x,hx⟩:∃x,l[i]? =some x:=⟨_,aop hi⟩
 obtain⟨y,hy⟩:∃y,l[j]? =some y:=⟨_,aop hj⟩
 obtain⟨b,cc,lb,rfl,rfl,hb,lV,_,Dt⟩:=Sl.at_ hs (i:=i) (x:=i64 x) (by simp[hx])
 obtain⟨b',Ux,Wd,hv,iN,mU,hby,_,_⟩:=Sl.at_ hs (i:=j) (x:=i64 y) (by simp[hy])
 injection iN with iN
 subst iN
 rw[hb]at mU
 injection mU with mU
 subst mU
 obtain⟨fL,qA⟩:=lC i x hx
 obtain⟨hy0,hay⟩:=lC j y hy
 have Yd:=(aoq.1 qA).1
 have hyl:=(aoq.1 hay).1
 obtain⟨f,fc,la,rfl,rfl,hf,U6,_,hla⟩:=Sl.at_ ha (i:=x.toNat) (x:=i64 i) (by simp[qA])
 have jx:=m.ll
 obtain⟨d1,d2,d3,d4⟩:=m.xd b rfl
 obtain⟨g1,g2,g3⟩:=m.JY f rfl
 have Xe:b≠f:=fun e=>d4 (by rw[e])
 refine Kw CA ⟨rfl,?_⟩
 refine v2 pP.eq_1 (ae ho) ?_
 refine⟨by omega,?_⟩
 refine v5 (ae hb) aos hby (ae ho) Int.toNat_natCast ?_
 refine⟨by omega,?_⟩
 refine v4 (ae hb) aos lV Int.toNat_natCast ?_
 refine⟨by omega,?_⟩
 refine v3 hb aos Int.toNat_natCast ?_
 refine⟨by omega,?_⟩
 refine v1 aor ?_
 refine⟨by omega,?_⟩
 simp(disch:=(first|omega| (simp only[Zs]<;>omega)|fail)) only[go_sem, ↓reduceIte,Zv,ah hb,aos,Int.toNat_natCast]
 refine⟨by rw[aot];omega,?_⟩
 refine v1 aor ?_
 have e1:ag (fun z=>z=b) H (H.wr b ((lb.set i (i64 y)).set j (i64 x))):=(ag.refl (fun z=>z=b) _).wr (fun _=>rfl) _
 have ob:(H.wr b ((lb.set i (i64 y)).set j (i64 x))).own b=some ((lb.set i (i64 y)).set j (i64 x)):=ah hb
 have s1:=(hs.sI hb i (i64 y)).sI (ah hb) j (i64 x)
 rw[O4]at s1
 generalize H.wr b ((lb.set i (i64 y)).set j (i64 x))=H1 at*
 have Qw:=e1.own ho (Ne.symm d3)
 have EF:=e1.own hn (Ne.symm d2)
 have hf1:=e1.own hf (Ne.symm Xe)
 have V9:=ha.ext e1 (fun z hz h=>by injection hz with hz;exact Xe (h.symm.trans hz.symm))
 have c1:=m.cells.ext e1 (fun z hz h=>d1 (h▸hz))
 have gi:((lb.set i (i64 y)).set j (i64 x))[i]? =some (i64 y):=by rw[aov (Ne.symm Hd),aox (by omega)]
 have gj:((lb.set i (i64 y)).set j (i64 x))[j]? =some (i64 x):=by rw[aox (by rw[aot];omega)]
 refine v4 (ae ho) (ae hn) (ae Qw) (ae EF) ?_
 refine⟨by omega,?_⟩
 refine v6 (ae ob) aos gi (ae Qw) (ae EF) Int.toNat_natCast ?_
 refine⟨by omega,?_⟩
 refine v4 (ae ob) aos gj Int.toNat_natCast ?_
 refine⟨by omega,?_⟩
 refine v3 hf1 aos aor ?_
 refine⟨by omega,?_⟩
 refine v1 aor ?_
 refine⟨by omega,?_⟩
 simp(disch:=(first|omega| (simp only[Zs]<;>omega)|fail)) only[go_sem, ↓reduceIte,Zv,ah hf1,aos,aor]
 refine⟨by rw[aot];omega,?_⟩
 refine v1 aor ?_
 have e2:ag (fun z=>z=f) H1 (H1.wr f ((la.set y.toNat (i64 i)).set x.toNat (i64 j))):=(ag.refl (fun z=>z=f) _).wr (fun _=>rfl) _
 have s2:=(V9.sI hf1 y.toNat (i64 i)).sI (ah hf1) x.toNat (i64 j)
 rw[O4]at s2
 have ex:=rH hx
 have ey:=rH hy
 refine⟨rfl,⟨⟨_,e2.own EF (Ne.symm g2),?_⟩,c1.ext e2 (fun z hz h=>g1 (h▸hz)),⟨_,e2.own Qw (Ne.symm g3),?_⟩,m.nC,m.rC,m.rn,m.xd,m.JY,by rw[fS];exact m.ll⟩,(e1.mono fun z _ hz=>.inl (by rw[hz])).trans (e2.mono fun z _ hz=>.inr (by rw[hz]))⟩
 ·unfold Bj
  rw[ex,ey,aot,aot,ao9,ao9]
  exact s2
 ·have:=s1.ext e2 (fun z hz h=>by injection hz with hz;exact Xe (hz.trans h))
  unfold swp
  rw[ex,ey,aot,aot,ao9,ao9]
  exact this
end
structure nA(n c:Nat)(C:Nat→Prop)(rv:Value)(r:Nat)(fp fa:Option Nat)(st:Int)(w:Nw)(l at_:List Int)(mm:Nat)(H H':Hp)(l' lW:List Int)(q:Nat):Prop where
 je:gE H' n c C rv r fp fa (min (st+q) 4611686018427387904) w l' lW
 ok:mr l' lW
 mem:∀z,z∈l'↔z∈l
 len:l'.length=l.length
 drop:l'.drop mm=l.drop mm
 Mi:lW.length=at_.length
 off:∀z:Int,0≤z→z∉l→lW[z.toNat]? =at_[z.toNat]?
 ext:ag (fun z=>C z∨fp=some z∨fa=some z) H H'
section
variable {H H1 : Hp} {n c : Nat} {C : Nat → Prop} {rv : Value} {r : Nat} {fp fa : Option Nat} {st : Int} {w : Nw} {l at_ l1 HU : List Int} {mm q : Nat}
theorem nA.refl(m:gE H n c C rv r fp fa st w l at_)(lC:mr l at_)(mm:Nat):nA n c C rv r fp fa st w l at_ mm H H l at_ 0:=
 ⟨by have:=m.cells.st;rw[show min (st+((0:Nat):Int)) 4611686018427387904=st by omega];exact m,lC,fun _=>Iff.rfl,rfl,rfl,rfl,fun _ _ _=>rfl,ag.refl _ _⟩
theorem nA.less(h:nA n c C rv r fp fa st w l at_ mm H H1 l1 HU q)(bE:∀z∈l,cU w.cs z){i j:Nat}(hi:i<l.length)(hj:j<l.length):gw Tryz.prog (pv r) "Less" [i64 i,i64 j] H1 fun v H2=>
  v= .bool (aN w (l1.getD i 0) (l1.getD j 0))∧nA n c C rv r fp fa st w l at_ mm H H2 l1 HU (q+1):=by
 have hl:=h.len
 refine⟨_,_,pE,ptr r,rfl,br (by kernel_rfl),(Gh h.je (by omega) (by omega) (fun z hz=>bE z ((h.mem z).1 hz))).mono ?_⟩
 rintro v H2 ⟨hv,m2,e2⟩
 refine⟨hv,?_,h.ok,h.mem,h.len,h.drop,h.Mi,h.off,h.ext.trans (e2.mono fun z _ hz=>.inl hz)⟩
 rw[show min (st+((q+1:Nat):Int)) 4611686018427387904=min (min (st+(q:Int)) 4611686018427387904+1) 4611686018427387904 by omega]
 exact m2
theorem nA.swap(h:nA n c C rv r fp fa st w l at_ mm H H1 l1 HU q)(hm:mm≤l.length){i j:Nat}(hi:i<mm)(hj:j<mm)(Hd:i≠j):gw Tryz.prog (pv r) "Swap" [i64 i,i64 j] H1 fun v H2=>
  v= .tuple [].toArray∧nA n c C rv r fp fa st w l at_ mm H H2 (swp l1 i j) (Bj l1 HU i j) q:=by
 have hl:=h.len
 refine⟨_,_,pG,ptr r,rfl,br (by kernel_rfl),(Gi h.je h.ok (i:=i) (j:=j) (by omega) (by omega) Hd).mono ?_⟩
 rintro v H2 ⟨hv,m2,e2⟩
 obtain⟨a1,a2,a3⟩:=h.ok.swp (i:=i) (j:=j) (by omega) (by omega) Hd
 refine⟨hv,m2,a1,fun z=>by rw[U5 (by omega) (by omega),h.mem z],by rw[fS];exact h.len,by rw[S0 hi hj (by omega)];exact h.drop,a2.trans h.Mi,fun z hz hm=>?_,h.ext.trans (e2.mono fun z _ hz=>.inr hz)⟩
 rw[a3 z hz (fun h2=>hm ((h.mem z).1 h2))]
 exact h.off z hz hm
theorem rI(m:gE H n c C rv r fp fa st w l at_)(lC:mr l at_){j mm:Nat}(hj:j<mm)(hm:mm≤l.length)(bE:∀z∈l,cU w.cs z)(hA:dG (aN w) 2 (l.take mm) j)
  (hB:∀k,1≤k→k< (l.take mm).length→pa 2 k=j→aN w ((l.take mm).getD k 0) ((l.take mm).getD j 0)=false):
  af Tryz.prog vZ [pv r,i64 j] H fun v H'=>ar (v= .tuple [].toArray∧∃ (l' lW:List Int) (q:Nat),nA n c C rv r fp fa st w l at_ mm H H' l' lW q∧eI (aN w) 2 (l'.take mm)∧q≤kG 2 j∧(1≤j→0<q)):=by
 have ho:=ap w
 have jx:=m.ll
 refine aZ wV ?_
 refine vs ?_
 refine aS.intro (fun k env H'=>∃ (j':Nat) (l1 HU:List Int) (q:Nat),env=[(0,pv r),(1,i64 j')]∧k=j'∧j'<mm∧nA n c C rv r fp fa st w l at_ mm H H' l1 HU q∧dG (aN w) 2 (l1.take mm) j'∧
   (∀k,1≤k→k< (l1.take mm).length→pa 2 k=j'→aN w ((l1.take mm).getD k 0) ((l1.take mm).getD j' 0)=false)∧q+kG 2 j'≤kG 2 j∧(j'≠j→0<q)) j
  ⟨j,l,at_,0,rfl,rfl,hj,nA.refl m lC mm,hA,hB,by omega,fun h=>absurd rfl h⟩ ?_
 clear hA hB
 rintro j' env H1 ⟨_,l1,HU,q,rfl,rfl,Xd,h1,hA,hB,hq,Wl⟩
 have rQ:=h1.len
 have tJ:=pa2 j'
 have agd:IntKind.i64.wrap ((IntKind.i64.wrap ((j':Int) - 1)).tdiv 2)=((pa 2 j':Nat):Int):=by
  rw[wrap64 (n:=(j':Int) - 1) (by omega) (by omega),tJ]
  split
  ·rename_i h;subst h;rfl
  ·rw[Int.tdiv_eq_ediv_of_nonneg (by omega),wrap64 (by omega) (by omega)]
 simp(disch:=(first|omega| (simp only[Zs]<;>omega)|fail)) only[go_sem, ↓reduceIte,Zv,if_neg (show¬ ((2:Int)=0) by decide)]
 rw[agd]
 have HF:(l1.take mm).length=mm:=by rw[aoS];omega
 by_cases h0:j'=0
 ·refine ai.bI (aoE (by rw[tJ,if_pos h0,h0];rfl)) ?_
  refine vs ?_
  exact⟨rfl,l1,HU,q,h1,hA.heap hB (fun h=>by omega),by omega,fun h=>Wl (by omega)⟩
 ·have MU:=cH dL (j:=j') (by omega)
  refine ai.aP (aoK (by omega)) ?_
  refine vs ?_
  refine gw.mono (h1.less bE (i:=j') (j:=pa 2 j') (by omega) (by omega)) ?_
  rintro _ H2 ⟨rfl,h2⟩
  have zL:kG 2 (j':Int)=kG 2 ((pa 2 j':Nat):Int)+1:=by
   obtain⟨p,hp,MD,p0,p1⟩:=ni dL (i:=(j':Int)) (by omega)
   rw[Int.toNat_natCast]at MD
   rw[p9 hp,show p=((pa 2 j':Nat):Int) by omega]
  refine vs ?_
  cases aK:aN w (l1.getD j' 0) (l1.getD (pa 2 j') 0)with
  |false=>
   refine vs ?_
   refine⟨rfl,l1,HU,q+1,h2,hA.heap hB (fun _ _=>?_),by omega,fun _=>by omega⟩
   rw[getD_take Xd,getD_take (by omega)]
   exact aK
  |true=>
   refine vs ?_
   refine gw.mono (h2.swap hm (i:=pa 2 j') (j:=j') (by omega) Xd (by omega)) ?_
   rintro _ H3 ⟨rfl,h3⟩
   refine vs ?_
   obtain⟨g1,g2⟩:=Yc ho (l:=l1.take mm) (i:=j') (by omega) (by omega) hA hB (by rw[getD_take Xd,getD_take (by omega)];exact aK)
   have ht:(swp l1 (pa 2 j') j').take mm=swp (l1.take mm) (pa 2 j') j':=Mh (by omega) Xd (by omega)
   exact⟨pa 2 j',by omega,pa 2 j',_,_,q+1,rfl,rfl,by omega,h3,by rw[ht];exact g1,by rw[ht];exact g2,by omega,fun _=>by omega⟩
theorem uS(m:gE H n c C rv r fp fa st w l at_)(lC:mr l at_){i0 mm:Nat}(hi:i0<mm)(hm:mm≤l.length)(bE:∀z∈l,cU w.cs z)(hA:dG (aN w) 2 (l.take mm) i0):
  af Tryz.prog sT [pv r,i64 i0,i64 mm] H fun v H'=>ar (∃ (b:Bool) (l' lW:List Int) (q:Nat),v= .bool b∧nA n c C rv r fp fa st w l at_ mm H H' l' lW q∧q+2*kG 2 i0≤2*kG 2 ((mm:Int) - 1)∧
   (b=true→eI (aN w) 2 (l'.take mm))∧(b=false→l'=l∧lW=at_∧∀k,1≤k→k< (l.take mm).length→pa 2 k=i0→aN w ((l.take mm).getD k 0) ((l.take mm).getD i0 0)=false)):=by
 have ho:=ap w
 have jx:=m.ll
 refine Kw tq ⟨rfl,?_⟩
 refine v1 jw.eq_1 ?_
 have F4:∀k:Nat,k<mm→kG 2 (k:Int)≤kG 2 ((mm:Int) - 1):=fun k hk=>kH dL ((mm:Int) - 1).toNat _ _ (aoB _) (by omega)
 refine aS.intro (fun k env H'=>∃ (i:Nat) (l1 HU:List Int) (q:Nat),env=[(0,pv r),(1,i64 i0),(2,i64 mm),(7,i64 i)]∧k=mm - i∧i<mm∧i0≤i∧nA n c C rv r fp fa st w l at_ mm H H' l1 HU q∧dG (aN w) 2 (l1.take mm) i∧
   q+2*kG 2 i0≤2*kG 2 i∧(i0<i→aN w ((l1.take mm).getD i 0) ((l1.take mm).getD (pa 2 i) 0)=false)∧(i=i0→l1=l∧HU=at_)) (mm - i0)
  ⟨i0,l,at_,0,rfl,rfl,hi,aoB _,nA.refl m lC mm,hA,by omega,fun h=>by omega,fun _=>⟨rfl,rfl⟩⟩ ?_
 clear hA
 rintro k env H1 ⟨i,l1,HU,q,rfl,rfl,him,CD,h1,hA,hq,hD,O5⟩
 have rQ:=h1.len
 have HF:(l1.take mm).length=mm:=by rw[aoS];omega
 have stay:∀ (H2:Hp) (q':Nat),nA n c C rv r fp fa st w l at_ mm H H2 l1 HU q'→q'+2*kG 2 i0≤2*kG 2 ((mm:Int) - 1)→(∀k,1≤k→k< (l1.take mm).length→pa 2 k=i→aN w ((l1.take mm).getD k 0) ((l1.take mm).getD i 0)=false)→
   ∃ (b:Bool) (l' lW:List Int) (q:Nat),Value.bool (decide ((i:Int)>i0))= .bool b∧nA n c C rv r fp fa st w l at_ mm H H2 l' lW q∧q+2*kG 2 i0≤2*kG 2 ((mm:Int) - 1)∧
    (b=true→eI (aN w) 2 (l'.take mm))∧(b=false→l'=l∧lW=at_∧∀k,1≤k→k< (l.take mm).length→pa 2 k=i0→aN w ((l.take mm).getD k 0) ((l.take mm).getD i0 0)=false):=by
  intro H2 q' h2 GV hB
  refine⟨_,l1,HU,q',rfl,h2,GV,fun h=>?_,fun h=>?_⟩
  ·have:=of_decide_eq_true h
   exact hA.heap hB (fun _ _=>hD (by omega))
  ·have:=of_decide_eq_false h
   have e:i=i0:=by omega
   obtain⟨e1,e2⟩:=O5 e
   subst e1 e2 e
   exact⟨rfl,rfl,hB⟩
 have Qs:∀k:Nat,1≤k→(pa 2 k=i↔(2*i+1≤k∧k≤2*i+2)):=fun k hk=>by
  have:=SG dL (i:=i) hk
  rw[this]
  omega
 refine vs ?_
 have hj1:IntKind.i64.wrap (IntKind.i64.wrap (2*(i:Int))+1)=((2*i+1:Nat):Int):=by
  rw[wrap64 (n:=2*(i:Int)) (by omega) (by omega),wrap64 (by omega) (by omega)];omega
 rw[hj1]
 refine ai.dec (fun MZ=>?_) (fun MZ=>?_)
 ·refine vs ?_
  exact stay H1 q h1 (by have:=F4 i him;omega) (fun k h2 h3 h4=>by have:=(Qs k h2).1 h4;omega)
 refine vs ?_
 refine ai.aP (aoK (by omega)) ?_
 refine vs ?_
 have AW:2*i+1<mm:=by omega
 refine Xz (fun e H2=>e.find 0=some (pv r)∧e.find 1=some (i64 i0)∧e.find 2=some (i64 mm)∧e.find 7=some (i64 i)∧∃ (b:Nat) (q':Nat),e.find 9=some (i64 b)∧nA n c C rv r fp fa st w l at_ mm H H2 l1 HU q'∧q'≤q+1∧1≤b∧b<mm∧pa 2 b=i∧
   ∀k,1≤k→k< (l1.take mm).length→pa 2 k=i→aN w ((l1.take mm).getD k 0) ((l1.take mm).getD b 0)=false) ?_ ?_
 ·have HH:pa 2 (2*i+1)=i:=(Qs _ (by omega)).2 ⟨by omega,by omega⟩
  refine vs ?_
  have gf:IntKind.i64.wrap (((2*i+1:Nat):Int)+1)=((2*i+2:Nat):Int):=by rw[wrap64 (by omega) (by omega)];omega
  rw[gf]
  refine ai.dec (fun h2=>?_) (fun h2=>?_)
  ·have tJ:pa 2 (2*i+2)=i:=(Qs _ (by omega)).2 ⟨by omega,by omega⟩
   refine vs ?_
   refine gw.mono (h1.less bE (i:=2*i+2) (j:=2*i+1) (by omega) (by omega)) ?_
   rintro _ H2 ⟨rfl,g2⟩
   refine vs ?_
   cases aK:aN w (l1.getD (2*i+2) 0) (l1.getD (2*i+1) 0)with
   |false=>
    refine vs ?_
    refine⟨trivial,trivial,trivial,trivial,2*i+1,q+1,rfl,g2,by omega,by omega,AW,HH,fun k h3 h4 h5=>?_⟩
    have h6:=(Qs k h3).1 h5
    rw[getD_take (by omega),getD_take (by omega)]
    by_cases h7:k=2*i+1
    ·rw[h7];exact ho.BT _
    ·rw[show k=2*i+2 by omega];exact aK
   |true=>
    refine vs ?_
    refine⟨trivial,trivial,trivial,trivial,2*i+2,q+1,rfl,g2,by omega,by omega,by omega,tJ,fun k h3 h4 h5=>?_⟩
    have h6:=(Qs k h3).1 h5
    rw[getD_take (by omega),getD_take (by omega)]
    by_cases h7:k=2*i+2
    ·rw[h7];exact ho.BT _
    ·rw[show k=2*i+1 by omega];exact ho.asym aK
  ·refine vs ?_
   refine⟨trivial,trivial,trivial,trivial,2*i+1,q,rfl,h1,by omega,by omega,AW,HH,fun k h3 h4 h5=>?_⟩
   have h6:=(Qs k h3).1 h5
   rw[show k=2*i+1 by omega]
   exact ho.BT _
 rintro e H2 ⟨e0,e1,e2,e7,b,q',e9,h2,GV,FU,BW,NK,rB⟩
 refine v5 e0 e1 e2 e7 e9 ?_
 refine gw.mono (h2.less bE (i:=b) (j:=i) (by omega) (by omega)) ?_
 rintro _ H3 ⟨rfl,h3⟩
 have zL:kG 2 (b:Int)=kG 2 (i:Int)+1:=by
  obtain⟨p,hp,MD,p0,p1⟩:=ni dL (i:=(b:Int)) (by omega)
  rw[Int.toNat_natCast,NK]at MD
  rw[p9 hp,show p=(i:Int) by omega]
 have hib:=cH dL FU
 refine v5 e0 e1 e2 e7 e9 ?_
 cases aK:aN w (l1.getD b 0) (l1.getD i 0)with
 |false=>
  refine v5 e0 e1 e2 e7 e9 ?_
  refine stay H3 (q'+1) h3 (by have:=F4 b BW;omega) (fun k h4 h5 h6=>?_)
  have h7:=rB k h4 h5 h6
  have h8:aN w ((l1.take mm).getD b 0) ((l1.take mm).getD i 0)=false:=by rw[getD_take BW,getD_take him];exact aK
  exact ho.nt _ _ _ h7 h8
 |true=>
  refine v5 e0 e1 e2 e7 e9 ?_
  refine gw.mono (h3.swap hm (i:=i) (j:=b) him BW (by omega)) ?_
  rintro _ H4 ⟨rfl,h4⟩
  refine v5 e0 e1 e2 e7 e9 ?_
  obtain⟨g1,g2⟩:=S5 ho (l:=l1.take mm) (i:=i) (b:=b) FU (by omega) NK hA rB (by rw[getD_take BW,getD_take him];exact aK)
  have ht:(swp l1 i b).take mm=swp (l1.take mm) i b:=Mh him BW (by omega)
  exact⟨mm - b,by omega,b,_,_,q'+1,rfl,rfl,BW,by omega,h4,by rw[ht];exact g1,by omega,fun _=>by rw[ht];exact g2,fun h=>by omega⟩
end
end Go.Proofs.YthpjfeolagohkaaGreat

namespace Go.Proofs.YthpjfeolagohkaaGreat
open Go Go.Vc
section
variable {H : Hp} {n c : Nat} {C : Nat → Prop} {rv : Value} {r : Nat} {fp fa : Option Nat} {st : Int} {w : Nw} {l at_ : List Int}
theorem Gj(m:gE H n c C rv r fp fa st w l at_)(hl:l.length<65536){x:Int}(hx:0≤x∧x.toNat<at_.length):af Tryz.prog pF [ptr r,.iface 3 (i64 x)] H fun v H'=>ar (
  v= .tuple [].toArray∧∃dT,gE H' n c C rv r dT fa st w (l++[x]) (at_.set x.toNat l.length)∧ag (fun z=>fp=some z∨fa=some z∨z=r) H H'∧(dT=fp∨∃z,dT=some z∧H.size≤z)):=by
 obtain⟨av,hn,ha⟩:=m.own
 obtain⟨sv,ho,hs⟩:=m.je
 obtain⟨y,hy⟩:∃y,at_[x.toNat]? =some y:=⟨_,aop hx.2⟩
 obtain⟨f,fc,la,rfl,rfl,hf,U6,_,hla⟩:=Sl.at_ ha (i:=x.toNat) (x:=i64 y) (by simp[hy])
 obtain⟨g1,g2,g3⟩:=m.JY f rfl
 obtain⟨sa,sc,IL⟩:=cK.SE hs.rd
 refine aZ Cz ?_
 refine vs ?_
 refine v3 (ae ho) (ae hn) IL ?_
 refine⟨by omega,?_⟩
 refine v3 hf aos aor ?_
 refine⟨by omega,?_⟩
 refine v1 aor ?_
 have e1:ag (fun z=>z=f) H (H.wr f (la.set x.toNat (i64 l.length))):=(ag.refl (fun z=>z=f) _).wr (fun _=>rfl) _
 have s1:=ha.sI hf x.toNat (i64 l.length)
 have EF:=e1.own hn (Ne.symm g2)
 have Qw:=e1.own ho (Ne.symm g3)
 have et:=hs.ext e1 (fun z hz h=>(m.xd z hz).2.2.2 (by rw[h]))
 have c1:=m.cells.ext e1 (fun z hz h=>g1 (h▸hz))
 generalize H.wr f (la.set x.toNat (i64 l.length))=H1 at*
 have e2:ag (fun _=>False) H1 (H1.new 3 [i64 x]):=(ag.refl _ _).new _ _
 refine v1 (ae ho) ?_
 refine Sl.append (et.ext e2 (fun _ _ h=>h)) (Sl.cB (size:=1) (xs:=[i64 x]) rfl rfl).rd rfl (by intro v hv;simp only[aoH]at hv;subst hv;rfl) (by omega) ?_
 intro sv' H3 dT s3 e3 fU
 have z1:=e1.size
 have hrs:=aB Qw
 have G4:=aB EF
 have G1:ag (fun z=>fp=some z) H1 H3:=(e2.mono fun _ _ h=>h.elim).k9 e3 (fun z _ h=>h)
 have ho3:=G1.own Qw (fun h=>(m.xd r h).2.2.1 rfl)
 have hn3:=G1.own EF (fun h=>(m.xd n h).2.1 rfl)
 obtain⟨a',Ux,KS⟩:=cK.SE s3.rd
 subst KS
 refine v1 ho3 ?_
 generalize KS:Value.slice a' (l.length+1) Ux=v' at*
 have e4:ag (fun z=>z=r) H3 (H3.wr r [ptr n,v']):=(ag.refl (fun z=>z=r) _).wr (fun _=>rfl) _
 have hfs:=aB hf
 have EH:∀b,dT=some b→fp=some b∨H1.size≤b:=fun b hb=>by
  rcases fU with h| ⟨z,h,h5,_⟩
  ·exact .inl (h▸hb)
  ·rw[h]at hb;injection hb with hb;subst hb;rw[aq]at h5;exact .inr (by omega)
 have xp:=c1.slt
 refine⟨rfl,dT,⟨⟨_,e4.own hn3 (Ne.symm m.rn),?_⟩,(c1.ext G1 (fun z hz h=>(m.xd z h).1 hz)).ext e4 (fun z hz h=>m.rC (h▸hz)),⟨_,ah ho3,?_⟩,m.nC,m.rC,m.rn,fun b hb=>?_,m.JY,by rw[aoy,aoV];omega⟩,
  (e1.mono fun z _ hz=>.inr (.inl (by rw[hz]))).trans ((G1.mono fun z _ hz=>.inl hz).trans (e4.mono fun z _ hz=>.inr (.inr hz))),?_⟩
 ·have:=((s1.ext G1 (fun z hz h=>(m.xd z h).2.2.2 hz)).ext e4 (fun z hz h=>by injection hz with hz;exact g3 (hz.trans h)))
  rw[aot,ao9]
  exact this
 ·have:=s3.ext e4 (fun b hb h=>by
   rcases EH b hb with h5|h5
   ·exact(m.xd b h5).2.2.1 h
   ·omega)
  rw[aoy,ao5]
  exact this
 ·rcases EH b hb with h5|h5
  ·exact m.xd b h5
  ·refine⟨fun h=>?_,by omega,by omega,fun h=>?_⟩
   ·have:=xp b h;omega
   ·injection h with h;omega
 ·rcases fU with h| ⟨z,h,h5,_⟩
  ·exact .inl h
  ·exact .inr ⟨z,h,by rw[aq]at h5;omega⟩
theorem HV(m:gE H n c C rv r fp fa st w l at_)(hl:0<l.length):af Tryz.prog rY [ptr r] H fun v H'=>ar (
  (∃x,v= .iface 3 (i64 x))∧gE H' n c C rv r fp fa st w l.dropLast at_∧ag (fun z=>z=r) H H'):=by
 obtain⟨av,hn,ha⟩:=m.own
 obtain⟨sv,ho,hs⟩:=m.je
 have jx:=m.ll
 obtain⟨x,hx⟩:∃x,l[l.length - 1]? =some x:=⟨_,aop (by omega)⟩
 obtain⟨f,cc,lb,rfl,rfl,hb,lV,_,Dt⟩:=Sl.at_ hs (i:=l.length - 1) (x:=i64 x) (by simp[hx])
 have e1:IntKind.i64.wrap ((l.length:Int) - 1)=((l.length - 1:Nat):Int):=by rw[wrap64 (by omega) (by omega)];omega
 obtain⟨_,l2,c2,C1,g2,a5,a6,a7⟩:=id hs
 injection C1 with _ _ C1
 subst C1
 rw[hb]at g2
 injection g2 with g2
 subst g2
 refine aZ Ec ?_
 simp(disch:=(first|omega| (simp only[Zs]<;>omega)|fail)) only[go_sem, ↓reduceIte,Zv,ae ho,e1,Int.toNat_natCast]
 refine⟨by omega,?_⟩
 simp(disch:=(first|omega| (simp only[Zs]<;>omega)|fail)) only[go_sem, ↓reduceIte,Zv,ae hb,ae ho,aos,lV,e1]
 refine⟨by omega,?_⟩
 have IL:Value.slice (if(cc:Int)=((0:Nat):Int)then some (⟨f,0,none⟩:Addr)else Option.map (fun(x:Addr)=>x.add (((0:Nat):Int).toNat*1)) (some (⟨f,0,none⟩:Addr))) (((l.length - 1:Nat):Int).toNat - ((0:Nat):Int).toNat) ((cc:Int).toNat - ((0:Nat):Int).toNat)= .slice (some ⟨f,0,none⟩) (l.length - 1) cc:=by
  split<;>rfl
 refine v2 (ae ho) ho ?_
 rw[IL]
 have ew:ag (fun z=>z=r) H (H.wr r [ptr n,.slice (some ⟨f,0,none⟩) (l.length - 1) cc]):=(ag.refl (fun z=>z=r) _).wr (fun _=>rfl) _
 obtain⟨d1,d2,d3,d4⟩:=m.xd f rfl
 refine⟨⟨_,rfl⟩,⟨⟨_,ew.own hn (Ne.symm m.rn),ha.ext ew (fun z hz h=>(m.JY z hz).2.2 h)⟩,m.cells.ext ew (fun z hz h=>m.rC (h▸hz)),⟨_,ah ho,?_⟩,m.nC,m.rC,m.rn,m.xd,m.JY,by rw[ao1];omega⟩,ew⟩
 refine⟨by simp,lb,cc,by rw[ao1],ew.own hb d3,by rw[ao1];omega,a6,?_⟩
 have hx7:((l.map i64).length)=l.length:=by simp
 rw[ao1,List.map_dropLast,ap2,hx7,←a7,aqu]
 congr 1
 omega
theorem Gk(m:gE H n c C rv r fp fa st w l at_)(lC:mr l at_)(hl:l.length<65536){x:Int}(hx:0≤x∧x.toNat<at_.length)(nL:x∉l)(agf:cU w.cs x)(bE:∀z∈l,cU w.cs z)(hh:eI (aN w) 2 l):
  af Tryz.prog sS [pv r,.iface 3 (i64 x)] H fun v H'=>ar (v= .tuple [].toArray∧∃ (dT:Option Nat) (l' lW:List Int) (q:Nat),gE H' n c C rv r dT fa (min (st+q) 4611686018427387904) w l' lW∧mr l' lW∧eI (aN w) 2 l'∧(∀z,z∈l'↔z=x∨z∈l)∧l'.length=l.length+1∧
   lW.length=at_.length∧(∀z:Int,0≤z→z≠x→z∉l→lW[z.toNat]? =at_[z.toNat]?)∧q≤kG 2 l.length∧(0<l.length→0<q)∧ag (fun z=>C z∨fp=some z∨fa=some z∨z=r) H H'∧(dT=fp∨∃z,dT=some z∧H.size≤z)):=by
 refine aZ tn ?_
 refine vs ?_
 refine gw.mono (K:=fun v H'=>v= .tuple [].toArray∧∃dT,gE H' n c C rv r dT fa st w (l++[x]) (at_.set x.toNat l.length)∧ag (fun z=>fp=some z∨fa=some z∨z=r) H H'∧(dT=fp∨∃z,dT=some z∧H.size≤z)) ⟨_,_,pF,ptr r,rfl,br (by kernel_rfl),Gj m hl hx⟩ ?_
 rintro _ H1 ⟨rfl,dT,m1,e1,iN⟩
 refine vs ?_
 refine gw.mono (K:=fun v H'=>v=i64 (l++[x]).length∧H1=H') ⟨_,_,gJ,ptr r,rfl,br (by kernel_rfl),oQ m1⟩ ?_
 rintro _ _ ⟨rfl,rfl⟩
 refine vs ?_
 have aR:(l++[x]).length=l.length+1:=by simp
 rw[show IntKind.i64.wrap (((l++[x]).length:Int) - 1)=((l.length:Nat):Int) by rw[aR,wrap64 (by omega) (by omega)];omega]
 have agh:mr (l++[x]) (at_.set x.toNat l.length):=fun i z hz=>by
  rcases ap6 i l.length with h|h|h
  ·rw[aoF h]at hz
   obtain⟨a,b⟩:=lC i z hz
   have aQ:x.toNat≠z.toNat:=fun e=>nL (by rw[show x=z by omega];exact aow hz)
   rw[aov aQ]
   exact⟨a,b⟩
  ·subst h
   rw[aoP (aoB _),apq]at hz
   simp only[ao2,aoz]at hz
   subst hz
   rw[aox hx.2]
   exact⟨hx.1,rfl⟩
  ·rw[aoC (by omega)]at hz;cases hz
 have ht:(l++[x]).take (l++[x]).length=l++[x]:=aoQ
 have MZ:∀k,k<l.length→(l++[x]).getD k 0=l.getD k 0:=fun k hk=>by rw[aou,aoF hk,aou]
 have MU:∀k:Nat,1≤k→k<l.length+1→pa 2 k≠l.length:=fun k h1 h2=>by have:=cH dL h1;omega
 refine(rI m1 agh (j:=l.length) (mm:=(l++[x]).length) (by omega) (aoB _) (fun z hz=>?_) (by
  rw[ht]
  refine⟨fun k h1 h2 h3 h4=>?_,fun k h1 h2 h3 h4=>absurd h3 (MU k h1 (by omega))⟩
  have:=cH dL h1
  rw[MZ k (by omega),MZ _ (by omega)]
  exact hh k h1 (by omega)) (fun k h1 h2 h3=>absurd h3 (MU k h1 (by rw[ht]at h2;omega)))).mono ?_
 ·rcases aoL.1 hz with h|h
  ·exact bE z h
  ·rw[aoH]at h;rw[h];exact agf
 rintro _ H2 ⟨rfl,l',lW,q,g,fy,hq,Wl⟩
 have Ku:=g.len
 rw[←Ku,aoQ]at fy
 refine vs ?_
 refine⟨rfl,dT,l',lW,q,g.je,g.ok,fy,fun z=>?_,by omega,by rw[g.Mi,aot],fun z hz h1 h2=>?_,hq,fun h=>Wl (by omega),(e1.mono fun z _ hz=>.inr hz).k9 g.ext (fun z hzl hz=>?_),iN⟩
 ·rw[g.mem z,aoL,aoH]
  exact Or.comm
 ·rw[g.off z hz (fun h=>by rcases aoL.1 h with h|h;exact h2 h;exact h1 (aoH.1 h)),aov (by omega)]
 ·rcases hz with hz|hz|hz
  ·exact .inl hz
  ·rcases iN with h| ⟨y,h,h5⟩
   ·exact .inr (.inl (h▸hz))
   ·rw[h]at hz;injection hz with hz;omega
  ·exact .inr (.inr (.inl hz))
theorem HW(m:gE H n c C rv r fp fa st w l at_)(lC:mr l at_){i:Nat}(hi:i<l.length)(bE:∀z∈l,cU w.cs z)(hA:dG (aN w) 2 l i):
  af Tryz.prog uc [pv r,i64 i] H fun v H'=>ar (v= .tuple [].toArray∧∃ (l' lW:List Int) (q:Nat),nA n c C rv r fp fa st w l at_ l.length H H' l' lW q∧eI (aN w) 2 l'∧q≤2*kG 2 ((l.length:Int) - 1)):=by
 have jx:=m.ll
 have ht:l.take l.length=l:=aoQ
 refine aZ ut ?_
 refine vs ?_
 refine gw.mono (K:=fun v H'=>v=i64 l.length∧H=H') ⟨_,_,gJ,ptr r,rfl,br (by kernel_rfl),oQ m⟩ ?_
 rintro _ _ ⟨rfl,rfl⟩
 refine vs ?_
 refine(uS m lC hi (aoB _) bE (by rw[ht];exact hA)).mono ?_
 rintro _ H1 ⟨b,l1,HU,q1,rfl,g1,V7,hT,hF⟩
 have rQ:=g1.len
 cases b with
 |true=>
  have h:=hT rfl
  rw[←rQ,aoQ]at h
  refine vs ?_
  exact⟨rfl,l1,HU,q1,g1,h,by omega⟩
 |false=>
  obtain⟨e1,e2,hB⟩:=hF rfl
  subst e1 e2
  refine vs ?_
  have hm:=(kH dL ((l1.length:Int) - 1).toNat (i:Int) ((l1.length:Int) - 1) (aoB _) (by omega))
  refine(rI g1.je g1.ok (j:=i) (mm:=l1.length) hi (aoB _) bE (by rw[ht];exact hA) hB).mono ?_
  rintro _ H2 ⟨rfl,l2,ZN,q2,g2,fy,OA,_⟩
  have sE:=g2.len
  rw[←sE,aoQ]at fy
  refine vs ?_
  refine⟨rfl,l2,ZN,q1+q2,⟨?_,g2.ok,g2.mem,g2.len,g2.drop,g2.Mi,g2.off,g1.ext.trans g2.ext⟩,fy,by omega⟩
  rw[show min (st+((q1+q2:Nat):Int)) 4611686018427387904=min (min (st+(q1:Int)) 4611686018427387904+(q2:Int)) 4611686018427387904 by omega]
  exact g2.je
end
end Go.Proofs.YthpjfeolagohkaaGreat

namespace Go.Proofs.YthpjfeolagohkaaGreat
open Go Go.Vc
theorem eI.JZ{lt lt':Int→Int→Bool}{l:List Int}(h:eI lt 2 l)(hfg:∀z∈l,∀y∈l,lt z y=lt' z y):eI lt' 2 l:=by
 intro j h1 h2
 have hp:=cH dL h1
 have e:∀k,k<l.length→l.getD k 0∈l:=fun k hk=>by
  rw[aou,aop hk];exact aqj hk
 rw[←hfg _ (e j h2) _ (e _ (show pa 2 j<l.length by omega))]
 exact h j h1 h2
theorem J0{l at_:List Int}(h:mr l at_){x:Int}(hx:l[l.length - 1]? =some x)(z:Int):z∈l.dropLast↔z∈l∧z≠x:=by
 have hl:=(aoq.1 hx).1
 rw[ap2]
 constructor
 ·intro hz
  obtain⟨k,hk⟩:=aoN hz
  rw[aoU]at hk
  split at hk
  ·refine⟨aow hk,fun e=>?_⟩
   subst e
   have:=h.F3 hk hx
   omega
  ·cases hk
 ·rintro⟨hz,aQ⟩
  obtain⟨k,hk⟩:=aoN hz
  have ZO:=(aoq.1 hk).1
  have:k≠l.length - 1:=fun e=>by rw[e,hx]at hk;injection hk with hk;exact aQ hk.symm
  exact aow (i:=k) (by rw[aoT (by omega)];exact hk)
theorem mr.dropLast{l at_:List Int}(h:mr l at_):mr l.dropLast at_:=fun i x hx=>by
 rw[ap2,aoU]at hx
 split at hx
 ·exact h i x hx
 ·cases hx
section
variable {H : Hp} {n c : Nat} {C : Nat → Prop} {rv : Value} {r : Nat} {fp fa : Option Nat} {st : Int} {w : Nw} {l at_ : List Int}
structure Out(n c:Nat)(C:Nat→Prop)(rv:Value)(r:Nat)(fp fa:Option Nat)(st:Int)(w:Nw)(l at_:List Int)(x:Int)(H H':Hp)(l' lW:List Int)(q:Nat):Prop where
 je:gE H' n c C rv r fp fa (min (st+q) 4611686018427387904) w l' lW
 ok:mr l' lW
 heap:eI (aN w) 2 l'
 mem:∀z,z∈l'↔z∈l∧z≠x
 len:l'.length+1=l.length
 Mi:lW.length=at_.length
 off:∀z:Int,0≤z→z∉l→lW[z.toNat]? =at_[z.toNat]?
 ext:ag (fun z=>C z∨fp=some z∨fa=some z∨z=r) H H'
theorem O6{H1:Hp}{l1 HU:List Int}{mm q:Nat}{x:Int}(h:nA n c C rv r fp fa st w l at_ mm H H1 l1 HU q)(hl:0<l.length)(hx:l1[l1.length - 1]? =some x)(hh:eI (aN w) 2 (l1.take (l.length - 1))):
  gw Tryz.prog (pv r) "Pop" [] H1 fun v H'=>∃l' lW,Out n c C rv r fp fa st w l at_ x H H' l' lW q:=by
 have aR:=h.len
 refine⟨_,_,rY,ptr r,rfl,br (by kernel_rfl),(HV h.je (by omega)).mono ?_⟩
 rintro v H2 ⟨_,m2,e2⟩
 refine⟨l1.dropLast,HU,m2,h.ok.dropLast,?_,fun z=>by rw[J0 h.ok hx z,h.mem z],by rw[ao1];omega,h.Mi,h.off,(h.ext.mono fun z _ hz=>?_).trans (e2.mono fun z _ hz=>.inr (.inr (.inr hz)))⟩
 ·rw[ap2,aR];exact hh
 ·rcases hz with hz|hz|hz
  ·exact .inl hz
  ·exact .inr (.inl hz)
  ·exact .inr (.inr (.inl hz))
theorem C2(m:gE H n c C rv r fp fa st w l at_)(lC:mr l at_){i:Nat}(hi:i<l.length)(bE:∀z∈l,cU w.cs z)(hh:eI (aN w) 2 l):
  af Tryz.prog pD [pv r,i64 i] H fun v H'=>ar (∃ (l' lW:List Int) (q:Nat),Out n c C rv r fp fa st w l at_ (l.getD i 0) H H' l' lW q∧q≤2*kG 2 ((l.length:Int) - 1)):=by
 have jx:=m.ll
 refine aZ pO ?_
 refine vs ?_
 refine gw.mono (K:=fun v H'=>v=i64 l.length∧H=H') ⟨_,_,gJ,ptr r,rfl,br (by kernel_rfl),oQ m⟩ ?_
 rintro _ _ ⟨rfl,rfl⟩
 refine vs ?_
 rw[show IntKind.i64.wrap ((l.length:Int) - 1)=((l.length - 1:Nat):Int) by rw[wrap64 (by omega) (by omega)];omega]
 have h0:=nA.refl m lC l.length
 have hgi:l[i]? =some (l.getD i 0):=by rw[aou,aop hi];rfl
 refine ai.dec (fun he=>?_) (fun he=>?_)
 ·refine vs ?_
  have qw:i=l.length - 1:=by omega
  refine gw.mono (O6 h0 (by omega) (x:=l.getD i 0) (by rw[←qw];exact hgi) (fun j h1 h2=>by
   rw[aoS]at h2
   have:=cH dL h1
   rw[getD_take (by omega),getD_take (by omega)]
   exact hh j h1 (by omega))) ?_
  rintro v H2 ⟨l',lW,o⟩
  refine vs ?_
  exact⟨l',lW,0,o,by omega⟩
 ·refine vs ?_
  have EG:i<l.length - 1:=by omega
  refine gw.mono (h0.swap (aoB _) (i:=i) (j:=l.length - 1) hi (by omega) (by omega)) ?_
  rintro _ H1 ⟨rfl,h1⟩
  refine vs ?_
  have hg:=Bi (l:=l) (i:=i) (j:=l.length - 1) hi (by omega)
  have rQ:=h1.len
  have hA1:dG (aN w) 2 ((swp l i (l.length - 1)).take (l.length - 1)) i:=by
   have hb:=hh.but (ap w) dL i
   refine⟨fun j h2 h3 h4 h5=>?_,fun j h2 h3 h4 h5=>?_⟩
   ·rw[aoS]at h3
    have:=cH dL h2
    rw[getD_take (by omega),getD_take (by omega),hg,hg,if_neg (by omega),if_neg h4,if_neg (by omega),if_neg h5]
    exact hb.1 j h2 (by omega) h4 h5
   ·rw[aoS]at h3
    have:=cH dL h2
    have:=cH dL h5
    rw[getD_take (by omega),getD_take (by omega),hg,hg,if_neg (by omega),if_neg (by omega),if_neg (by omega),if_neg (by omega)]
    exact hb.2 j h2 (by omega) h4 h5
  have J1:∀z∈swp l i (l.length - 1),cU w.cs z:=fun z hz=>bE z ((h1.mem z).1 hz)
  have kD:(swp l i (l.length - 1))[l.length - 1]? =some (l.getD i 0):=by rw[mq hi (by omega),if_pos rfl];exact hgi
  have fin:∀ {H2:Hp} {l2 ZN:List Int} {q:Nat},nA n c C rv r fp fa (min (st+((0:Nat):Int)) 4611686018427387904) w (swp l i (l.length - 1)) (Bj l at_ i (l.length - 1)) (l.length - 1) H1 H2 l2 ZN q→eI (aN w) 2 (l2.take (l.length - 1))→
    gw Tryz.prog (pv r) "Pop" [] H2 fun v H'=>∃l' lW,Out n c C rv r fp fa st w l at_ (l.getD i 0) H H' l' lW q:=by
   intro H2 l2 ZN q g fy
   have ma:=m.cells.st
   have g':nA n c C rv r fp fa st w l at_ l.length H H2 l2 ZN q:=by
    refine⟨?_,g.ok,fun z=>by rw[g.mem z,h1.mem z],g.len.trans rQ,?_,g.Mi.trans h1.Mi,fun z hz hm=>?_,h1.ext.trans g.ext⟩
    ·have:=g.je
     rw[show min (min (st+((0:Nat):Int)) 4611686018427387904+(q:Int)) 4611686018427387904=min (st+(q:Int)) 4611686018427387904 by omega]at this
     exact this
    ·rw[aqa (by rw[g.len];omega),aqa (aoB _)]
    ·rw[g.off z hz (fun h=>hm ((h1.mem z).1 h))];exact h1.off z hz hm
   refine O6 g' (by omega) ?_ fy
   have hd:=g.drop
   have h2:(l2.drop (l.length - 1))[0]? =((swp l i (l.length - 1)).drop (l.length - 1))[0]? :=by rw[hd]
   rw[aoX,aoX,Nat.add_zero,kD]at h2
   rw[g.len,rQ]
   exact h2
  have F4:=kH dL ((l.length:Int) - 1).toNat (((l.length - 1:Nat):Int) - 1) ((l.length:Int) - 1) (aoB _) (by omega)
  refine(uS h1.je h1.ok (i0:=i) (mm:=l.length - 1) EG (by rw[rQ];omega) J1 hA1).mono ?_
  rintro _ H2 ⟨b,l2,ZN,q1,rfl,g2,V7,hT,hF⟩
  cases b with
  |true=>
   refine vs ?_
   refine gw.mono (fin g2 (hT rfl)) ?_
   rintro v H3 ⟨l',lW,o⟩
   refine vs ?_
   exact⟨l',lW,q1,o,by omega⟩
  |false=>
   obtain⟨e1,e2,hB⟩:=hF rfl
   subst e1 e2
   have hmi:=kH dL (((l.length - 1:Nat):Int) - 1).toNat (i:Int) (((l.length - 1:Nat):Int) - 1) (aoB _) (by omega)
   refine vs ?_
   refine(rI g2.je g2.ok (j:=i) (mm:=l.length - 1) EG (by rw[rQ];omega) J1 hA1 hB).mono ?_
   rintro _ H3 ⟨rfl,l3,at3,q2,g3,fy,OA,_⟩
   refine vs ?_
   have g23:nA n c C rv r fp fa (min (st+((0:Nat):Int)) 4611686018427387904) w (swp l i (l.length - 1)) (Bj l at_ i (l.length - 1)) (l.length - 1) H1 H3 l3 at3 (q1+q2):=by
    refine⟨?_,g3.ok,g3.mem,g3.len,g3.drop,g3.Mi,g3.off,g2.ext.trans g3.ext⟩
    have:=g3.je
    rw[show min (min (min (st+((0:Nat):Int)) 4611686018427387904+(q1:Int)) 4611686018427387904+(q2:Int)) 4611686018427387904=min (min (st+((0:Nat):Int)) 4611686018427387904+((q1+q2:Nat):Int)) 4611686018427387904 by omega]at this
    exact this
   refine gw.mono (fin g23 fy) ?_
   rintro v H4 ⟨l',lW,o⟩
   refine vs ?_
   exact⟨l',lW,q1+q2,o,by omega⟩
end
end Go.Proofs.YthpjfeolagohkaaGreat
