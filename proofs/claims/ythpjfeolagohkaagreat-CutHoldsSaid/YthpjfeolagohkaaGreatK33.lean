/- Texts put behind each other. -/
import Derived.Test.YthpjfeolagohkaaGreatK98
import Derived.Test.YthpjfeolagohkaaGreatK12
import Derived.Test.YthpjfeolagohkaaGreatK28
import Derived.Test.YthpjfeolagohkaaGreatK32
set_option maxRecDepth 100000
set_option maxHeartbeats 8000000
set_option linter.unusedVariables false
set_option linter.unusedSimpArgs false
namespace Go.Proofs.YthpjfeolagohkaaGreat
open Go Go.Vc
theorem Sl.at_{H:Hp}{v:Value}{n:Nat}{xs:List Value}{fp:Option Nat}(h:Sl H 1 v n xs fp){i:Nat}{x:Value}(hx:xs[i]? =some x):∃b cc lb,v= .slice (some ⟨b,0,none⟩) n cc∧fp=some b∧H.own b=some lb∧lb[i]? =some x∧i<n∧n≤lb.length:=by
 have hi:=(aqc.1 hx).1
 obtain⟨hl,hm⟩:=id h
 cases fp with
 |none=>obtain⟨e,_⟩:=hm;omega
 |some f=>
  obtain⟨lb,cc,hv,ho,h1,h2,h3⟩:=hm
  refine⟨f,cc,lb,hv,rfl,ho,?_,by omega,by omega⟩
  rw[←h3,aqF (by omega)]at hx
  exact hx
structure gY(H:Hp)(n c:Nat)(C:Nat→Prop)(rv:Value)(r:Nat)(fp fa:Option Nat)(st:Int)(w:Nw)(l at_:List Int):Prop where
 own:∃av,H.own n=some [ptr c,rv,av]∧Sl H 1 av at_.length (at_.map i64) fa
 cells:ba H c C st w
 jG:∃sv,H.own r=some [ptr n,sv]∧Sl H 1 sv l.length (l.map i64) fp
 nC:¬C n
 rC:¬C r
 rn:r≠n
 ya:∀b,fp=some b→¬C b∧b≠n∧b≠r∧fa≠some b
 KQ:∀b,fa=some b→¬C b∧b≠n∧b≠r
 ll:l.length≤65536
abbrev pv(r:Nat):Value:=.iface 338 (ptr r)
theorem sT{l:List Int}{i:Nat}{x:Int}(h:l[i]? =some x):l.getD i 0=x:=by rw[aqf,h];rfl
theorem getD_take{l:List Int}{k m:Nat}(h:k<m):(l.take m).getD k 0=l.getD k 0:=by rw[aqf,aqf,aqF h]
section
variable {H : Hp} {n c : Nat} {C : Nat → Prop} {rv : Value} {r : Nat} {fp fa : Option Nat} {st : Int} {w : Nw} {l at_ : List Int}
theorem pS(m:gY H n c C rv r fp fa st w l at_):af Tryz.prog ic [ptr r] H fun v H'=>ax (v=i64 l.length∧H=H'):=by
 obtain⟨sv,ho,hs⟩:=m.jG
 obtain⟨a,cc,rfl⟩:=db.SR hs.rd
 refine bm EZ ?_
 refine v1 (ae ho) ?_
 exact⟨rfl,rfl⟩
theorem Hb(m:gY H n c C rv r fp fa st w l at_){i j:Nat}(hi:i<l.length)(hj:j<l.length)(bH:∀z∈l,df w.cs z):af Tryz.prog qw [ptr r,i64 i,i64 j] H fun v H'=>ax (
  v= .bool (aQ w (l.getD i 0) (l.getD j 0))∧gY H' n c C rv r fp fa (min (st+1) 4611686018427387904) w l at_∧ag C H H'):=by
 obtain⟨av,hn,ha⟩:=m.own
 obtain⟨sv,ho,hs⟩:=m.jG
 obtain⟨x,hx⟩:∃x,l[i]? =some x:=⟨_,aqb hi⟩
 obtain⟨y,hy⟩:∃y,l[j]? =some y:=⟨_,aqb hj⟩
 obtain⟨b,cc,lb,rfl,eB,hb,mI,_,_⟩:=Sl.at_ hs (i:=i) (x:=i64 x) (by simp[hx])
 obtain⟨b',YR,Ys,hv,ix,lI,hby,_,_⟩:=Sl.at_ hs (i:=j) (x:=i64 y) (by simp[hy])
 rw[eB]at ix
 injection ix with ix
 subst ix
 rw[hb]at lI
 injection lI with lI
 subst lI
 have o8:=m.ll
 refine bm Dp ?_
 refine v2 (ae ho) (ae hn) ?_
 refine⟨by omega,?_⟩
 refine v5 (ae hb) aqd mI (ae ho) Int.toNat_natCast ?_
 refine⟨by omega,?_⟩
 refine v4 (ae hb) aqd hby Int.toNat_natCast ?_
 have h1:=bH x (aqg hx)
 have h2:=bH y (aqg hy)
 refine(jr m.cells x y).mono ?_
 rintro _ H1 ⟨rfl,c1,e1⟩
 refine vs ?_
 have uO:=m.cells.st
 rw[if_pos ⟨h1,h2⟩,show gf st 1=min (st+1) 4611686018427387904 by unfold gf;rw[if_neg (by omega)];split<;>omega]at c1
 refine⟨by rw[sT hx,sT hy,DK h1 h2];rfl,⟨⟨av,e1.own hn m.nC,ha.ext e1 (fun b hb=>(m.KQ b hb).1)⟩,c1,⟨_,e1.own ho m.rC,hs.ext e1 (fun b hb=>(m.ya b hb).1)⟩,m.nC,m.rC,m.rn,m.ya,m.KQ,m.ll⟩,e1⟩
theorem Hc(m:gY H n c C rv r fp fa st w l at_)(wO:mX l at_){i j:Nat}(hi:i<l.length)(hj:j<l.length)(Ll:i≠j):af Tryz.prog qA [ptr r,i64 i,i64 j] H fun v H'=>ax (
  v= .tuple [].toArray∧gY H' n c C rv r fp fa st w (swp l i j) (Cg l at_ i j)∧ag (fun z=>fp=some z∨fa=some z) H H'):=by
 obtain⟨av,hn,ha⟩:=m.own
 obtain⟨sv,ho,hs⟩:=m.jG
 obtain⟨x,hx⟩:∃x,l[i]? =some x:=⟨_,aqb hi⟩
 obtain⟨y,hy⟩:∃y,l[j]? =some y:=⟨_,aqb hj⟩
 obtain⟨b,cc,lb,rfl,rfl,hb,mI,_,FX⟩:=Sl.at_ hs (i:=i) (x:=i64 x) (by simp[hx])
 obtain⟨b',YR,Ys,hv,ix,lI,hby,_,_⟩:=Sl.at_ hs (i:=j) (x:=i64 y) (by simp[hy])
 injection ix with ix
 subst ix
 rw[hb]at lI
 injection lI with lI
 subst lI
 obtain⟨gB,uH⟩:=wO i x hx
 obtain⟨hy0,hay⟩:=wO j y hy
 have XD:=(aqc.1 uH).1
 have hyl:=(aqc.1 hay).1
 obtain⟨f,fc,la,rfl,rfl,hf,VE,_,hla⟩:=Sl.at_ ha (i:=x.toNat) (x:=i64 i) (by simp[uH])
 have o8:=m.ll
 obtain⟨d1,d2,d3,d4⟩:=m.ya b rfl
 obtain⟨g1,g2,g3⟩:=m.KQ f rfl
 have XA:b≠f:=fun e=>d4 (by rw[e])
 refine EL Dr ⟨rfl,?_⟩
 refine v2 qQ.eq_1 (ae ho) ?_
 refine⟨by omega,?_⟩
 refine v5 (ae hb) aqd hby (ae ho) Int.toNat_natCast ?_
 refine⟨by omega,?_⟩
 refine v4 (ae hb) aqd mI Int.toNat_natCast ?_
 refine⟨by omega,?_⟩
 refine v3 hb aqd Int.toNat_natCast ?_
 refine⟨by omega,?_⟩
 refine v1 aqa ?_
 refine⟨by omega,?_⟩
 simp(disch:=(first|omega| (simp only[Zs]<;>omega)|fail)) only[go_sem, ↓reduceIte,Zv,ai hb,aqd,Int.toNat_natCast]
 refine⟨by rw[aqe];omega,?_⟩
 refine v1 aqa ?_
 have e1:ag (fun z=>z=b) H (H.wr b ((lb.set i (i64 y)).set j (i64 x))):=(ag.refl (fun z=>z=b) _).wr (fun _=>rfl) _
 have ob:(H.wr b ((lb.set i (i64 y)).set j (i64 x))).own b=some ((lb.set i (i64 y)).set j (i64 x)):=ai hb
 have s1:=(hs.qn hb i (i64 y)).qn (ai hb) j (i64 x)
 rw[To]at s1
 generalize H.wr b ((lb.set i (i64 y)).set j (i64 x))=H1 at*
 have Q4:=e1.own ho (Ne.symm d3)
 have yL:=e1.own hn (Ne.symm d2)
 have hf1:=e1.own hf (Ne.symm XA)
 have R1:=ha.ext e1 (fun z hz h=>by injection hz with hz;exact XA (h.symm.trans hz.symm))
 have c1:=m.cells.ext e1 (fun z hz h=>d1 (h▸hz))
 have gi:((lb.set i (i64 y)).set j (i64 x))[i]? =some (i64 y):=by rw[aqh (Ne.symm Ll),aqi (by omega)]
 have gj:((lb.set i (i64 y)).set j (i64 x))[j]? =some (i64 x):=by rw[aqi (by rw[aqe];omega)]
 refine v4 (ae ho) (ae hn) (ae Q4) (ae yL) ?_
 refine⟨by omega,?_⟩
 refine v6 (ae ob) aqd gi (ae Q4) (ae yL) Int.toNat_natCast ?_
 refine⟨by omega,?_⟩
 refine v4 (ae ob) aqd gj Int.toNat_natCast ?_
 refine⟨by omega,?_⟩
 refine v3 hf1 aqd aqa ?_
 refine⟨by omega,?_⟩
 refine v1 aqa ?_
 refine⟨by omega,?_⟩
 simp(disch:=(first|omega| (simp only[Zs]<;>omega)|fail)) only[go_sem, ↓reduceIte,Zv,ai hf1,aqd,aqa]
 refine⟨by rw[aqe];omega,?_⟩
 refine v1 aqa ?_
 have e2:ag (fun z=>z=f) H1 (H1.wr f ((la.set y.toNat (i64 i)).set x.toNat (i64 j))):=(ag.refl (fun z=>z=f) _).wr (fun _=>rfl) _
 have s2:=(R1.qn hf1 y.toNat (i64 i)).qn (ai hf1) x.toNat (i64 j)
 rw[To]at s2
 have ex:=sT hx
 have ey:=sT hy
 refine⟨rfl,⟨⟨_,e2.own yL (Ne.symm g2),?_⟩,c1.ext e2 (fun z hz h=>g1 (h▸hz)),⟨_,e2.own Q4 (Ne.symm g3),?_⟩,m.nC,m.rC,m.rn,m.ya,m.KQ,by rw[gu];exact m.ll⟩,(e1.mono fun z _ hz=>.inl (by rw[hz])).trans (e2.mono fun z _ hz=>.inr (by rw[hz]))⟩
 ·unfold Cg
  rw[ex,ey,aqe,aqe,aqP,aqP]
  exact s2
 ·have:=s1.ext e2 (fun z hz h=>by injection hz with hz;exact XA (hz.trans h))
  unfold swp
  rw[ex,ey,aqe,aqe,aqP,aqP]
  exact this
end
structure ou(n c:Nat)(C:Nat→Prop)(rv:Value)(r:Nat)(fp fa:Option Nat)(st:Int)(w:Nw)(l at_:List Int)(mm:Nat)(H H':Hp)(l' mJ:List Int)(q:Nat):Prop where
 jG:gY H' n c C rv r fp fa (min (st+q) 4611686018427387904) w l' mJ
 ok:mX l' mJ
 mem:∀z,z∈l'↔z∈l
 len:l'.length=l.length
 drop:l'.drop mm=l.drop mm
 M5:mJ.length=at_.length
 off:∀z:Int,0≤z→z∉l→mJ[z.toNat]? =at_[z.toNat]?
 ext:ag (fun z=>C z∨fp=some z∨fa=some z) H H'
section
variable {H H1 : Hp} {n c : Nat} {C : Nat → Prop} {rv : Value} {r : Nat} {fp fa : Option Nat} {st : Int} {w : Nw} {l at_ l1 IT : List Int} {mm q : Nat}
theorem ou.refl(m:gY H n c C rv r fp fa st w l at_)(wO:mX l at_)(mm:Nat):ou n c C rv r fp fa st w l at_ mm H H l at_ 0:=
 ⟨by have:=m.cells.st;rw[show min (st+((0:Nat):Int)) 4611686018427387904=st by omega];exact m,wO,fun _=>Iff.rfl,rfl,rfl,rfl,fun _ _ _=>rfl,ag.refl _ _⟩
theorem ou.less(h:ou n c C rv r fp fa st w l at_ mm H H1 l1 IT q)(bH:∀z∈l,df w.cs z){i j:Nat}(hi:i<l.length)(hj:j<l.length):gQ Tryz.prog (pv r) "Less" [i64 i,i64 j] H1 fun v H2=>
  v= .bool (aQ w (l1.getD i 0) (l1.getD j 0))∧ou n c C rv r fp fa st w l at_ mm H H2 l1 IT (q+1):=by
 have hl:=h.len
 refine⟨_,_,qw,ptr r,rfl,bF (by kernel_rfl),(Hb h.jG (by omega) (by omega) (fun z hz=>bH z ((h.mem z).1 hz))).mono ?_⟩
 rintro v H2 ⟨hv,m2,e2⟩
 refine⟨hv,?_,h.ok,h.mem,h.len,h.drop,h.M5,h.off,h.ext.trans (e2.mono fun z _ hz=>.inl hz)⟩
 rw[show min (st+((q+1:Nat):Int)) 4611686018427387904=min (min (st+(q:Int)) 4611686018427387904+1) 4611686018427387904 by omega]
 exact m2
theorem ou.swap(h:ou n c C rv r fp fa st w l at_ mm H H1 l1 IT q)(hm:mm≤l.length){i j:Nat}(hi:i<mm)(hj:j<mm)(Ll:i≠j):gQ Tryz.prog (pv r) "Swap" [i64 i,i64 j] H1 fun v H2=>
  v= .tuple [].toArray∧ou n c C rv r fp fa st w l at_ mm H H2 (swp l1 i j) (Cg l1 IT i j) q:=by
 have hl:=h.len
 refine⟨_,_,qA,ptr r,rfl,bF (by kernel_rfl),(Hc h.jG h.ok (i:=i) (j:=j) (by omega) (by omega) Ll).mono ?_⟩
 rintro v H2 ⟨hv,m2,e2⟩
 obtain⟨a1,a2,a3⟩:=h.ok.swp (i:=i) (j:=j) (by omega) (by omega) Ll
 refine⟨hv,m2,a1,fun z=>by rw[VD (by omega) (by omega),h.mem z],by rw[gu];exact h.len,by rw[Tm hi hj (by omega)];exact h.drop,a2.trans h.M5,fun z hz hm=>?_,h.ext.trans (e2.mono fun z _ hz=>.inr hz)⟩
 rw[a3 z hz (fun h2=>hm ((h.mem z).1 h2))]
 exact h.off z hz hm
theorem sU(m:gY H n c C rv r fp fa st w l at_)(wO:mX l at_){j mm:Nat}(hj:j<mm)(hm:mm≤l.length)(bH:∀z∈l,df w.cs z)(hA:dY (aQ w) 2 (l.take mm) j)
  (hB:∀k,1≤k→k< (l.take mm).length→pa 2 k=j→aQ w ((l.take mm).getD k 0) ((l.take mm).getD j 0)=false):
  af Tryz.prog xk [pv r,i64 j] H fun v H'=>ax (v= .tuple [].toArray∧∃ (l' mJ:List Int) (q:Nat),ou n c C rv r fp fa st w l at_ mm H H' l' mJ q∧fk (aQ w) 2 (l'.take mm)∧q≤lw 2 j∧(1≤j→0<q)):=by
 have ho:=aw w
 have o8:=m.ll
 refine bm xS ?_
 refine vs ?_
 refine aY.intro (fun k env H'=>∃ (j':Nat) (l1 IT:List Int) (q:Nat),env=[(0,pv r),(1,i64 j')]∧k=j'∧j'<mm∧ou n c C rv r fp fa st w l at_ mm H H' l1 IT q∧dY (aQ w) 2 (l1.take mm) j'∧
   (∀k,1≤k→k< (l1.take mm).length→pa 2 k=j'→aQ w ((l1.take mm).getD k 0) ((l1.take mm).getD j' 0)=false)∧q+lw 2 j'≤lw 2 j∧(j'≠j→0<q)) j
  ⟨j,l,at_,0,rfl,rfl,hj,ou.refl m wO mm,hA,hB,by omega,fun h=>absurd rfl h⟩ ?_
 clear hA hB
 rintro j' env H1 ⟨_,l1,IT,q,rfl,rfl,hj',h1,hA,hB,hq,WN⟩
 have uF:=h1.len
 have AO:=pa2 j'
 have ahJ:IntKind.i64.wrap ((IntKind.i64.wrap ((j':Int) - 1)).tdiv 2)=((pa 2 j':Nat):Int):=by
  rw[wrap64 (n:=(j':Int) - 1) (by omega) (by omega),AO]
  split
  ·rename_i h;subst h;rfl
  ·rw[Int.tdiv_eq_ediv_of_nonneg (by omega),wrap64 (by omega) (by omega)]
 simp(disch:=(first|omega| (simp only[Zs]<;>omega)|fail)) only[go_sem, ↓reduceIte,Zv,if_neg (show¬ ((2:Int)=0) by decide)]
 rw[ahJ]
 have Nt:(l1.take mm).length=mm:=by rw[aqO];omega
 by_cases h0:j'=0
 ·refine ar.cP (aqp (by rw[AO,if_pos h0,h0];rfl)) ?_
  refine vs ?_
  exact⟨rfl,l1,IT,q,h1,hA.heap hB (fun h=>by omega),by omega,fun h=>WN (by omega)⟩
 ·have RO:=cQ eo (j:=j') (by omega)
  refine ar.aW (aqA (by omega)) ?_
  refine vs ?_
  refine gQ.mono (h1.less bH (i:=j') (j:=pa 2 j') (by omega) (by omega)) ?_
  rintro _ H2 ⟨rfl,h2⟩
  have CF:lw 2 (j':Int)=lw 2 ((pa 2 j':Nat):Int)+1:=by
   obtain⟨p,hp,Ul,p0,p1⟩:=oh eo (i:=(j':Int)) (by omega)
   rw[Int.toNat_natCast]at Ul
   rw[qZ hp,show p=((pa 2 j':Nat):Int) by omega]
  refine vs ?_
  cases aN:aQ w (l1.getD j' 0) (l1.getD (pa 2 j') 0)with
  |false=>
   refine vs ?_
   refine⟨rfl,l1,IT,q+1,h2,hA.heap hB (fun _ _=>?_),by omega,fun _=>by omega⟩
   rw[getD_take hj',getD_take (by omega)]
   exact aN
  |true=>
   refine vs ?_
   refine gQ.mono (h2.swap hm (i:=pa 2 j') (j:=j') (by omega) hj' (by omega)) ?_
   rintro _ H3 ⟨rfl,h3⟩
   refine vs ?_
   obtain⟨g1,g2⟩:=YQ ho (l:=l1.take mm) (i:=j') (by omega) (by omega) hA hB (by rw[getD_take hj',getD_take (by omega)];exact aN)
   have ht:(swp l1 (pa 2 j') j').take mm=swp (l1.take mm) (pa 2 j') j':=M4 (by omega) hj' (by omega)
   exact⟨pa 2 j',by omega,pa 2 j',_,_,q+1,rfl,rfl,by omega,h3,by rw[ht];exact g1,by rw[ht];exact g2,by omega,fun _=>by omega⟩
theorem vR(m:gY H n c C rv r fp fa st w l at_)(wO:mX l at_){i0 mm:Nat}(hi:i0<mm)(hm:mm≤l.length)(bH:∀z∈l,df w.cs z)(hA:dY (aQ w) 2 (l.take mm) i0):
  af Tryz.prog ue [pv r,i64 i0,i64 mm] H fun v H'=>ax (∃ (b:Bool) (l' mJ:List Int) (q:Nat),v= .bool b∧ou n c C rv r fp fa st w l at_ mm H H' l' mJ q∧q+2*lw 2 i0≤2*lw 2 ((mm:Int) - 1)∧
   (b=true→fk (aQ w) 2 (l'.take mm))∧(b=false→l'=l∧mJ=at_∧∀k,1≤k→k< (l.take mm).length→pa 2 k=i0→aQ w ((l.take mm).getD k 0) ((l.take mm).getD i0 0)=false)):=by
 have ho:=aw w
 have o8:=m.ll
 refine EL uv ⟨rfl,?_⟩
 refine v1 jV.eq_1 ?_
 have GX:∀k:Nat,k<mm→lw 2 (k:Int)≤lw 2 ((mm:Int) - 1):=fun k hk=>ly eo ((mm:Int) - 1).toNat _ _ (aqm _) (by omega)
 refine aY.intro (fun k env H'=>∃ (i:Nat) (l1 IT:List Int) (q:Nat),env=[(0,pv r),(1,i64 i0),(2,i64 mm),(7,i64 i)]∧k=mm - i∧i<mm∧i0≤i∧ou n c C rv r fp fa st w l at_ mm H H' l1 IT q∧dY (aQ w) 2 (l1.take mm) i∧
   q+2*lw 2 i0≤2*lw 2 i∧(i0<i→aQ w ((l1.take mm).getD i 0) ((l1.take mm).getD (pa 2 i) 0)=false)∧(i=i0→l1=l∧IT=at_)) (mm - i0)
  ⟨i0,l,at_,0,rfl,rfl,hi,aqm _,ou.refl m wO mm,hA,by omega,fun h=>by omega,fun _=>⟨rfl,rfl⟩⟩ ?_
 clear hA
 rintro k env H1 ⟨i,l1,IT,q,rfl,rfl,him,GR,h1,hA,hq,hD,Eh⟩
 have uF:=h1.len
 have Nt:(l1.take mm).length=mm:=by rw[aqO];omega
 have stay:∀ (H2:Hp) (q':Nat),ou n c C rv r fp fa st w l at_ mm H H2 l1 IT q'→q'+2*lw 2 i0≤2*lw 2 ((mm:Int) - 1)→(∀k,1≤k→k< (l1.take mm).length→pa 2 k=i→aQ w ((l1.take mm).getD k 0) ((l1.take mm).getD i 0)=false)→
   ∃ (b:Bool) (l' mJ:List Int) (q:Nat),Value.bool (decide ((i:Int)>i0))= .bool b∧ou n c C rv r fp fa st w l at_ mm H H2 l' mJ q∧q+2*lw 2 i0≤2*lw 2 ((mm:Int) - 1)∧
    (b=true→fk (aQ w) 2 (l'.take mm))∧(b=false→l'=l∧mJ=at_∧∀k,1≤k→k< (l.take mm).length→pa 2 k=i0→aQ w ((l.take mm).getD k 0) ((l.take mm).getD i0 0)=false):=by
  intro H2 q' h2 hq' hB
  refine⟨_,l1,IT,q',rfl,h2,hq',fun h=>?_,fun h=>?_⟩
  ·have:=of_decide_eq_true h
   exact hA.heap hB (fun _ _=>hD (by omega))
  ·have:=of_decide_eq_false h
   have e:i=i0:=by omega
   obtain⟨e1,e2⟩:=Eh e
   subst e1 e2 e
   exact⟨rfl,rfl,hB⟩
 have QZ:∀k:Nat,1≤k→(pa 2 k=i↔(2*i+1≤k∧k≤2*i+2)):=fun k hk=>by
  have:=SU eo (i:=i) hk
  rw[this]
  omega
 refine vs ?_
 have hj1:IntKind.i64.wrap (IntKind.i64.wrap (2*(i:Int))+1)=((2*i+1:Nat):Int):=by
  rw[wrap64 (n:=2*(i:Int)) (by omega) (by omega),wrap64 (by omega) (by omega)];omega
 rw[hj1]
 refine ar.dec (fun Nv=>?_) (fun Nv=>?_)
 ·refine vs ?_
  exact stay H1 q h1 (by have:=GX i him;omega) (fun k h2 h3 h4=>by have:=(QZ k h2).1 h4;omega)
 refine vs ?_
 refine ar.aW (aqA (by omega)) ?_
 refine vs ?_
 have sI:2*i+1<mm:=by omega
 refine uU (fun e H2=>e.find 0=some (pv r)∧e.find 1=some (i64 i0)∧e.find 2=some (i64 mm)∧e.find 7=some (i64 i)∧∃ (b:Nat) (q':Nat),e.find 9=some (i64 b)∧ou n c C rv r fp fa st w l at_ mm H H2 l1 IT q'∧q'≤q+1∧1≤b∧b<mm∧pa 2 b=i∧
   ∀k,1≤k→k< (l1.take mm).length→pa 2 k=i→aQ w ((l1.take mm).getD k 0) ((l1.take mm).getD b 0)=false) ?_ ?_
 ·have No:pa 2 (2*i+1)=i:=(QZ _ (by omega)).2 ⟨by omega,by omega⟩
  refine vs ?_
  have ie:IntKind.i64.wrap (((2*i+1:Nat):Int)+1)=((2*i+2:Nat):Int):=by rw[wrap64 (by omega) (by omega)];omega
  rw[ie]
  refine ar.dec (fun h2=>?_) (fun h2=>?_)
  ·have AO:pa 2 (2*i+2)=i:=(QZ _ (by omega)).2 ⟨by omega,by omega⟩
   refine vs ?_
   refine gQ.mono (h1.less bH (i:=2*i+2) (j:=2*i+1) (by omega) (by omega)) ?_
   rintro _ H2 ⟨rfl,g2⟩
   refine vs ?_
   cases aN:aQ w (l1.getD (2*i+2) 0) (l1.getD (2*i+1) 0)with
   |false=>
    refine vs ?_
    refine⟨trivial,trivial,trivial,trivial,2*i+1,q+1,rfl,g2,by omega,by omega,sI,No,fun k h3 h4 h5=>?_⟩
    have h6:=(QZ k h3).1 h5
    rw[getD_take (by omega),getD_take (by omega)]
    by_cases h7:k=2*i+1
    ·rw[h7];exact ho.Es _
    ·rw[show k=2*i+2 by omega];exact aN
   |true=>
    refine vs ?_
    refine⟨trivial,trivial,trivial,trivial,2*i+2,q+1,rfl,g2,by omega,by omega,by omega,AO,fun k h3 h4 h5=>?_⟩
    have h6:=(QZ k h3).1 h5
    rw[getD_take (by omega),getD_take (by omega)]
    by_cases h7:k=2*i+2
    ·rw[h7];exact ho.Es _
    ·rw[show k=2*i+1 by omega];exact ho.asym aN
  ·refine vs ?_
   refine⟨trivial,trivial,trivial,trivial,2*i+1,q,rfl,h1,by omega,by omega,sI,No,fun k h3 h4 h5=>?_⟩
   have h6:=(QZ k h3).1 h5
   rw[show k=2*i+1 by omega]
   exact ho.Es _
 rintro e H2 ⟨e0,e1,e2,e7,b,q',e9,h2,hq',Nq,F1,QX,sO⟩
 refine v5 e0 e1 e2 e7 e9 ?_
 refine gQ.mono (h2.less bH (i:=b) (j:=i) (by omega) (by omega)) ?_
 rintro _ H3 ⟨rfl,h3⟩
 have CF:lw 2 (b:Int)=lw 2 (i:Int)+1:=by
  obtain⟨p,hp,Ul,p0,p1⟩:=oh eo (i:=(b:Int)) (by omega)
  rw[Int.toNat_natCast,QX]at Ul
  rw[qZ hp,show p=(i:Int) by omega]
 have hib:=cQ eo Nq
 refine v5 e0 e1 e2 e7 e9 ?_
 cases aN:aQ w (l1.getD b 0) (l1.getD i 0)with
 |false=>
  refine v5 e0 e1 e2 e7 e9 ?_
  refine stay H3 (q'+1) h3 (by have:=GX b F1;omega) (fun k h4 h5 h6=>?_)
  have h7:=sO k h4 h5 h6
  have h8:aQ w ((l1.take mm).getD b 0) ((l1.take mm).getD i 0)=false:=by rw[getD_take F1,getD_take him];exact aN
  exact ho.nt _ _ _ h7 h8
 |true=>
  refine v5 e0 e1 e2 e7 e9 ?_
  refine gQ.mono (h3.swap hm (i:=i) (j:=b) him F1 (by omega)) ?_
  rintro _ H4 ⟨rfl,h4⟩
  refine v5 e0 e1 e2 e7 e9 ?_
  obtain⟨g1,g2⟩:=Tn ho (l:=l1.take mm) (i:=i) (b:=b) Nq (by omega) QX hA sO (by rw[getD_take F1,getD_take him];exact aN)
  have ht:(swp l1 i b).take mm=swp (l1.take mm) i b:=M4 him F1 (by omega)
  exact⟨mm - b,by omega,b,_,_,q'+1,rfl,rfl,F1,by omega,h4,by rw[ht];exact g1,by omega,fun _=>by rw[ht];exact g2,fun h=>by omega⟩
end
end Go.Proofs.YthpjfeolagohkaaGreat

namespace Go.Proofs.YthpjfeolagohkaaGreat
open Go Go.Vc
section
variable {H : Hp} {n c : Nat} {C : Nat → Prop} {rv : Value} {r : Nat} {fp fa : Option Nat} {st : Int} {w : Nw} {l at_ : List Int}
theorem Hd(m:gY H n c C rv r fp fa st w l at_)(hl:l.length<65536){x:Int}(hx:0≤x∧x.toNat<at_.length):af Tryz.prog qz [ptr r,.iface 3 (i64 x)] H fun v H'=>ax (
  v= .tuple [].toArray∧∃bI,gY H' n c C rv r bI fa st w (l++[x]) (at_.set x.toNat l.length)∧ag (fun z=>fp=some z∨fa=some z∨z=r) H H'∧(bI=fp∨∃z,bI=some z∧H.size≤z)):=by
 obtain⟨av,hn,ha⟩:=m.own
 obtain⟨sv,ho,hs⟩:=m.jG
 obtain⟨y,hy⟩:∃y,at_[x.toNat]? =some y:=⟨_,aqb hx.2⟩
 obtain⟨f,fc,la,rfl,rfl,hf,VE,_,hla⟩:=Sl.at_ ha (i:=x.toNat) (x:=i64 y) (by simp[hy])
 obtain⟨g1,g2,g3⟩:=m.KQ f rfl
 obtain⟨sa,sc,pO⟩:=db.SR hs.rd
 refine bm Dq ?_
 refine vs ?_
 refine v3 (ae ho) (ae hn) pO ?_
 refine⟨by omega,?_⟩
 refine v3 hf aqd aqa ?_
 refine⟨by omega,?_⟩
 refine v1 aqa ?_
 have e1:ag (fun z=>z=f) H (H.wr f (la.set x.toNat (i64 l.length))):=(ag.refl (fun z=>z=f) _).wr (fun _=>rfl) _
 have s1:=ha.qn hf x.toNat (i64 l.length)
 have yL:=e1.own hn (Ne.symm g2)
 have Q4:=e1.own ho (Ne.symm g3)
 have fh:=hs.ext e1 (fun z hz h=>(m.ya z hz).2.2.2 (by rw[h]))
 have c1:=m.cells.ext e1 (fun z hz h=>g1 (h▸hz))
 generalize H.wr f (la.set x.toNat (i64 l.length))=H1 at*
 have e2:ag (fun _=>False) H1 (H1.new 3 [i64 x]):=(ag.refl _ _).new _ _
 refine v1 (ae ho) ?_
 refine Sl.append (fh.ext e2 (fun _ _ h=>h)) (Sl.bU (size:=1) (xs:=[i64 x]) rfl rfl).rd rfl (by intro v hv;simp only[aql]at hv;subst hv;rfl) (by omega) ?_
 intro WB H3 bI s3 e3 eB
 have z1:=e1.size
 have hrs:=aB Q4
 have YN:=aB yL
 have HT:ag (fun z=>fp=some z) H1 H3:=(e2.mono fun _ _ h=>h.elim).pL e3 (fun z _ h=>h)
 have Dx:=HT.own Q4 (fun h=>(m.ya r h).2.2.1 rfl)
 have hn3:=HT.own yL (fun h=>(m.ya n h).2.1 rfl)
 obtain⟨a',YR,Pp⟩:=db.SR s3.rd
 subst Pp
 refine v1 Dx ?_
 generalize Pp:Value.slice a' (l.length+1) YR=v' at*
 have e4:ag (fun z=>z=r) H3 (H3.wr r [ptr n,v']):=(ag.refl (fun z=>z=r) _).wr (fun _=>rfl) _
 have hfs:=aB hf
 have Fv:∀b,bI=some b→fp=some b∨H1.size≤b:=fun b hb=>by
  rcases eB with h| ⟨z,h,h5,_⟩
  ·exact .inl (h▸hb)
  ·rw[h]at hb;injection hb with hb;subst hb;rw[am]at h5;exact .inr (by omega)
 have yJ:=c1.slt
 refine⟨rfl,bI,⟨⟨_,e4.own hn3 (Ne.symm m.rn),?_⟩,(c1.ext HT (fun z hz h=>(m.ya z h).1 hz)).ext e4 (fun z hz h=>m.rC (h▸hz)),⟨_,ai Dx,?_⟩,m.nC,m.rC,m.rn,fun b hb=>?_,m.KQ,by rw[aqj,aqn];omega⟩,
  (e1.mono fun z _ hz=>.inr (.inl (by rw[hz]))).trans ((HT.mono fun z _ hz=>.inl hz).trans (e4.mono fun z _ hz=>.inr (.inr hz))),?_⟩
 ·have:=((s1.ext HT (fun z hz h=>(m.ya z h).2.2.2 hz)).ext e4 (fun z hz h=>by injection hz with hz;exact g3 (hz.trans h)))
  rw[aqe,aqP]
  exact this
 ·have:=s3.ext e4 (fun b hb h=>by
   rcases Fv b hb with h5|h5
   ·exact(m.ya b h5).2.2.1 h
   ·omega)
  rw[aqj,aqy]
  exact this
 ·rcases Fv b hb with h5|h5
  ·exact m.ya b h5
  ·refine⟨fun h=>?_,by omega,by omega,fun h=>?_⟩
   ·have:=yJ b h;omega
   ·injection h with h;omega
 ·rcases eB with h| ⟨z,h,h5,_⟩
  ·exact .inl h
  ·exact .inr ⟨z,h,by rw[am]at h5;omega⟩
theorem IU(m:gY H n c C rv r fp fa st w l at_)(hl:0<l.length):af Tryz.prog tu [ptr r] H fun v H'=>ax (
  (∃x,v= .iface 3 (i64 x))∧gY H' n c C rv r fp fa st w l.dropLast at_∧ag (fun z=>z=r) H H'):=by
 obtain⟨av,hn,ha⟩:=m.own
 obtain⟨sv,ho,hs⟩:=m.jG
 have o8:=m.ll
 obtain⟨x,hx⟩:∃x,l[l.length - 1]? =some x:=⟨_,aqb (by omega)⟩
 obtain⟨f,cc,lb,rfl,rfl,hb,mI,_,FX⟩:=Sl.at_ hs (i:=l.length - 1) (x:=i64 x) (by simp[hx])
 have e1:IntKind.i64.wrap ((l.length:Int) - 1)=((l.length - 1:Nat):Int):=by rw[wrap64 (by omega) (by omega)];omega
 obtain⟨_,l2,c2,CH,g2,a5,a6,a7⟩:=id hs
 injection CH with _ _ CH
 subst CH
 rw[hb]at g2
 injection g2 with g2
 subst g2
 refine bm E0 ?_
 simp(disch:=(first|omega| (simp only[Zs]<;>omega)|fail)) only[go_sem, ↓reduceIte,Zv,ae ho,e1,Int.toNat_natCast]
 refine⟨by omega,?_⟩
 simp(disch:=(first|omega| (simp only[Zs]<;>omega)|fail)) only[go_sem, ↓reduceIte,Zv,ae hb,ae ho,aqd,mI,e1]
 refine⟨by omega,?_⟩
 have pO:Value.slice (if(cc:Int)=((0:Nat):Int)then some (⟨f,0,none⟩:Addr)else Option.map (fun(x:Addr)=>x.add (((0:Nat):Int).toNat*1)) (some (⟨f,0,none⟩:Addr))) (((l.length - 1:Nat):Int).toNat - ((0:Nat):Int).toNat) ((cc:Int).toNat - ((0:Nat):Int).toNat)= .slice (some ⟨f,0,none⟩) (l.length - 1) cc:=by
  split<;>rfl
 refine v2 (ae ho) ho ?_
 rw[pO]
 have ew:ag (fun z=>z=r) H (H.wr r [ptr n,.slice (some ⟨f,0,none⟩) (l.length - 1) cc]):=(ag.refl (fun z=>z=r) _).wr (fun _=>rfl) _
 obtain⟨d1,d2,d3,d4⟩:=m.ya f rfl
 refine⟨⟨_,rfl⟩,⟨⟨_,ew.own hn (Ne.symm m.rn),ha.ext ew (fun z hz h=>(m.KQ z hz).2.2 h)⟩,m.cells.ext ew (fun z hz h=>m.rC (h▸hz)),⟨_,ai ho,?_⟩,m.nC,m.rC,m.rn,m.ya,m.KQ,by rw[aqL];omega⟩,ew⟩
 refine⟨by simp,lb,cc,by rw[aqL],ew.own hb d3,by rw[aqL];omega,a6,?_⟩
 have hx7:((l.map i64).length)=l.length:=by simp
 rw[aqL,List.map_dropLast,arI,hx7,←a7,ar4]
 congr 1
 omega
theorem He(m:gY H n c C rv r fp fa st w l at_)(wO:mX l at_)(hl:l.length<65536){x:Int}(hx:0≤x∧x.toNat<at_.length)(lJ:x∉l)(ahK:df w.cs x)(bH:∀z∈l,df w.cs z)(hh:fk (aQ w) 2 l):
  af Tryz.prog ud [pv r,.iface 3 (i64 x)] H fun v H'=>ax (v= .tuple [].toArray∧∃ (bI:Option Nat) (l' mJ:List Int) (q:Nat),gY H' n c C rv r bI fa (min (st+q) 4611686018427387904) w l' mJ∧mX l' mJ∧fk (aQ w) 2 l'∧(∀z,z∈l'↔z=x∨z∈l)∧l'.length=l.length+1∧
   mJ.length=at_.length∧(∀z:Int,0≤z→z≠x→z∉l→mJ[z.toNat]? =at_[z.toNat]?)∧q≤lw 2 l.length∧(0<l.length→0<q)∧ag (fun z=>C z∨fp=some z∨fa=some z∨z=r) H H'∧(bI=fp∨∃z,bI=some z∧H.size≤z)):=by
 refine bm ut ?_
 refine vs ?_
 refine gQ.mono (K:=fun v H'=>v= .tuple [].toArray∧∃bI,gY H' n c C rv r bI fa st w (l++[x]) (at_.set x.toNat l.length)∧ag (fun z=>fp=some z∨fa=some z∨z=r) H H'∧(bI=fp∨∃z,bI=some z∧H.size≤z)) ⟨_,_,qz,ptr r,rfl,bF (by kernel_rfl),Hd m hl hx⟩ ?_
 rintro _ H1 ⟨rfl,bI,m1,e1,ix⟩
 refine vs ?_
 refine gQ.mono (K:=fun v H'=>v=i64 (l++[x]).length∧H1=H') ⟨_,_,ic,ptr r,rfl,bF (by kernel_rfl),pS m1⟩ ?_
 rintro _ _ ⟨rfl,rfl⟩
 refine vs ?_
 have bf:(l++[x]).length=l.length+1:=by simp
 rw[show IntKind.i64.wrap (((l++[x]).length:Int) - 1)=((l.length:Nat):Int) by rw[bf,wrap64 (by omega) (by omega)];omega]
 have ahL:mX (l++[x]) (at_.set x.toNat l.length):=fun i z hz=>by
  rcases arA i l.length with h|h|h
  ·rw[aqs h]at hz
   obtain⟨a,b⟩:=wO i z hz
   have aR:x.toNat≠z.toNat:=fun e=>lJ (by rw[show x=z by omega];exact aqg hz)
   rw[aqh aR]
   exact⟨a,b⟩
  ·subst h
   rw[aqD (aqm _),ari]at hz
   simp only[aqE,aqk]at hz
   subst hz
   rw[aqi hx.2]
   exact⟨hx.1,rfl⟩
  ·rw[aqo (by omega)]at hz;cases hz
 have ht:(l++[x]).take (l++[x]).length=l++[x]:=aqM
 have Nv:∀k,k<l.length→(l++[x]).getD k 0=l.getD k 0:=fun k hk=>by rw[aqf,aqs hk,aqf]
 have RO:∀k:Nat,1≤k→k<l.length+1→pa 2 k≠l.length:=fun k h1 h2=>by have:=cQ eo h1;omega
 refine(sU m1 ahL (j:=l.length) (mm:=(l++[x]).length) (by omega) (aqm _) (fun z hz=>?_) (by
  rw[ht]
  refine⟨fun k h1 h2 h3 h4=>?_,fun k h1 h2 h3 h4=>absurd h3 (RO k h1 (by omega))⟩
  have:=cQ eo h1
  rw[Nv k (by omega),Nv _ (by omega)]
  exact hh k h1 (by omega)) (fun k h1 h2 h3=>absurd h3 (RO k h1 (by rw[ht]at h2;omega)))).mono ?_
 ·rcases aqq.1 hz with h|h
  ·exact bH z h
  ·rw[aql]at h;rw[h];exact ahK
 rintro _ H2 ⟨rfl,l',mJ,q,g,iK,hq,WN⟩
 have FK:=g.len
 rw[←FK,aqM]at iK
 refine vs ?_
 refine⟨rfl,bI,l',mJ,q,g.jG,g.ok,iK,fun z=>?_,by omega,by rw[g.M5,aqe],fun z hz h1 h2=>?_,hq,fun h=>WN (by omega),(e1.mono fun z _ hz=>.inr hz).pL g.ext (fun z hzl hz=>?_),ix⟩
 ·rw[g.mem z,aqq,aql]
  exact Or.comm
 ·rw[g.off z hz (fun h=>by rcases aqq.1 h with h|h;exact h2 h;exact h1 (aql.1 h)),aqh (by omega)]
 ·rcases hz with hz|hz|hz
  ·exact .inl hz
  ·rcases ix with h| ⟨y,h,h5⟩
   ·exact .inr (.inl (h▸hz))
   ·rw[h]at hz;injection hz with hz;omega
  ·exact .inr (.inr (.inl hz))
theorem IV(m:gY H n c C rv r fp fa st w l at_)(wO:mX l at_){i:Nat}(hi:i<l.length)(bH:∀z∈l,df w.cs z)(hA:dY (aQ w) 2 l i):
  af Tryz.prog vg [pv r,i64 i] H fun v H'=>ax (v= .tuple [].toArray∧∃ (l' mJ:List Int) (q:Nat),ou n c C rv r fp fa st w l at_ l.length H H' l' mJ q∧fk (aQ w) 2 l'∧q≤2*lw 2 ((l.length:Int) - 1)):=by
 have o8:=m.ll
 have ht:l.take l.length=l:=aqM
 refine bm vz ?_
 refine vs ?_
 refine gQ.mono (K:=fun v H'=>v=i64 l.length∧H=H') ⟨_,_,ic,ptr r,rfl,bF (by kernel_rfl),pS m⟩ ?_
 rintro _ _ ⟨rfl,rfl⟩
 refine vs ?_
 refine(vR m wO hi (aqm _) bH (by rw[ht];exact hA)).mono ?_
 rintro _ H1 ⟨b,l1,IT,q1,rfl,g1,RC,hT,hF⟩
 have uF:=g1.len
 cases b with
 |true=>
  have h:=hT rfl
  rw[←uF,aqM]at h
  refine vs ?_
  exact⟨rfl,l1,IT,q1,g1,h,by omega⟩
 |false=>
  obtain⟨e1,e2,hB⟩:=hF rfl
  subst e1 e2
  refine vs ?_
  have hm:=(ly eo ((l1.length:Int) - 1).toNat (i:Int) ((l1.length:Int) - 1) (aqm _) (by omega))
  refine(sU g1.jG g1.ok (j:=i) (mm:=l1.length) hi (aqm _) bH (by rw[ht];exact hA) hB).mono ?_
  rintro _ H2 ⟨rfl,l2,at2,q2,g2,iK,hq2,_⟩
  have tP:=g2.len
  rw[←tP,aqM]at iK
  refine vs ?_
  refine⟨rfl,l2,at2,q1+q2,⟨?_,g2.ok,g2.mem,g2.len,g2.drop,g2.M5,g2.off,g1.ext.trans g2.ext⟩,iK,by omega⟩
  rw[show min (st+((q1+q2:Nat):Int)) 4611686018427387904=min (min (st+(q1:Int)) 4611686018427387904+(q2:Int)) 4611686018427387904 by omega]
  exact g2.jG
end
end Go.Proofs.YthpjfeolagohkaaGreat

namespace Go.Proofs.YthpjfeolagohkaaGreat
open Go Go.Vc
theorem fk.KR{lt lt':Int→Int→Bool}{l:List Int}(h:fk lt 2 l)(hfg:∀z∈l,∀y∈l,lt z y=lt' z y):fk lt' 2 l:=by
 intro j h1 h2
 have hp:=cQ eo h1
 have e:∀k,k<l.length→l.getD k 0∈l:=fun k hk=>by
  rw[aqf,aqb hk];exact List.getElem_mem hk
 rw[←hfg _ (e j h2) _ (e _ (show pa 2 j<l.length by omega))]
 exact h j h1 h2
theorem KS{l at_:List Int}(h:mX l at_){x:Int}(hx:l[l.length - 1]? =some x)(z:Int):z∈l.dropLast↔z∈l∧z≠x:=by
 have hl:=(aqc.1 hx).1
 rw[arI]
 constructor
 ·intro hz
  obtain⟨k,hk⟩:=aqB hz
  rw[aqG]at hk
  split at hk
  ·refine⟨aqg hk,fun e=>?_⟩
   subst e
   have:=h.GW hk hx
   omega
  ·cases hk
 ·rintro⟨hz,aR⟩
  obtain⟨k,hk⟩:=aqB hz
  have hkl:=(aqc.1 hk).1
  have:k≠l.length - 1:=fun e=>by rw[e,hx]at hk;injection hk with hk;exact aR hk.symm
  exact aqg (i:=k) (by rw[aqF (by omega)];exact hk)
theorem mX.dropLast{l at_:List Int}(h:mX l at_):mX l.dropLast at_:=fun i x hx=>by
 rw[arI,aqG]at hx
 split at hx
 ·exact h i x hx
 ·cases hx
section
variable {H : Hp} {n c : Nat} {C : Nat → Prop} {rv : Value} {r : Nat} {fp fa : Option Nat} {st : Int} {w : Nw} {l at_ : List Int}
structure Out(n c:Nat)(C:Nat→Prop)(rv:Value)(r:Nat)(fp fa:Option Nat)(st:Int)(w:Nw)(l at_:List Int)(x:Int)(H H':Hp)(l' mJ:List Int)(q:Nat):Prop where
 jG:gY H' n c C rv r fp fa (min (st+q) 4611686018427387904) w l' mJ
 ok:mX l' mJ
 heap:fk (aQ w) 2 l'
 mem:∀z,z∈l'↔z∈l∧z≠x
 len:l'.length+1=l.length
 M5:mJ.length=at_.length
 off:∀z:Int,0≤z→z∉l→mJ[z.toNat]? =at_[z.toNat]?
 ext:ag (fun z=>C z∨fp=some z∨fa=some z∨z=r) H H'
theorem PS{H1:Hp}{l1 IT:List Int}{mm q:Nat}{x:Int}(h:ou n c C rv r fp fa st w l at_ mm H H1 l1 IT q)(hl:0<l.length)(hx:l1[l1.length - 1]? =some x)(hh:fk (aQ w) 2 (l1.take (l.length - 1))):
  gQ Tryz.prog (pv r) "Pop" [] H1 fun v H'=>∃l' mJ,Out n c C rv r fp fa st w l at_ x H H' l' mJ q:=by
 have bf:=h.len
 refine⟨_,_,tu,ptr r,rfl,bF (by kernel_rfl),(IU h.jG (by omega)).mono ?_⟩
 rintro v H2 ⟨_,m2,e2⟩
 refine⟨l1.dropLast,IT,m2,h.ok.dropLast,?_,fun z=>by rw[KS h.ok hx z,h.mem z],by rw[aqL];omega,h.M5,h.off,(h.ext.mono fun z _ hz=>?_).trans (e2.mono fun z _ hz=>.inr (.inr (.inr hz)))⟩
 ·rw[arI,bf];exact hh
 ·rcases hz with hz|hz|hz
  ·exact .inl hz
  ·exact .inr (.inl hz)
  ·exact .inr (.inr (.inl hz))
theorem DT(m:gY H n c C rv r fp fa st w l at_)(wO:mX l at_){i:Nat}(hi:i<l.length)(bH:∀z∈l,df w.cs z)(hh:fk (aQ w) 2 l):
  af Tryz.prog qv [pv r,i64 i] H fun v H'=>ax (∃ (l' mJ:List Int) (q:Nat),Out n c C rv r fp fa st w l at_ (l.getD i 0) H H' l' mJ q∧q≤2*lw 2 ((l.length:Int) - 1)):=by
 have o8:=m.ll
 refine bm qP ?_
 refine vs ?_
 refine gQ.mono (K:=fun v H'=>v=i64 l.length∧H=H') ⟨_,_,ic,ptr r,rfl,bF (by kernel_rfl),pS m⟩ ?_
 rintro _ _ ⟨rfl,rfl⟩
 refine vs ?_
 rw[show IntKind.i64.wrap ((l.length:Int) - 1)=((l.length - 1:Nat):Int) by rw[wrap64 (by omega) (by omega)];omega]
 have h0:=ou.refl m wO l.length
 have hgi:l[i]? =some (l.getD i 0):=by rw[aqf,aqb hi];rfl
 refine ar.dec (fun he=>?_) (fun he=>?_)
 ·refine vs ?_
  have qR:i=l.length - 1:=by omega
  refine gQ.mono (PS h0 (by omega) (x:=l.getD i 0) (by rw[←qR];exact hgi) (fun j h1 h2=>by
   rw[aqO]at h2
   have:=cQ eo h1
   rw[getD_take (by omega),getD_take (by omega)]
   exact hh j h1 (by omega))) ?_
  rintro v H2 ⟨l',mJ,o⟩
  refine vs ?_
  exact⟨l',mJ,0,o,by omega⟩
 ·refine vs ?_
  have Fu:i<l.length - 1:=by omega
  refine gQ.mono (h0.swap (aqm _) (i:=i) (j:=l.length - 1) hi (by omega) (by omega)) ?_
  rintro _ H1 ⟨rfl,h1⟩
  refine vs ?_
  have hg:=Cf (l:=l) (i:=i) (j:=l.length - 1) hi (by omega)
  have uF:=h1.len
  have hA1:dY (aQ w) 2 ((swp l i (l.length - 1)).take (l.length - 1)) i:=by
   have hb:=hh.but (aw w) eo i
   refine⟨fun j h2 h3 h4 h5=>?_,fun j h2 h3 h4 h5=>?_⟩
   ·rw[aqO]at h3
    have:=cQ eo h2
    rw[getD_take (by omega),getD_take (by omega),hg,hg,if_neg (by omega),if_neg h4,if_neg (by omega),if_neg h5]
    exact hb.1 j h2 (by omega) h4 h5
   ·rw[aqO]at h3
    have:=cQ eo h2
    have:=cQ eo h5
    rw[getD_take (by omega),getD_take (by omega),hg,hg,if_neg (by omega),if_neg (by omega),if_neg (by omega),if_neg (by omega)]
    exact hb.2 j h2 (by omega) h4 h5
  have OP:∀z∈swp l i (l.length - 1),df w.cs z:=fun z hz=>bH z ((h1.mem z).1 hz)
  have qd:(swp l i (l.length - 1))[l.length - 1]? =some (l.getD i 0):=by rw[mW hi (by omega),if_pos rfl];exact hgi
  have fin:∀ {H2:Hp} {l2 at2:List Int} {q:Nat},ou n c C rv r fp fa (min (st+((0:Nat):Int)) 4611686018427387904) w (swp l i (l.length - 1)) (Cg l at_ i (l.length - 1)) (l.length - 1) H1 H2 l2 at2 q→fk (aQ w) 2 (l2.take (l.length - 1))→
    gQ Tryz.prog (pv r) "Pop" [] H2 fun v H'=>∃l' mJ,Out n c C rv r fp fa st w l at_ (l.getD i 0) H H' l' mJ q:=by
   intro H2 l2 at2 q g iK
   have uO:=m.cells.st
   have g':ou n c C rv r fp fa st w l at_ l.length H H2 l2 at2 q:=by
    refine⟨?_,g.ok,fun z=>by rw[g.mem z,h1.mem z],g.len.trans uF,?_,g.M5.trans h1.M5,fun z hz hm=>?_,h1.ext.trans g.ext⟩
    ·have:=g.jG
     rw[show min (min (st+((0:Nat):Int)) 4611686018427387904+(q:Int)) 4611686018427387904=min (st+(q:Int)) 4611686018427387904 by omega]at this
     exact this
    ·rw[arV (by rw[g.len];omega),arV (aqm _)]
    ·rw[g.off z hz (fun h=>hm ((h1.mem z).1 h))];exact h1.off z hz hm
   refine PS g' (by omega) ?_ iK
   have hd:=g.drop
   have h2:(l2.drop (l.length - 1))[0]? =((swp l i (l.length - 1)).drop (l.length - 1))[0]? :=by rw[hd]
   rw[aqJ,aqJ,Nat.add_zero,qd]at h2
   rw[g.len,uF]
   exact h2
  have GX:=ly eo ((l.length:Int) - 1).toNat (((l.length - 1:Nat):Int) - 1) ((l.length:Int) - 1) (aqm _) (by omega)
  refine(vR h1.jG h1.ok (i0:=i) (mm:=l.length - 1) Fu (by rw[uF];omega) OP hA1).mono ?_
  rintro _ H2 ⟨b,l2,at2,q1,rfl,g2,RC,hT,hF⟩
  cases b with
  |true=>
   refine vs ?_
   refine gQ.mono (fin g2 (hT rfl)) ?_
   rintro v H3 ⟨l',mJ,o⟩
   refine vs ?_
   exact⟨l',mJ,q1,o,by omega⟩
  |false=>
   obtain⟨e1,e2,hB⟩:=hF rfl
   subst e1 e2
   have hmi:=ly eo (((l.length - 1:Nat):Int) - 1).toNat (i:Int) (((l.length - 1:Nat):Int) - 1) (aqm _) (by omega)
   refine vs ?_
   refine(sU g2.jG g2.ok (j:=i) (mm:=l.length - 1) Fu (by rw[uF];omega) OP hA1 hB).mono ?_
   rintro _ H3 ⟨rfl,l3,at3,q2,g3,iK,hq2,_⟩
   refine vs ?_
   have g23:ou n c C rv r fp fa (min (st+((0:Nat):Int)) 4611686018427387904) w (swp l i (l.length - 1)) (Cg l at_ i (l.length - 1)) (l.length - 1) H1 H3 l3 at3 (q1+q2):=by
    refine⟨?_,g3.ok,g3.mem,g3.len,g3.drop,g3.M5,g3.off,g2.ext.trans g3.ext⟩
    have:=g3.jG
    rw[show min (min (min (st+((0:Nat):Int)) 4611686018427387904+(q1:Int)) 4611686018427387904+(q2:Int)) 4611686018427387904=min (min (st+((0:Nat):Int)) 4611686018427387904+((q1+q2:Nat):Int)) 4611686018427387904 by omega]at this
    exact this
   refine gQ.mono (fin g23 iK) ?_
   rintro v H4 ⟨l',mJ,o⟩
   refine vs ?_
   exact⟨l',mJ,q1+q2,o,by omega⟩
end
end Go.Proofs.YthpjfeolagohkaaGreat
