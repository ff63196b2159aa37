/- Texts put behind each other. -/
import Derived.Test.YthpjfeolagohkaaGreatK98
import Derived.Test.YthpjfeolagohkaaGreatK29
import Derived.Test.YthpjfeolagohkaaGreatK30
import Derived.Test.YthpjfeolagohkaaGreatK34
import Derived.Test.YthpjfeolagohkaaGreatK36
import Derived.Test.YthpjfeolagohkaaGreatK38
import Derived.Test.YthpjfeolagohkaaGreatK40
import Derived.Test.YthpjfeolagohkaaGreatK42
set_option maxRecDepth 100000
set_option maxHeartbeats 8000000
set_option linter.unusedVariables false
set_option linter.unusedSimpArgs false
namespace Go.Proofs.YthpjfeolagohkaaGreat
open Go Go.Vc
theorem xj{H:Hp}{C:Nat→Prop}{w:Nw}{b3 b4 n c:Nat}{x:Int}{rest:List Value}(h3:H.own b3=some [ptr n])(h4:H.own b4=some [i64 x])(hn:H.own n=some (ptr c::rest))(cq:CQ H c C w){p:Int}(hx:0<aE w x)(hp:0<aE w p):
  af Tryz.prog fI [i64 p,ptr b3,ptr b4] H fun v H'=>ar (v= .bool (aN w x p)∧CQ H' c C w∧ag C H H'):=by
 refine vr mixed (an:=mR) (by conv=>lhs;cbv) (nt:=12) (by kernel_rfl) (by simp) ?_
 refine v3 (ae h3) (ae h4) (ae hn) ?_
 refine(cE cq x p).mono ?_
 rintro _ H1 ⟨rfl,c1,e1⟩
 rw[gD (w:=w) (a:=x) (b:=p) hx hp]
 refine vs ?_
 exact⟨rfl,c1,e1⟩
theorem BE{n:Nat}{H:Hp}{S:Nat→Prop}{w:Nw}(h:gh n H S w)(x k s:Int):af Tryz.prog gz [ptr n,i64 x,tu k s] H fun v H'=>ar (
  (¬w.cX x k s∧v= .bool false∧cA (gh n) S H H' w)∨(w.cX x k s∧v= .bool true∧∃y,w.cs[x.toNat]? =some y∧cA (gh n) S H H' (w.put x (y.1,k,s)))):=by
 obtain⟨B,ro,C,l,V,ch,par,kb,eF,rows,rb,rfl,m,f,hl,hS⟩:=h
 have hC:∀z,C z→S z:=fun z h=>(hS z).2 (fi (m.hC z h) nofun)
 have hSR:∀z,S z→z<H.size:=fun z hz=>m.slt z ((hS z).1 hz)
 refine aZ oI ?_
 refine vs ?_
 have f0:am H (((H.new 154 [ptr B.n]).new 3 [i64 x]).new 182 [i64 k,u64 s]):=(((ag.refl _ _).new _ _).new _ _).new _ _
 have b3:(((H.new 154 [ptr B.n]).new 3 [i64 x]).new 182 [i64 k,u64 s]).own H.size=some [ptr B.n]:=by
  rw[bL (by simp only[aq];omega),bL (by simp only[aq];omega),aD]
 have b4:(((H.new 154 [ptr B.n]).new 3 [i64 x]).new 182 [i64 k,u64 s]).own (H.size+1)=some [i64 x]:=by
  rw[bL (by simp only[aq];omega)]
  exact be (by simp only[aq])
 have b5:(((H.new 154 [ptr B.n]).new 3 [i64 x]).new 182 [i64 k,u64 s]).own (H.size+1+1)=some [i64 k,u64 s]:=be (by simp only[aq])
 have m0:=m.fresh f0
 generalize ((H.new 154 [ptr B.n]).new 3 [i64 x]).new 182 [i64 k,u64 s]=H0 at*
 have ff:ag S H H0:=f0.mono fun _ _ h=>h.elim
 obtain⟨tv,IY,_⟩:=m0.own
 refine v4 (ae b3) (ae b4) (ae IY) (ae b5) ?_
 refine(gC m0.cells x k s).mono ?_
 rintro _ H1 (⟨bS,rfl,c1,e1⟩| ⟨bE,rfl,y,hy,fz,c1,e1⟩)
 ·refine vs ?_
  exact .inl ⟨bS,rfl,cA.same ⟨B,ro,C,l,V,ch,par,kb,eF,rows,rb,rfl,m0.ext e1 (fun _ _ h=>h),f,hl,hS⟩ (ff.trans (e1.mono fun _ _ h=>h.elim))⟩
 have nL:(w.put x (y.1,k,s)).cs.length=w.cs.length:=by simp[Nw.put]
 have m1:=m0.aH c1 e1 nL
 have Bh:w.cX x k s:=⟨bE,fun z hz=>by rw[hy]at hz;injection hz with hz;rw[←hz];exact fz⟩
 have hx:0≤x∧x<w.cs.length:=⟨bE.1,by have:=(aoq.1 hy).1;have:=bE.1;omega⟩
 have OV:aE w x=y.1:=jI bE.1 hy
 have dZ:=bC.2 bE
 have hw:aE (w.put x (y.1,k,s))=aE w:=by
  funext z
  rw[ed hx]
  split
  ·rename_i e;rw[e,OV]
  ·rfl
 have EG:cU (w.put x (y.1,k,s)).cs x:=bC.1 (by rw[hw];exact dZ)
 have el:∀a b,0<aE w a→0<aE w b→a≠x→b≠x→aN (w.put x (y.1,k,s)) a b=aN w a b:=fun a b ha hb qA lV=>dC hx _ ha hb qA lV
 have ex:∀b,0<aE w b→b≠x→aN w x b=true→aN (w.put x (y.1,k,s)) x b=true:=fun b hb lV h=>A8 bE hy fz hb lV h
 have ls:=ap w
 have T5:=ap (w.put x (y.1,k,s))
 have nC:∀z,H.size≤z→¬C z:=fun z hz hc=>by have:=hSR z (hC z hc);omega
 have b31:=e1.own b3 (nC _ (aoB _))
 have b41:=e1.own b4 (nC _ (by omega))
 obtain⟨CW,o1,_⟩:=m1.own
 have vz:=m.Tw hl ((m.cells.hm x).2 dZ).1
 have hhl:(w.put x (y.1,k,s)).hs.length=w.hs.length:=by simp[Nw.put]
 refine v3 (ae b31) (ae b41) (ae o1) ?_
 refine(df m1.cells x).mono ?_
 rintro _ H2 (⟨bS,_,_⟩| ⟨_,rfl,c2,e2⟩)
 ·exact absurd EG bS
 have m2:=m1.aH c2 e2 rfl
 have oZ:ag S H H2:=(ff.trans (e1.mono fun z _ h=>hC z h)).trans (e2.mono fun z _ h=>hC z h)
 have b32:=e2.own b31 (nC _ (aoB _))
 have b42:=e2.own b41 (nC _ (by omega))
 rw[hw]
 refine v2 (ae b32) (ae b42) ?_
 have f2:MK (aE (w.put x (y.1,k,s))) (aN (w.put x (y.1,k,s))) ch par rows [] x:=by
  rw[hw]
  exact MK.start ls f el
 have hE0:∀d∈ch x,aN (w.put x (y.1,k,s)) x d=true:=fun d hd=>by
  obtain⟨_,_,_,h4,h5⟩:=f.pr.dn x d hd
  exact ex d h4 (fun e=>by have:=f.less hd;rw[e]at this;omega) h5
 have hsR:∀z,dh ro z→z<H.size:=m.slt
 refine(Iq m2 f2 (g:=aE w x) (by rw[hw]) dZ vz fI [ptr H.size,ptr (H.size+1)] (fun p=>aN (w.put x (y.1,k,s)) x p) (fun H'=>H'.own H.size=some [ptr B.n]∧H'.own (H.size+1)=some [i64 x]∧∃tv,H'.own B.n=some [ptr B.c,ptr B.fb,tv])
  (fun ch=>∀d∈ch x,aN (w.put x (y.1,k,s)) x d=true) ?_ (fun H' Dx hJ e=>?_) (by kernel_rfl) (fun H' p hJ cq hp=>?_) hE0 (fun ch par rows p cx KG hq _=>cx.low T5 KG hq)).mono ?_
 ·obtain⟨NR,o2,_⟩:=m2.own
  exact⟨b32,b42,NR,o2⟩
 ·obtain⟨j1,j2,NR,o2⟩:=hJ
  exact⟨e.own j1 (fun h=>by have:=hsR _ h.1;omega),e.own j2 (fun h=>by have:=hsR _ h.1;omega),NR,e.own o2 (fun h=>h.2 rfl)⟩
 ·obtain⟨j1,j2,NR,o2⟩:=hJ
  exact xj j1 j2 o2 cq (by rw[hw];exact dZ) hp
 rintro _ H3 ⟨QT,l3,V3,ML,oT,YO,BD,m3,f3,hE3,hq3,Xh,e3⟩
 refine vs ?_
 have f4:=f3.done hE3 (fun hp=>by
  rcases hq3 with h|h
  ·exact absurd h hp
  ·have hxc:=f3.w.pr.up x _ rfl hp
   have YV:=f3.w.less hxc
   exact(T5.OQ (oT x) x (fun e=>by rw[e]at YV;omega)).resolve_right (by rw[h];simp))
 have z2:=oZ.size
 refine .inr ⟨Bh,rfl,y,hy,dh QT,⟨B,QT,C,l3,V3,ML,oT,YO,eF,BD,rb,rfl,m3,f4,by rw[hl,hhl],fun z=>Iff.rfl⟩,oZ.trans (e3.mono fun z _ h=>(hS z).2 h),fun z hz=>.inl ((hS z).2 (Xh z hz))⟩
theorem Ki(cap:Int)(H:Hp):af Tryz.prog FC [i64 cap] H fun v H'=>ar (
  am H H'∧((¬ (0≤cap∧cap≤65536)∧v= .tuple [.pointer none,i64 31].toArray)∨
   ((0≤cap∧cap≤65536)∧∃n S,v= .tuple [ptr n,i64 0].toArray∧gh n H' S (Bf cap)∧∀x,S x→H.size≤x))):=by
 refine aZ FH ?_
 refine vs ?_
 refine(kJ cap H).mono ?_
 rintro _ H1 ⟨f1,⟨hb,rfl⟩| ⟨hb,c,C,rfl,c1,hC⟩⟩
 ·refine vs ?_
  exact⟨f1,.inl ⟨hb,rfl⟩⟩
 refine vs ?_
 refine(GF H1 hb).mono ?_
 rintro _ H2 ⟨fb,tb,l,rfl,t2,f2,hfb,UI⟩
 have c2:=c1.fresh f2
 refine vs ?_
 have xp:=c1.slt
 have z1:=f1.size
 have z2:=f2.size
 have VX:=t2.SO
 have aQ:=t2.ne
 have f3:am H2 ((H2.new 30 [.slice none 0 0]).new 222 [ptr c,ptr fb,.slice (some ⟨H2.size,0,none⟩) 1 1]):=((ag.refl _ _).new _ _).new _ _
 have e2:ag (fun _=>False) (H2.new 30 [.slice none 0 0]) ((H2.new 30 [.slice none 0 0]).new 222 [ptr c,ptr fb,.slice (some ⟨H2.size,0,none⟩) 1 1]):=(ag.refl _ _).new _ _
 have z3:((H2.new 30 [.slice none 0 0]).new 222 [ptr c,ptr fb,.slice (some ⟨H2.size,0,none⟩) 1 1]).size=H2.size+1+1:=by simp only[aq]
 obtain⟨ro,Ol⟩:∃ro:Nat→Rl,ro=fun z=>if z=H2.size+1 then Rl.SN else if z=H2.size then Rl.L0 else if z=fb then Rl.F9 else if z=tb then Rl.table else @ite _ (C z) (Classical.propDecidable _) Rl.cell Rl.no:=⟨_,rfl⟩
 have r1:ro (H2.size+1)= .SN:=by rw[Ol];simp
 have r2:ro H2.size= .L0:=by rw[Ol];simp
 have r3:ro fb= .F9:=by rw[Ol];show(if fb=H2.size+1 then _ else _)=_;rw[if_neg (by omega),if_neg (by omega),if_pos rfl]
 have r4:ro tb= .table:=by rw[Ol];show(if tb=H2.size+1 then _ else _)=_;rw[if_neg (by omega),if_neg (by omega),if_neg (by omega),if_pos rfl]
 have r5:∀z,C z→ro z= .cell:=fun z hz=>by
  have:=xp z hz
  rw[Ol];show(if z=H2.size+1 then _ else _)=_;rw[if_neg (by omega),if_neg (by omega),if_neg (by omega),if_neg (by omega),if_pos hz]
 have r6:∀z,ro z≠ .no→H.size≤z∧z<H2.size+1+1:=fun z hz=>by
  rw[Ol]at hz
  simp only at hz
  split at hz
  ·omega
  ·split at hz
   ·omega
   ·split at hz
    ·omega
    ·split at hz
     ·omega
     ·split at hz
      ·rename_i h
       have:=hC z h
       have:=xp z h
       omega
      ·exact absurd rfl hz
 have tD:(Bf cap).cs.length=cap.toNat:=by simp[Bf]
 refine⟨(f1.trans f2).trans f3,.inr ⟨hb,H2.size+1,dh ro,rfl,⟨⟨H2.size+1,c,fb,tb,H2.size⟩,ro,C,l,fun _=>.slice none 0 0,fun _=>[],fun _=> -1,fun _=>none,[.slice none 0 0],fun _=>[],fun _=>none,rfl,⟨⟨.slice (some ⟨H2.size,0,none⟩) 1 1,be (by simp only[aq]),?_⟩,fun g h0 h1=>?_,c2.fresh f3,?_,r5,r1,r2,fun g b _ _ h=>(by cases h),fun z hz=>?_⟩,
  ⟨⟨rfl,fun x c hc=>absurd hc (by simp),fun c x h hx=>absurd (Eq.symm h) hx,fun x=>apT⟩,fun x i c hc=>by simp at hc,fun h=>List.Pairwise.nil,fun h c hc=>absurd hc (by simp),apT,fun c hc=>absurd hc (by simp),fun c hc=>absurd hc (kN cap c)⟩,rfl,fun z=>Iff.rfl⟩,fun z hz=>(r6 z hz).1⟩⟩
 ·exact(Sl.cB (size:=1) (n:=1) (xs:=[.slice none 0 0]) rfl rfl).ext e2 (fun _ _ h=>h)
 ·have h1:g<1:=h1
  have hg:g=0:=by omega
  subst hg
  exact⟨.slice none 0 0,rfl,Sl.nil _ _⟩
 ·rw[tD]
  exact⟨t2.ext f3 (fun h=>h) (fun h=>h),fun x h0 h1=>Sl.nil _ _,r3,r4,fun x b _ _ h=>(by cases h),fun x c hc=>absurd hc (by simp),fun _ _=>rfl⟩
 ·apply aoJ
  intro h
  have:=(r6 z h).2
  have hz':H2.size+1+1≤z:=by rw[←z3];exact hz
  omega
theorem Ir{n:Nat}{H:Hp}{S:Nat→Prop}{w:Nw}(h:gh n H S w):af Tryz.prog j5 [ptr n] H fun v H'=>ar (
  (w.hs.length=65537∧v=i64 0∧cA (gh n) S H H' w)∨(w.hs.length≠65537∧v=i64 w.hs.length∧cA (gh n) S H H' w.make)):=by
 obtain⟨B,ro,C,l,V,ch,par,kb,eF,rows,rb,rfl,m,f,hl,hS⟩:=id h
 obtain⟨tv,ho,FL⟩:=m.own
 refine aZ uf ?_
 refine v1 (ae ho) ?_
 refine(iS m.cells).mono ?_
 rintro _ H1 (⟨h1,rfl,rfl⟩| ⟨h1,rfl,C',c1,e1,zi⟩)
 ·refine vs ?_
  exact .inl ⟨h1,rfl,cA.same h (ag.refl _ _)⟩
 have fC:=m.cells.pos
 have hhs:=m.cells.FL
 have slt:=m.slt
 have Mf:=c1.slt
 have z1:=e1.size
 have nc:∀z q,ro z=q→q≠ .cell→¬C z:=fun z q h1 h2 hc=>h2 (by rw[←h1,m.hC z hc])
 have o1:=e1.own ho (nc _ _ m.rn nofun)
 refine vs ?_
 refine ai.bI (aoE (by omega)) ?_
 refine v1 (ae o1) ?_
 have s1:=FL.ext e1 (fun b hb=>by injection hb with hb;subst hb;exact nc _ _ m.rr nofun)
 have fl:am H1 (H1.new 30 [.slice none 0 0]):=(ag.refl _ _).new _ _
 have zl:(H1.new 30 [.slice none 0 0]).size=H1.size+1:=aq _ _ _
 refine Sl.append (s1.ext fl (fun _ _ h=>h)) (Sl.cB (size:=1) (n:=1) (xs:=[.slice none 0 0]) rfl rfl).rd rfl (fun v hv=>by rw[aoH.1 hv];rfl) (by omega) ?_
 intro w' H2 dT s2 e2' fU
 have e2:ag (fun z=>z=B.rp) H1 H2:=⟨apc fl.size e2'.size,fun z hz hn=>by
  rw[e2'.aG z (aoO hz fl.size) (fun h=>hn (by injection h with h;exact h.symm)),fl.aG z hz (fun h=>h)]⟩
 obtain⟨b',rfl,mU⟩:∃b',dT=some b'∧(b'=B.rp∨H1.size≤b'∧b'<H2.size):=by
  rcases fU with rfl| ⟨b',rfl,h2,h3⟩
  ·exact⟨_,rfl,.inl rfl⟩
  ·exact⟨b',rfl,.inr ⟨by omega,h3⟩⟩
 have hnr:B.n≠B.rp:=fun e=>by have:=m.rn;rw[e,m.rr]at this;cases this
 have o2:=e2.own o1 hnr
 obtain⟨wa,wc,O3⟩:=Sl.shape s2
 subst O3
 refine v1 o2 ?_
 have hln:B.n<H.size:=slt _ (fi m.rn nofun)
 have hlr:B.rp<H.size:=slt _ (fi m.rr nofun)
 have e3:∀v,ag (fun z=>z=B.n) H2 (H2.wr B.n [ptr B.c,ptr B.fb,v]):=fun v=>(ag.refl (fun z=>z=B.n) _).wr (fun _=>rfl) _
 obtain⟨nP,Ol⟩:∃nP:Nat→Rl,nP=fun z=>if z=b' then Rl.L0 else if z<H.size then ro z else @ite _ (C' z) (Classical.propDecidable _) Rl.cell Rl.no:=⟨_,rfl⟩
 have r1:nP b'= .L0:=by rw[Ol];show(if b'=b' then _ else _)=_;rw[if_pos rfl]
 have r2:∀z q,ro z=q→q≠ .no→q≠ .L0→nP z=q:=fun z q h1 h2 h3=>by
  have hz:=slt z (fi h1 h2)
  rw[Ol]
  show(if z=b' then _ else _)=_
  rw[if_neg (fun e=>?_),if_pos hz,h1]
  rcases mU with h|h
  ·exact h3 (by rw[←h1,e,h,m.rr])
  ·omega
 have r3:∀z,C' z→nP z= .cell:=fun z hz=>by
  have hzl:=Mf z hz
  by_cases dP:z<H.size
  ·rcases zi z hz with h|h
   ·exact r2 z _ (m.hC z h) nofun nofun
   ·omega
  ·rw[Ol]
   show(if z=b' then _ else _)=_
   rw[if_neg (by omega),if_neg dP,if_pos hz]
 have r4:∀z,dh nP z→dh ro z∨H.size≤z:=fun z hz=>by
  by_cases dP:z<H.size
  ·refine .inl fun h=>hz ?_
   rw[Ol]
   show(if z=b' then _ else _)=_
   rw[if_neg (fun e=>?_),if_pos dP,h]
   rcases mU with h'|h'
   ·rw[e,h',m.rr]at h;cases h
   ·omega
  ·exact .inr (by omega)
 have r5:∀z,H2.size≤z→nP z= .no:=fun z hz=>by
  have h2:=e2.size
  rw[Ol]
  show(if z=b' then _ else _)=_
  rw[if_neg (by omega),if_neg (by omega),if_neg (fun h=>by have:=Mf z h;omega)]
 have acu:∀v,(H2.wr B.n [ptr B.c,ptr B.fb,v]).size=H2.size:=fun v=>fu _ _ _
 have YW:∀z q,ro z=q→q≠ .L0→z≠B.rp:=fun z q h1 h2 e=>h2 (by rw[←h1,e,m.rr])
 have E1:∀z q,ro z=q→q≠ .SN→z≠B.n:=fun z q h1 h2 e=>h2 (by rw[←h1,e,m.rn])
 have aml:b'≠B.n:=by rcases mU with h|h<;>omega
 refine .inr ⟨h1,rfl,dh nP,⟨⟨B.n,B.c,B.fb,B.tb,b'⟩,nP,C',l,V,ch,par,kb,eF++[.slice none 0 0],rows,(fun k=>if k< (eF.length:Int)then rb k else none),rfl,⟨⟨_,ah o2,?_⟩,fun g h0 hg=>?_,?_,?_,r3,r2 _ _ m.rn nofun nofun,r1,fun g b h0 hg hb=>?_,fun z hz=>r5 z (by rw[acu]at hz;exact hz)⟩,f,by rw[aoy,hl];simp[Nw.make],fun z=>Iff.rfl⟩,?_,fun z hz=>(r4 z hz).imp_left fun h=>(hS z).2 h⟩
 ·rw[aoy]
  exact s2.ext (e3 _) (fun b hb=>by injection hb with hb;omega)
 ·rw[aoy,aoV]at hg
  by_cases dq:g<eF.length
  ·obtain⟨sv,q1,q2⟩:=m.row g h0 dq
   refine⟨sv,by rw[aoF (by omega)];exact q1,?_⟩
   rw[if_pos dq]
   exact((q2.ext e1 (fun b hb=>nc b _ (m.mz g b h0 dq hb) nofun)).ext e2 (fun b hb=>YW b _ (m.mz g b h0 dq hb) nofun)).ext (e3 _) (fun b hb=>E1 b _ (m.mz g b h0 dq hb) nofun)
  ·have MZ:g=(eF.length:Int):=by omega
   have hre:rows g=[]:=by
    cases hc:rows g with
    |nil=>rfl
    |cons c r=>
     obtain⟨h5,_,h6,_⟩:=f.rm g c (by rw[hc];simp)
     have:=((m.cells.hm c).2 (by omega)).2
     omega
   refine⟨.slice none 0 0,by rw[MZ,Int.toNat_natCast,aoP (aoB _)];simp,?_⟩
   rw[hre,if_neg dq]
   exact Sl.nil _ _
 ·exact(c1.ext e2 (fun z hz e=>by
   rcases zi z hz with h|h
   ·exact YW z _ (m.hC z h) nofun e
   ·omega)).ext (e3 _) (fun z hz e=>by
   rcases zi z hz with h|h
   ·exact E1 z _ (m.hC z h) nofun e
   ·omega)
 ·have hft:∀z,(ro z= .F9∨KB ro z)→(¬C z∧z≠B.rp)∧z≠B.n:=fun z hz=>by
   rcases hz with h|h| ⟨x,h⟩<;>exact⟨⟨nc z _ h nofun,YW z _ h nofun⟩,E1 z _ h nofun⟩
  have f1:=((m.fo.ext e1 (fun z hz=>(hft z hz).1.1)).ext e2 (fun z hz=>(hft z hz).1.2)).ext (e3 (.slice wa (eF.length+1) wc)) (fun z hz=>(hft z hz).2)
  exact⟨f1.t,f1.kd,r2 _ _ f1.rf nofun nofun,r2 _ _ f1.rt nofun nofun,fun x b h0 h1 hb=>r2 _ _ (f1.rk x b h0 h1 hb) nofun nofun,f1.G2,f1.no⟩
 ·rw[aoy,aoV]at hg
  by_cases dq:g<eF.length
  ·rw[if_pos dq]at hb
   exact r2 _ _ (m.mz g b h0 dq hb) nofun nofun
  ·rw[if_neg dq]at hb
   cases hb
 ·refine(((e1.mono fun z _ h=>?_).trans (e2.mono fun z _ h=>?_)).trans ((e3 _).mono fun z _ h=>?_):ag S H _)
  ·exact(hS z).2 (fi (m.hC z h) nofun)
  ·exact(hS z).2 (by rw[h];exact fi m.rr nofun)
  ·exact(hS z).2 (by rw[h];exact fi m.rn nofun)
theorem Tx(n:Nat):xu (.iface 154 (ptr n)) (gh n) where
 slt h:=h.slt
 ext h e hd:=h.ext e hd
 cells:=by
  rintro H S w ⟨B,ro,C,l,V,ch,par,kb,eF,rows,rb,rfl,m,f,hl,hS⟩
  exact⟨B.c,C,m.cells⟩
 has:=by
  rintro H S w g ⟨B,ro,C,l,V,ch,par,kb,eF,rows,rb,rfl,m,f,hl,hS⟩
  obtain⟨tv,ho,_⟩:=m.own
  exact⟨_,_,bu,ptr B.c,rfl,fG (off:=0) (by kernel_rfl) (ae ho) rfl,(ik m.cells g).mono fun v H' hp=>hp⟩
 make:=by
  intro H S w h
  exact⟨_,_,j5,ptr n,rfl,br (by kernel_rfl),(Ir h).mono fun v H' hp=>hp⟩
 insert:=by
  intro H S w g x k s h
  exact⟨_,_,iC,ptr n,rfl,br (by kernel_rfl),(EP h g x k s).mono fun v H' hp=>hp⟩
 min:=by
  intro H S w g h
  refine⟨_,_,lE,ptr n,rfl,br (by kernel_rfl),(BC h g).mono ?_⟩
  rintro v H' (⟨h1,rfl,h2,h3⟩| ⟨x,h1,rfl,h2,h3⟩)
  ·exact .inl ⟨h1,rfl,cA.same h2 h3⟩
  ·exact .inr ⟨x,h1,rfl,cA.same h2 h3⟩
 extract:=by
  intro H S w g h
  exact⟨_,_,hG,ptr n,rfl,br (by kernel_rfl),(Dm h g).mono fun v H' hp=>hp⟩
 nl:=by
  intro H S w x k s h
  exact⟨_,_,gz,ptr n,rfl,br (by kernel_rfl),(BE h x k s).mono fun v H' hp=>hp⟩
 entry:=by
  rintro H S w x ⟨B,ro,C,l,V,ch,par,kb,eF,rows,rb,rfl,m,f,hl,hS⟩
  obtain⟨tv,ho,_⟩:=m.own
  refine⟨_,_,ba,ptr B.c,rfl,fG (off:=0) (by kernel_rfl) (ae ho) rfl,(gB m.cells x).mono ?_⟩
  rintro v H' ⟨c1,f1,hv⟩
  exact⟨⟨B,ro,C,l,V,ch,par,kb,eF,rows,rb,rfl,m.fresh f1,f,hl,hS⟩,f1,hv⟩
theorem zt(n:Nat)(H:Hp):af Tryz.prog pt [ptr n,i64 0] H fun v H'=>ar (v= .tuple [.iface 154 (ptr n),i64 0].toArray∧H'=H):=by
 refine aZ pH ?_
 refine v1 aoW ?_
 exact⟨rfl,rfl⟩
theorem BF(n:Nat)(H:Hp):af Tryz.prog qI [ptr n,i64 0] H fun v H'=>ar (v= .tuple [.iface 158 (ptr n),i64 0].toArray∧H'=H):=by
 refine aZ qO ?_
 refine v1 aoW ?_
 exact⟨rfl,rfl⟩
theorem BG(n:Nat)(H:Hp):af Tryz.prog qJ [ptr n,i64 0] H fun v H'=>ar (v= .tuple [.iface 166 (ptr n),i64 0].toArray∧H'=H):=by
 refine aZ qP ?_
 refine v1 aoW ?_
 exact⟨rfl,rfl⟩
theorem GJ(n:Nat)(H:Hp):af Tryz.prog vJ [ptr n,i64 0] H fun v H'=>ar (v= .tuple [.iface 170 (ptr n),i64 0].toArray∧H'=H):=by
 refine aZ wg ?_
 refine v1 aoW ?_
 exact⟨rfl,rfl⟩
theorem GK(n:Nat)(H:Hp):af Tryz.prog vK [ptr n,i64 0] H fun v H'=>ar (v= .tuple [.iface 174 (ptr n),i64 0].toArray∧H'=H):=by
 refine aZ wh ?_
 refine v1 aoW ?_
 exact⟨rfl,rfl⟩
theorem Kj{kd dd cap:Int}(hf:kM kd dd)(hc:0≤cap∧cap≤65536)(H:Hp):af Tryz.prog IK [Mb kd dd,i64 cap] H fun v H'=>ar (∃t vv I Sn,v= .tuple [.iface t vv,i64 0].toArray∧xu (.iface t vv) I∧I H' Sn (Bf cap)∧am H H'∧∀z,Sn z→H.size≤z):=by
 refine aZ PU ?_
 refine vs ?_
 have f0:am H (H.new 23 [i64 kd,i64 dd]):=(ag.refl _ _).new _ _
 have o0:(H.new 23 [i64 kd,i64 dd]).own H.size=some [i64 kd,i64 dd]:=aD _ _ _
 have z0:(H.new 23 [i64 kd,i64 dd]).size=H.size+1:=aq _ _ _
 generalize H.new 23 [i64 kd,i64 dd]=H0 at*
 obtain rfl|rfl|rfl|rfl|rfl|rfl|rfl|rfl:kd=1∨kd=2∨kd=3∨kd=4∨kd=5∨kd=6∨kd=7∨kd=8:=by have:=hf.1;omega
 ·refine ai.bI (by decide) ?_
  refine v1 (ae o0) ?_
  refine ai.bI (by decide) ?_
  refine v1 (ae o0) ?_
  refine(ol hf (by decide) H0).mono ?_
  rintro _ H1 ⟨rfl,f1⟩
  refine vs ?_
  refine(xy cap _ H1).mono ?_
  rintro _ H2 ⟨f2,⟨hb,rfl⟩| ⟨_,hd,rfl⟩| ⟨_,hd,n,Sn,rfl,h2,Om⟩⟩
  ·exact absurd hc hb
  ·refine absurd ?_ hd
   obtain⟨_,h|h⟩:=hf
   ·first|exact⟨h.2.1,h.2.2⟩|exact absurd h.1 (by decide)
   ·first|exact⟨by decide,by decide⟩|exact absurd rfl h.1
  ·refine vs ?_
   refine(uW n H2).mono ?_
   rintro _ _ ⟨rfl,rfl⟩
   have z1:=f1.size
   refine vs ?_
   exact⟨_,_,_,Sn,rfl,Gr n _,⟨0,h2⟩,(f0.trans f1).trans f2,fun z hz=>by have:=Om z hz;omega⟩
 ·refine ai.aP (by decide) ?_
  refine vs ?_
  refine ai.bI (by decide) ?_
  refine v1 (ae o0) ?_
  refine(ol hf (by decide) H0).mono ?_
  rintro _ H1 ⟨rfl,f1⟩
  refine vs ?_
  refine(xy cap _ H1).mono ?_
  rintro _ H2 ⟨f2,⟨hb,rfl⟩| ⟨_,hd,rfl⟩| ⟨_,hd,n,Sn,rfl,h2,Om⟩⟩
  ·exact absurd hc hb
  ·refine absurd ?_ hd
   obtain⟨_,h|h⟩:=hf
   ·first|exact⟨h.2.1,h.2.2⟩|exact absurd h.1 (by decide)
   ·first|exact⟨by decide,by decide⟩|exact absurd rfl h.1
  ·refine vs ?_
   refine(uW n H2).mono ?_
   rintro _ _ ⟨rfl,rfl⟩
   have z1:=f1.size
   refine vs ?_
   exact⟨_,_,_,Sn,rfl,Gr n _,⟨0,h2⟩,(f0.trans f1).trans f2,fun z hz=>by have:=Om z hz;omega⟩
 ·refine ai.aP (by decide) ?_
  refine vs ?_
  refine ai.aP (by decide) ?_
  refine vs ?_
  refine ai.bI (by decide) ?_
  refine vs ?_
  refine(Ki cap H0).mono ?_
  rintro _ H2 ⟨f2,⟨hb,rfl⟩| ⟨_,n,Sn,rfl,h2,Om⟩⟩
  ·exact absurd hc hb
  ·refine vs ?_
   refine(zt n H2).mono ?_
   rintro _ _ ⟨rfl,rfl⟩
   refine vs ?_
   exact⟨_,_,_,Sn,rfl,Tx n,h2,f0.trans f2,fun z hz=>by have:=Om z hz;omega⟩
 ·refine ai.aP (by decide) ?_
  refine vs ?_
  refine ai.aP (by decide) ?_
  refine vs ?_
  refine ai.aP (by decide) ?_
  refine vs ?_
  refine ai.bI (by decide) ?_
  refine vs ?_
  refine(De cap H0).mono ?_
  rintro _ H2 ⟨f2,⟨hb,rfl⟩| ⟨_,n,Sn,rfl,h2,Om⟩⟩
  ·exact absurd hc hb
  ·refine vs ?_
   refine(BF n H2).mono ?_
   rintro _ _ ⟨rfl,rfl⟩
   refine vs ?_
   exact⟨_,_,_,Sn,rfl,Ke n,h2,f0.trans f2,fun z hz=>by have:=Om z hz;omega⟩
 ·refine ai.aP (by decide) ?_
  refine vs ?_
  refine ai.aP (by decide) ?_
  refine vs ?_
  refine ai.aP (by decide) ?_
  refine vs ?_
  refine ai.aP (by decide) ?_
  refine vs ?_
  refine ai.bI (by decide) ?_
  refine vs ?_
  refine(J5 cap H0).mono ?_
  rintro _ H2 ⟨f2,⟨hb,rfl⟩| ⟨_,n,Sn,rfl,h2,Om⟩⟩
  ·exact absurd hc hb
  ·refine vs ?_
   refine(xf n H2).mono ?_
   rintro _ _ ⟨rfl,rfl⟩
   refine vs ?_
   exact⟨_,_,_,Sn,rfl,Tf n,h2,f0.trans f2,fun z hz=>by have:=Om z hz;omega⟩
 ·refine ai.aP (by decide) ?_
  refine vs ?_
  refine ai.aP (by decide) ?_
  refine vs ?_
  refine ai.aP (by decide) ?_
  refine vs ?_
  refine ai.aP (by decide) ?_
  refine vs ?_
  refine ai.aP (by decide) ?_
  refine vs ?_
  refine ai.bI (by decide) ?_
  refine vs ?_
  refine(C0 cap H0).mono ?_
  rintro _ H2 ⟨f2,⟨hb,rfl⟩| ⟨_,n,Sn,rfl,h2,Om⟩⟩
  ·exact absurd hc hb
  ·refine vs ?_
   refine(BG n H2).mono ?_
   rintro _ _ ⟨rfl,rfl⟩
   refine vs ?_
   exact⟨_,_,_,Sn,rfl,JX n,h2,f0.trans f2,fun z hz=>by have:=Om z hz;omega⟩
 ·refine ai.aP (by decide) ?_
  refine vs ?_
  refine ai.aP (by decide) ?_
  refine vs ?_
  refine ai.aP (by decide) ?_
  refine vs ?_
  refine ai.aP (by decide) ?_
  refine vs ?_
  refine ai.aP (by decide) ?_
  refine vs ?_
  refine ai.aP (by decide) ?_
  refine vs ?_
  refine ai.bI (by decide) ?_
  refine vs ?_
  refine(If cap H0).mono ?_
  rintro _ H2 ⟨f2,⟨hb,rfl⟩| ⟨_,n,Sn,rfl,h2,Om⟩⟩
  ·exact absurd hc hb
  ·refine vs ?_
   refine(GJ n H2).mono ?_
   rintro _ _ ⟨rfl,rfl⟩
   refine vs ?_
   exact⟨_,_,_,Sn,rfl,QK n,h2,f0.trans f2,fun z hz=>by have:=Om z hz;omega⟩
 ·refine ai.aP (by decide) ?_
  refine vs ?_
  refine ai.aP (by decide) ?_
  refine vs ?_
  refine ai.aP (by decide) ?_
  refine vs ?_
  refine ai.aP (by decide) ?_
  refine vs ?_
  refine ai.aP (by decide) ?_
  refine vs ?_
  refine ai.aP (by decide) ?_
  refine vs ?_
  refine ai.aP (by decide) ?_
  refine vs ?_
  refine(HX cap H0).mono ?_
  rintro _ H2 ⟨f2,⟨hb,rfl⟩| ⟨_,n,Sn,rfl,h2,Om⟩⟩
  ·exact absurd hc hb
  ·refine vs ?_
   refine(GK n H2).mono ?_
   rintro _ _ ⟨rfl,rfl⟩
   refine vs ?_
   exact⟨_,_,_,Sn,rfl,NY n,⟨0,h2⟩,f0.trans f2,fun z hz=>by have:=Om z hz;omega⟩
theorem Ty{kd dd:Int}(hf:kM kd dd):Pb kd dd:=fun _ hc H=>Kj hf hc H
end Go.Proofs.YthpjfeolagohkaaGreat
