import Derived.Test.YtjlnnljohemifaaGreatK98
import Derived.Test.YtjlnnljohemifaaGreatK13
import Derived.Test.YtjlnnljohemifaaGreatK17
import Derived.Test.YtjlnnljohemifaaGreatK21
import Derived.Test.YtjlnnljohemifaaGreatK22
import Derived.Test.YtjlnnljohemifaaGreatK24
import Derived.Test.YtjlnnljohemifaaGreatK30
import Derived.Test.YtjlnnljohemifaaGreatK34
import Derived.Test.YtjlnnljohemifaaGreatK36
import Derived.Test.YtjlnnljohemifaaGreatK0
import Derived.Test.YtjlnnljohemifaaGreatK1
import Derived.Test.YtjlnnljohemifaaGreatK28
import Derived.KernelRfl
import Derived.Test.YtjlnnljohemifaaGreatK38
import Derived.Test.YtjlnnljohemifaaGreatK40
import Derived.Test.YtjlnnljohemifaaGreatK41
import Derived.Test.YtjlnnljohemifaaGreatK42
set_option maxRecDepth 100000
set_option maxHeartbeats 8000000
set_option linter.unusedVariables false
set_option linter.unusedSimpArgs false
namespace Go.Proofs.YtjlnnljohemifaaGreat
open Go Go.Vc
theorem xk{H:Hp}{C:Nat→Prop}{w:Nw}{b3 b4 n c:Nat}{x:Int}{rest:List Value}(h3:H.own b3=some [ptr n])(h4:H.own b4=some [i64 x])(hn:H.own n=some (ptr c::rest))(cq:CQ H c C w){p:Int}(hx:0<aG w x)(hp:0<aG w p):
  af Tryz.prog fG [i64 p,ptr b3,ptr b4] H fun v H'=>aw (v= .bool (aQ w x p)∧CQ H' c C w∧ag C H H'):=by
 refine vl mixed (an:=ni) (by conv=>lhs;cbv) (nt:=12) (by kernel_rfl) (by simp) ?_
 refine v3 (ae h3) (ae h4) (ae hn) ?_
 refine(cD cq x p).mono ?_
 rintro _ H1 ⟨rfl,c1,e1⟩
 rw[gN (w:=w) (a:=x) (b:=p) hx hp]
 refine vs ?_
 exact⟨rfl,c1,e1⟩
theorem Bv{n:Nat}{H:Hp}{S:Nat→Prop}{w:Nw}(h:gw n H S w)(x k s:Int):af Tryz.prog gJ [ptr n,i64 x,tz k s] H fun v H'=>aw (
  (¬w.cX x k s∧v= .bool false∧cz (gw n) S H H' w)∨(w.cX x k s∧v= .bool true∧∃y,w.cs[x.toNat]? =some y∧cz (gw n) S H H' (w.put x (y.1,k,s)))):=by
 obtain⟨B,ro,C,l,V,ch,par,kb,cN,rows,rb,rfl,m,f,hl,hS⟩:=h
 have hC:∀z,C z→S z:=fun z h=>(hS z).2 (eZ (m.hC z h) nofun)
 have hSR:∀z,S z→z<H.size:=fun z hz=>m.slt z ((hS z).1 hz)
 refine bm oF ?_
 refine vs ?_
 have f0:ai H (((H.new 198 [ptr B.n]).new 3 [i64 x]).new 224 [i64 k,u64 s]):=(((ag.refl _ _).new _ _).new _ _).new _ _
 have b3:(((H.new 198 [ptr B.n]).new 3 [i64 x]).new 224 [i64 k,u64 s]).own H.size=some [ptr B.n]:=by
  rw[ci (by simp only[aq];omega),ci (by simp only[aq];omega),aB]
 have b4:(((H.new 198 [ptr B.n]).new 3 [i64 x]).new 224 [i64 k,u64 s]).own (H.size+1)=some [i64 x]:=by
  rw[ci (by simp only[aq];omega)]
  exact aV (by simp only[aq])
 have b5:(((H.new 198 [ptr B.n]).new 3 [i64 x]).new 224 [i64 k,u64 s]).own (H.size+1+1)=some [i64 k,u64 s]:=aV (by simp only[aq])
 have m0:=m.fresh f0
 generalize ((H.new 198 [ptr B.n]).new 3 [i64 x]).new 224 [i64 k,u64 s]=H0 at*
 have ff:ag S H H0:=f0.mono fun _ _ h=>h.elim
 obtain⟨tv,Hy,_⟩:=m0.own
 refine v4 (ae b3) (ae b4) (ae Hy) (ae b5) ?_
 refine(gM m0.cells x k s).mono ?_
 rintro _ H1 (⟨bK,rfl,c1,e1⟩| ⟨bJ,rfl,y,hy,fh,c1,e1⟩)
 ·refine vs ?_
  exact .inl ⟨bK,rfl,cz.same ⟨B,ro,C,l,V,ch,par,kb,cN,rows,rb,rfl,m0.ext e1 (fun _ _ h=>h),f,hl,hS⟩ (ff.trans (e1.mono fun _ _ h=>h.elim))⟩
 have my:(w.put x (y.1,k,s)).cs.length=w.cs.length:=by simp[Nw.put]
 have m1:=m0.aJ c1 e1 my
 have AY:w.cX x k s:=⟨bJ,fun z hz=>by rw[hy]at hz;injection hz with hz;rw[←hz];exact fh⟩
 have hx:0≤x∧x<w.cs.length:=⟨bJ.1,by have:=(anu.1 hy).1;have:=bJ.1;omega⟩
 have Qv:aG w x=y.1:=j0 bJ.1 hy
 have dF:=bq.2 bJ
 have hw:aG (w.put x (y.1,k,s))=aG w:=by
  funext z
  rw[dS hx]
  split
  ·rename_i e;rw[e,Qv]
  ·rfl
 have Eh:cT (w.put x (y.1,k,s)).cs x:=bq.1 (by rw[hw];exact dF)
 have el:∀a b,0<aG w a→0<aG w b→a≠x→b≠x→aQ (w.put x (y.1,k,s)) a b=aQ w a b:=fun a b ha hb tG me=>du hx _ ha hb tG me
 have ex:∀b,0<aG w b→b≠x→aQ w x b=true→aQ (w.put x (y.1,k,s)) x b=true:=fun b hb me h=>AR bJ hy fh hb me h
 have ls:=ar w
 have SZ:=ar (w.put x (y.1,k,s))
 have nC:∀z,H.size≤z→¬C z:=fun z hz hc=>by have:=hSR z (hC z hc);omega
 have b31:=e1.own b3 (nC _ (anG _))
 have b41:=e1.own b4 (nC _ (by omega))
 obtain⟨Cx,o1,_⟩:=m1.own
 have xS:=m.Sq hl ((m.cells.hm x).2 dF).1
 have hhl:(w.put x (y.1,k,s)).hs.length=w.hs.length:=by simp[Nw.put]
 refine v3 (ae b31) (ae b41) (ae o1) ?_
 refine(de m1.cells x).mono ?_
 rintro _ H2 (⟨bK,_,_⟩| ⟨_,rfl,c2,e2⟩)
 ·exact absurd Eh bK
 have m2:=m1.aJ c2 e2 rfl
 have o8:ag S H H2:=(ff.trans (e1.mono fun z _ h=>hC z h)).trans (e2.mono fun z _ h=>hC z h)
 have b32:=e2.own b31 (nC _ (anG _))
 have b42:=e2.own b41 (nC _ (by omega))
 rw[hw]
 refine v2 (ae b32) (ae b42) ?_
 have f2:Mf (aG (w.put x (y.1,k,s))) (aQ (w.put x (y.1,k,s))) ch par rows [] x:=by
  rw[hw]
  exact Mf.start ls f el
 have hE0:∀d∈ch x,aQ (w.put x (y.1,k,s)) x d=true:=fun d hd=>by
  obtain⟨_,_,_,h4,h5⟩:=f.pr.dn x d hd
  exact ex d h4 (fun e=>by have:=f.less hd;rw[e]at this;omega) h5
 have hsR:∀z,dE ro z→z<H.size:=m.slt
 refine(HO m2 f2 (g:=aG w x) (by rw[hw]) dF xS fG [ptr H.size,ptr (H.size+1)] (fun p=>aQ (w.put x (y.1,k,s)) x p) (fun H'=>H'.own H.size=some [ptr B.n]∧H'.own (H.size+1)=some [i64 x]∧∃tv,H'.own B.n=some [ptr B.c,ptr B.fb,tv])
  (fun ch=>∀d∈ch x,aQ (w.put x (y.1,k,s)) x d=true) ?_ (fun H' Gu hJ e=>?_) (by kernel_rfl) (fun H' p hJ cq hp=>?_) hE0 (fun ch par rows p cx JZ hq _=>cx.low SZ JZ hq)).mono ?_
 ·obtain⟨Nb,o2,_⟩:=m2.own
  exact⟨b32,b42,Nb,o2⟩
 ·obtain⟨j1,j2,Nb,o2⟩:=hJ
  exact⟨e.own j1 (fun h=>by have:=hsR _ h.1;omega),e.own j2 (fun h=>by have:=hsR _ h.1;omega),Nb,e.own o2 (fun h=>h.2 rfl)⟩
 ·obtain⟨j1,j2,Nb,o2⟩:=hJ
  exact xk j1 j2 o2 cq (by rw[hw];exact dF) hp
 rintro _ H3 ⟨Qb,l3,V3,Me,oR,Xr,Bu,m3,f3,hE3,hq3,Td,e3⟩
 refine vs ?_
 have f4:=f3.done hE3 (fun hp=>by
  rcases hq3 with h|h
  ·exact absurd h hp
  ·have hxc:=f3.w.pr.up x _ rfl hp
   have Xx:=f3.w.less hxc
   exact(SZ.Ob (oR x) x (fun e=>by rw[e]at Xx;omega)).resolve_right (by rw[h];simp))
 have z2:=o8.size
 refine .inr ⟨AY,rfl,y,hy,dE Qb,⟨B,Qb,C,l3,V3,Me,oR,Xr,cN,Bu,rb,rfl,m3,f4,by rw[hl,hhl],fun z=>Iff.rfl⟩,o8.trans (e3.mono fun z _ h=>(hS z).2 h),fun z hz=>.inl ((hS z).2 (Td z hz))⟩
theorem JM(cap:Int)(H:Hp):af Tryz.prog Fk [i64 cap] H fun v H'=>aw (
  ai H H'∧((¬ (0≤cap∧cap≤65536)∧v= .tuple [.pointer none,i64 31].toArray)∨
   ((0≤cap∧cap≤65536)∧∃n S,v= .tuple [ptr n,i64 0].toArray∧gw n H' S (zj cap)∧∀x,S x→H.size≤x))):=by
 refine bm Fp ?_
 refine vs ?_
 refine(k8 cap H).mono ?_
 rintro _ H1 ⟨f1,⟨hb,rfl⟩| ⟨hb,c,C,rfl,c1,hC⟩⟩
 ·refine vs ?_
  exact⟨f1,.inl ⟨hb,rfl⟩⟩
 refine vs ?_
 refine(Gd H1 hb).mono ?_
 rintro _ H2 ⟨fb,tb,l,rfl,t2,f2,SS,UY⟩
 have c2:=c1.fresh f2
 refine vs ?_
 have xE:=c1.slt
 have z1:=f1.size
 have z2:=f2.size
 have hts:=t2.RC
 have aP:=t2.ne
 have f3:ai H2 ((H2.new 24 [.slice none 0 0]).new 260 [ptr c,ptr fb,.slice (some ⟨H2.size,0,none⟩) 1 1]):=((ag.refl _ _).new _ _).new _ _
 have e2:ag (fun _=>False) (H2.new 24 [.slice none 0 0]) ((H2.new 24 [.slice none 0 0]).new 260 [ptr c,ptr fb,.slice (some ⟨H2.size,0,none⟩) 1 1]):=(ag.refl _ _).new _ _
 have z3:((H2.new 24 [.slice none 0 0]).new 260 [ptr c,ptr fb,.slice (some ⟨H2.size,0,none⟩) 1 1]).size=H2.size+1+1:=by simp only[aq]
 obtain⟨ro,NB⟩:∃ro:Nat→Rl,ro=fun z=>if z=H2.size+1 then Rl.RB else if z=H2.size then Rl.Lo else if z=fb then Rl.FK else if z=tb then Rl.table else @ite _ (C z) (Classical.propDecidable _) Rl.cell Rl.no:=⟨_,rfl⟩
 have r1:ro (H2.size+1)= .RB:=by rw[NB];simp
 have r2:ro H2.size= .Lo:=by rw[NB];simp
 have r3:ro fb= .FK:=by rw[NB];show(if fb=H2.size+1 then _ else _)=_;rw[if_neg (by omega),if_neg (by omega),if_pos rfl]
 have r4:ro tb= .table:=by rw[NB];show(if tb=H2.size+1 then _ else _)=_;rw[if_neg (by omega),if_neg (by omega),if_neg (by omega),if_pos rfl]
 have r5:∀z,C z→ro z= .cell:=fun z hz=>by
  have:=xE z hz
  rw[NB];show(if z=H2.size+1 then _ else _)=_;rw[if_neg (by omega),if_neg (by omega),if_neg (by omega),if_neg (by omega),if_pos hz]
 have r6:∀z,ro z≠ .no→H.size≤z∧z<H2.size+1+1:=fun z hz=>by
  rw[NB]at hz
  simp only at hz
  split at hz
  ·omega
  ·split at hz
   ·omega
   ·split at hz
    ·omega
    ·split at hz
     ·omega
     ·split at hz
      ·rename_i h
       have:=hC z h
       have:=xE z h
       omega
      ·exact absurd rfl hz
 have nO:(zj cap).cs.length=cap.toNat:=by simp[zj]
 refine⟨(f1.trans f2).trans f3,.inr ⟨hb,H2.size+1,dE ro,rfl,⟨⟨H2.size+1,c,fb,tb,H2.size⟩,ro,C,l,fun _=>.slice none 0 0,fun _=>[],fun _=> -1,fun _=>none,[.slice none 0 0],fun _=>[],fun _=>none,rfl,⟨⟨.slice (some ⟨H2.size,0,none⟩) 1 1,aV (by simp only[aq]),?_⟩,fun g h0 h1=>?_,c2.fresh f3,?_,r5,r1,r2,fun g b _ _ h=>(by cases h),fun z hz=>?_⟩,
  ⟨⟨rfl,fun x c hc=>absurd hc (by simp),fun c x h hx=>absurd (Eq.symm h) hx,fun x=>aoG⟩,fun x i c hc=>by simp at hc,fun h=>List.Pairwise.nil,fun h c hc=>absurd hc (by simp),aoG,fun c hc=>absurd hc (by simp),fun c hc=>absurd hc (lf cap c)⟩,rfl,fun z=>Iff.rfl⟩,fun z hz=>(r6 z hz).1⟩⟩
 ·exact(Sl.cf (size:=1) (n:=1) (xs:=[.slice none 0 0]) rfl rfl).ext e2 (fun _ _ h=>h)
 ·have h1:g<1:=h1
  have hg:g=0:=by omega
  subst hg
  exact⟨.slice none 0 0,rfl,Sl.nil _ _⟩
 ·rw[nO]
  exact⟨t2.ext f3 (fun h=>h) (fun h=>h),fun x h0 h1=>Sl.nil _ _,r3,r4,fun x b _ _ h=>(by cases h),fun x c hc=>absurd hc (by simp),fun _ _=>rfl⟩
 ·apply anW
  intro h
  have:=(r6 z h).2
  have hz':H2.size+1+1≤z:=by rw[←z3];exact hz
  omega
theorem HP{n:Nat}{H:Hp}{S:Nat→Prop}{w:Nw}(h:gw n H S w):af Tryz.prog kI [ptr n] H fun v H'=>aw (
  (w.hs.length=65537∧v=i64 0∧cz (gw n) S H H' w)∨(w.hs.length≠65537∧v=i64 w.hs.length∧cz (gw n) S H H' w.make)):=by
 obtain⟨B,ro,C,l,V,ch,par,kb,cN,rows,rb,rfl,m,f,hl,hS⟩:=id h
 obtain⟨tv,ho,zH⟩:=m.own
 refine bm ug ?_
 refine v1 (ae ho) ?_
 refine(jf m.cells).mono ?_
 rintro _ H1 (⟨h1,rfl,rfl⟩| ⟨h1,rfl,C',c1,e1,zk⟩)
 ·refine vs ?_
  exact .inl ⟨h1,rfl,cz.same h (ag.refl _ _)⟩
 have fY:=m.cells.pos
 have hhs:=m.cells.zH
 have slt:=m.slt
 have Lv:=c1.slt
 have z1:=e1.size
 have nc:∀z q,ro z=q→q≠ .cell→¬C z:=fun z q h1 h2 hc=>h2 (by rw[←h1,m.hC z hc])
 have o1:=e1.own ho (nc _ _ m.rn nofun)
 refine vs ?_
 refine am.cF (anI (by omega)) ?_
 refine v1 (ae o1) ?_
 have s1:=zH.ext e1 (fun b hb=>by injection hb with hb;subst hb;exact nc _ _ m.rr nofun)
 have fl:ai H1 (H1.new 24 [.slice none 0 0]):=(ag.refl _ _).new _ _
 have zl:(H1.new 24 [.slice none 0 0]).size=H1.size+1:=aq _ _ _
 refine Sl.append (s1.ext fl (fun _ _ h=>h)) (Sl.cf (size:=1) (n:=1) (xs:=[.slice none 0 0]) rfl rfl).rd rfl (fun v hv=>by rw[anC.1 hv];rfl) (by omega) ?_
 intro w' H2 cO s2 e2' gu
 have e2:ag (fun z=>z=B.rp) H1 H2:=⟨aor fl.size e2'.size,fun z hz hn=>by
  rw[e2'.aM z (anT hz fl.size) (fun h=>hn (by injection h with h;exact h.symm)),fl.aM z hz (fun h=>h)]⟩
 obtain⟨b',rfl,jy⟩:∃b',cO=some b'∧(b'=B.rp∨H1.size≤b'∧b'<H2.size):=by
  rcases gu with rfl| ⟨b',rfl,h2,h3⟩
  ·exact⟨_,rfl,.inl rfl⟩
  ·exact⟨b',rfl,.inr ⟨by omega,h3⟩⟩
 have hnr:B.n≠B.rp:=fun e=>by have:=m.rn;rw[e,m.rr]at this;cases this
 have o2:=e2.own o1 hnr
 obtain⟨wa,wc,Oo⟩:=Sl.shape s2
 subst Oo
 refine v1 o2 ?_
 have hln:B.n<H.size:=slt _ (eZ m.rn nofun)
 have Y1:B.rp<H.size:=slt _ (eZ m.rr nofun)
 have e3:∀v,ag (fun z=>z=B.n) H2 (H2.wr B.n [ptr B.c,ptr B.fb,v]):=fun v=>(ag.refl (fun z=>z=B.n) _).wr (fun _=>rfl) _
 obtain⟨nU,NB⟩:∃nU:Nat→Rl,nU=fun z=>if z=b' then Rl.Lo else if z<H.size then ro z else @ite _ (C' z) (Classical.propDecidable _) Rl.cell Rl.no:=⟨_,rfl⟩
 have r1:nU b'= .Lo:=by rw[NB];show(if b'=b' then _ else _)=_;rw[if_pos rfl]
 have r2:∀z q,ro z=q→q≠ .no→q≠ .Lo→nU z=q:=fun z q h1 h2 h3=>by
  have hz:=slt z (eZ h1 h2)
  rw[NB]
  show(if z=b' then _ else _)=_
  rw[if_neg (fun e=>?_),if_pos hz,h1]
  rcases jy with h|h
  ·exact h3 (by rw[←h1,e,h,m.rr])
  ·omega
 have r3:∀z,C' z→nU z= .cell:=fun z hz=>by
  have hzl:=Lv z hz
  by_cases dM:z<H.size
  ·rcases zk z hz with h|h
   ·exact r2 z _ (m.hC z h) nofun nofun
   ·omega
  ·rw[NB]
   show(if z=b' then _ else _)=_
   rw[if_neg (by omega),if_neg dM,if_pos hz]
 have r4:∀z,dE nU z→dE ro z∨H.size≤z:=fun z hz=>by
  by_cases dM:z<H.size
  ·refine .inl fun h=>hz ?_
   rw[NB]
   show(if z=b' then _ else _)=_
   rw[if_neg (fun e=>?_),if_pos dM,h]
   rcases jy with h'|h'
   ·rw[e,h',m.rr]at h;cases h
   ·omega
  ·exact .inr (by omega)
 have r5:∀z,H2.size≤z→nU z= .no:=fun z hz=>by
  have h2:=e2.size
  rw[NB]
  show(if z=b' then _ else _)=_
  rw[if_neg (by omega),if_neg (by omega),if_neg (fun h=>by have:=Lv z h;omega)]
 have age:∀v,(H2.wr B.n [ptr B.c,ptr B.fb,v]).size=H2.size:=fun v=>ec _ _ _
 have Xy:∀z q,ro z=q→q≠ .Lo→z≠B.rp:=fun z q h1 h2 e=>h2 (by rw[←h1,e,m.rr])
 have Jr:∀z q,ro z=q→q≠ .RB→z≠B.n:=fun z q h1 h2 e=>h2 (by rw[←h1,e,m.rn])
 have alt:b'≠B.n:=by rcases jy with h|h<;>omega
 refine .inr ⟨h1,rfl,dE nU,⟨⟨B.n,B.c,B.fb,B.tb,b'⟩,nU,C',l,V,ch,par,kb,cN++[.slice none 0 0],rows,(fun k=>if k< (cN.length:Int)then rb k else none),rfl,⟨⟨_,ah o2,?_⟩,fun g h0 hg=>?_,?_,?_,r3,r2 _ _ m.rn nofun nofun,r1,fun g b h0 hg hb=>?_,fun z hz=>r5 z (by rw[age]at hz;exact hz)⟩,f,by rw[anD,hl];simp[Nw.make],fun z=>Iff.rfl⟩,?_,fun z hz=>(r4 z hz).imp_left fun h=>(hS z).2 h⟩
 ·rw[anD]
  exact s2.ext (e3 _) (fun b hb=>by injection hb with hb;omega)
 ·rw[anD,anM]at hg
  by_cases di:g<cN.length
  ·obtain⟨sv,q1,q2⟩:=m.row g h0 di
   refine⟨sv,by rw[anJ (by omega)];exact q1,?_⟩
   rw[if_pos di]
   exact((q2.ext e1 (fun b hb=>nc b _ (m.mF g b h0 di hb) nofun)).ext e2 (fun b hb=>Xy b _ (m.mF g b h0 di hb) nofun)).ext (e3 _) (fun b hb=>Jr b _ (m.mF g b h0 di hb) nofun)
  ·have OP:g=(cN.length:Int):=by omega
   have hre:rows g=[]:=by
    cases hc:rows g with
    |nil=>rfl
    |cons c r=>
     obtain⟨h5,_,h6,_⟩:=f.rm g c (by rw[hc];simp)
     have:=((m.cells.hm c).2 (by omega)).2
     omega
   refine⟨.slice none 0 0,by rw[OP,Int.toNat_natCast,anX (anG _)];simp,?_⟩
   rw[hre,if_neg di]
   exact Sl.nil _ _
 ·exact(c1.ext e2 (fun z hz e=>by
   rcases zk z hz with h|h
   ·exact Xy z _ (m.hC z h) nofun e
   ·omega)).ext (e3 _) (fun z hz e=>by
   rcases zk z hz with h|h
   ·exact Jr z _ (m.hC z h) nofun e
   ·omega)
 ·have Xz:∀z,(ro z= .FK∨KB ro z)→(¬C z∧z≠B.rp)∧z≠B.n:=fun z hz=>by
   rcases hz with h|h| ⟨x,h⟩<;>exact⟨⟨nc z _ h nofun,Xy z _ h nofun⟩,Jr z _ h nofun⟩
  have f1:=((m.fo.ext e1 (fun z hz=>(Xz z hz).1.1)).ext e2 (fun z hz=>(Xz z hz).1.2)).ext (e3 (.slice wa (cN.length+1) wc)) (fun z hz=>(Xz z hz).2)
  exact⟨f1.t,f1.kd,r2 _ _ f1.rf nofun nofun,r2 _ _ f1.rt nofun nofun,fun x b h0 h1 hb=>r2 _ _ (f1.rk x b h0 h1 hb) nofun nofun,f1.GA,f1.no⟩
 ·rw[anD,anM]at hg
  by_cases di:g<cN.length
  ·rw[if_pos di]at hb
   exact r2 _ _ (m.mF g b h0 di hb) nofun nofun
  ·rw[if_neg di]at hb
   cases hb
 ·refine(((e1.mono fun z _ h=>?_).trans (e2.mono fun z _ h=>?_)).trans ((e3 _).mono fun z _ h=>?_):ag S H _)
  ·exact(hS z).2 (eZ (m.hC z h) nofun)
  ·exact(hS z).2 (by rw[h];exact eZ m.rr nofun)
  ·exact(hS z).2 (by rw[h];exact eZ m.rn nofun)
theorem Ss(n:Nat):xK (.iface 198 (ptr n)) (gw n) where
 slt h:=h.slt
 ext h e hd:=h.ext e hd
 cells:=by
  rintro H S w ⟨B,ro,C,l,V,ch,par,kb,cN,rows,rb,rfl,m,f,hl,hS⟩
  exact⟨B.c,C,m.cells⟩
 has:=by
  rintro H S w g ⟨B,ro,C,l,V,ch,par,kb,cN,rows,rb,rfl,m,f,hl,hS⟩
  obtain⟨tv,ho,_⟩:=m.own
  exact⟨_,_,bD,ptr B.c,rfl,fD (off:=0) (by kernel_rfl) (ae ho) rfl,(iD m.cells g).mono fun v H' hp=>hp⟩
 make:=by
  intro H S w h
  exact⟨_,_,kI,ptr n,rfl,bC (by kernel_rfl),(HP h).mono fun v H' hp=>hp⟩
 insert:=by
  intro H S w g x k s h
  exact⟨_,_,iQ,ptr n,rfl,bC (by kernel_rfl),(Es h g x k s).mono fun v H' hp=>hp⟩
 min:=by
  intro H S w g h
  refine⟨_,_,lO,ptr n,rfl,bC (by kernel_rfl),(Bs h g).mono ?_⟩
  rintro v H' (⟨h1,rfl,h2,h3⟩| ⟨x,h1,rfl,h2,h3⟩)
  ·exact .inl ⟨h1,rfl,cz.same h2 h3⟩
  ·exact .inr ⟨x,h1,rfl,cz.same h2 h3⟩
 extract:=by
  intro H S w g h
  exact⟨_,_,is,ptr n,rfl,bC (by kernel_rfl),(CY h g).mono fun v H' hp=>hp⟩
 ld:=by
  intro H S w x k s h
  exact⟨_,_,gJ,ptr n,rfl,bC (by kernel_rfl),(Bv h x k s).mono fun v H' hp=>hp⟩
 entry:=by
  rintro H S w x ⟨B,ro,C,l,V,ch,par,kb,cN,rows,rb,rfl,m,f,hl,hS⟩
  obtain⟨tv,ho,_⟩:=m.own
  refine⟨_,_,bc,ptr B.c,rfl,fD (off:=0) (by kernel_rfl) (ae ho) rfl,(gL m.cells x).mono ?_⟩
  rintro v H' ⟨c1,f1,hv⟩
  exact⟨⟨B,ro,C,l,V,ch,par,kb,cN,rows,rb,rfl,m.fresh f1,f,hl,hS⟩,f1,hv⟩
theorem zx(n:Nat)(H:Hp):af Tryz.prog pE [ptr n,i64 0] H fun v H'=>aw (v= .tuple [.iface 198 (ptr n),i64 0].toArray∧H'=H):=by
 refine bm pP ?_
 refine v1 aoi ?_
 exact⟨rfl,rfl⟩
theorem Bw(n:Nat)(H:Hp):af Tryz.prog qQ [ptr n,i64 0] H fun v H'=>aw (v= .tuple [.iface 202 (ptr n),i64 0].toArray∧H'=H):=by
 refine bm rq ?_
 refine v1 aoi ?_
 exact⟨rfl,rfl⟩
theorem Bx(n:Nat)(H:Hp):af Tryz.prog qR [ptr n,i64 0] H fun v H'=>aw (v= .tuple [.iface 210 (ptr n),i64 0].toArray∧H'=H):=by
 refine bm ry ?_
 refine v1 aoi ?_
 exact⟨rfl,rfl⟩
theorem Gg(n:Nat)(H:Hp):af Tryz.prog vJ [ptr n,i64 0] H fun v H'=>aw (v= .tuple [.iface 214 (ptr n),i64 0].toArray∧H'=H):=by
 refine bm wq ?_
 refine v1 aoi ?_
 exact⟨rfl,rfl⟩
theorem Gh(n:Nat)(H:Hp):af Tryz.prog vK [ptr n,i64 0] H fun v H'=>aw (v= .tuple [.iface 218 (ptr n),i64 0].toArray∧H'=H):=by
 refine bm wu ?_
 refine v1 aoi ?_
 exact⟨rfl,rfl⟩
theorem JN{kd dd cap:Int}(hf:jk kd dd)(hc:0≤cap∧cap≤65536)(H:Hp):af Tryz.prog Ij [Nf kd dd,i64 cap] H fun v H'=>aw (∃t vv I Sn,v= .tuple [.iface t vv,i64 0].toArray∧xK (.iface t vv) I∧I H' Sn (zj cap)∧ai H H'∧∀z,Sn z→H.size≤z):=by
 refine bm Ph ?_
 refine vs ?_
 have f0:ai H (H.new 23 [i64 kd,i64 dd]):=(ag.refl _ _).new _ _
 have o0:(H.new 23 [i64 kd,i64 dd]).own H.size=some [i64 kd,i64 dd]:=aB _ _ _
 have z0:(H.new 23 [i64 kd,i64 dd]).size=H.size+1:=aq _ _ _
 generalize H.new 23 [i64 kd,i64 dd]=H0 at*
 obtain rfl|rfl|rfl|rfl|rfl|rfl|rfl|rfl:kd=1∨kd=2∨kd=3∨kd=4∨kd=5∨kd=6∨kd=7∨kd=8:=by have:=hf.1;omega
 ·refine am.cF (by decide) ?_
  refine v1 (ae o0) ?_
  refine am.cF (by decide) ?_
  refine v1 (ae o0) ?_
  refine(ol hf (by decide) H0).mono ?_
  rintro _ H1 ⟨rfl,f1⟩
  refine vs ?_
  refine(xO cap _ H1).mono ?_
  rintro _ H2 ⟨f2,⟨hb,rfl⟩| ⟨_,hd,rfl⟩| ⟨_,hd,n,Sn,rfl,h2,NC⟩⟩
  ·exact absurd hc hb
  ·refine absurd ?_ hd
   obtain⟨_,h|h⟩:=hf
   ·first|exact⟨h.2.1,h.2.2⟩|exact absurd h.1 (by decide)
   ·first|exact⟨by decide,by decide⟩|exact absurd rfl h.1
  ·refine vs ?_
   refine(uQ n H2).mono ?_
   rintro _ _ ⟨rfl,rfl⟩
   have z1:=f1.size
   refine vs ?_
   exact⟨_,_,_,Sn,rfl,F0 n _,⟨0,h2⟩,(f0.trans f1).trans f2,fun z hz=>by have:=NC z hz;omega⟩
 ·refine am.aW (by decide) ?_
  refine vs ?_
  refine am.cF (by decide) ?_
  refine v1 (ae o0) ?_
  refine(ol hf (by decide) H0).mono ?_
  rintro _ H1 ⟨rfl,f1⟩
  refine vs ?_
  refine(xO cap _ H1).mono ?_
  rintro _ H2 ⟨f2,⟨hb,rfl⟩| ⟨_,hd,rfl⟩| ⟨_,hd,n,Sn,rfl,h2,NC⟩⟩
  ·exact absurd hc hb
  ·refine absurd ?_ hd
   obtain⟨_,h|h⟩:=hf
   ·first|exact⟨h.2.1,h.2.2⟩|exact absurd h.1 (by decide)
   ·first|exact⟨by decide,by decide⟩|exact absurd rfl h.1
  ·refine vs ?_
   refine(uQ n H2).mono ?_
   rintro _ _ ⟨rfl,rfl⟩
   have z1:=f1.size
   refine vs ?_
   exact⟨_,_,_,Sn,rfl,F0 n _,⟨0,h2⟩,(f0.trans f1).trans f2,fun z hz=>by have:=NC z hz;omega⟩
 ·refine am.aW (by decide) ?_
  refine vs ?_
  refine am.aW (by decide) ?_
  refine vs ?_
  refine am.cF (by decide) ?_
  refine vs ?_
  refine(JM cap H0).mono ?_
  rintro _ H2 ⟨f2,⟨hb,rfl⟩| ⟨_,n,Sn,rfl,h2,NC⟩⟩
  ·exact absurd hc hb
  ·refine vs ?_
   refine(zx n H2).mono ?_
   rintro _ _ ⟨rfl,rfl⟩
   refine vs ?_
   exact⟨_,_,_,Sn,rfl,Ss n,h2,f0.trans f2,fun z hz=>by have:=NC z hz;omega⟩
 ·refine am.aW (by decide) ?_
  refine vs ?_
  refine am.aW (by decide) ?_
  refine vs ?_
  refine am.aW (by decide) ?_
  refine vs ?_
  refine am.cF (by decide) ?_
  refine vs ?_
  refine(CS cap H0).mono ?_
  rintro _ H2 ⟨f2,⟨hb,rfl⟩| ⟨_,n,Sn,rfl,h2,NC⟩⟩
  ·exact absurd hc hb
  ·refine vs ?_
   refine(Bw n H2).mono ?_
   rintro _ _ ⟨rfl,rfl⟩
   refine vs ?_
   exact⟨_,_,_,Sn,rfl,JI n,h2,f0.trans f2,fun z hz=>by have:=NC z hz;omega⟩
 ·refine am.aW (by decide) ?_
  refine vs ?_
  refine am.aW (by decide) ?_
  refine vs ?_
  refine am.aW (by decide) ?_
  refine vs ?_
  refine am.aW (by decide) ?_
  refine vs ?_
  refine am.cF (by decide) ?_
  refine vs ?_
  refine(JB cap H0).mono ?_
  rintro _ H2 ⟨f2,⟨hb,rfl⟩| ⟨_,n,Sn,rfl,h2,NC⟩⟩
  ·exact absurd hc hb
  ·refine vs ?_
   refine(xf n H2).mono ?_
   rintro _ _ ⟨rfl,rfl⟩
   refine vs ?_
   exact⟨_,_,_,Sn,rfl,R3 n,h2,f0.trans f2,fun z hz=>by have:=NC z hz;omega⟩
 ·refine am.aW (by decide) ?_
  refine vs ?_
  refine am.aW (by decide) ?_
  refine vs ?_
  refine am.aW (by decide) ?_
  refine vs ?_
  refine am.aW (by decide) ?_
  refine vs ?_
  refine am.aW (by decide) ?_
  refine vs ?_
  refine am.cF (by decide) ?_
  refine vs ?_
  refine(CD cap H0).mono ?_
  rintro _ H2 ⟨f2,⟨hb,rfl⟩| ⟨_,n,Sn,rfl,h2,NC⟩⟩
  ·exact absurd hc hb
  ·refine vs ?_
   refine(Bx n H2).mono ?_
   rintro _ _ ⟨rfl,rfl⟩
   refine vs ?_
   exact⟨_,_,_,Sn,rfl,Jt n,h2,f0.trans f2,fun z hz=>by have:=NC z hz;omega⟩
 ·refine am.aW (by decide) ?_
  refine vs ?_
  refine am.aW (by decide) ?_
  refine vs ?_
  refine am.aW (by decide) ?_
  refine vs ?_
  refine am.aW (by decide) ?_
  refine vs ?_
  refine am.aW (by decide) ?_
  refine vs ?_
  refine am.aW (by decide) ?_
  refine vs ?_
  refine am.cF (by decide) ?_
  refine vs ?_
  refine(HJ cap H0).mono ?_
  rintro _ H2 ⟨f2,⟨hb,rfl⟩| ⟨_,n,Sn,rfl,h2,NC⟩⟩
  ·exact absurd hc hb
  ·refine vs ?_
   refine(Gg n H2).mono ?_
   rintro _ _ ⟨rfl,rfl⟩
   refine vs ?_
   exact⟨_,_,_,Sn,rfl,PX n,h2,f0.trans f2,fun z hz=>by have:=NC z hz;omega⟩
 ·refine am.aW (by decide) ?_
  refine vs ?_
  refine am.aW (by decide) ?_
  refine vs ?_
  refine am.aW (by decide) ?_
  refine vs ?_
  refine am.aW (by decide) ?_
  refine vs ?_
  refine am.aW (by decide) ?_
  refine vs ?_
  refine am.aW (by decide) ?_
  refine vs ?_
  refine am.aW (by decide) ?_
  refine vs ?_
  refine(HC cap H0).mono ?_
  rintro _ H2 ⟨f2,⟨hb,rfl⟩| ⟨_,n,Sn,rfl,h2,NC⟩⟩
  ·exact absurd hc hb
  ·refine vs ?_
   refine(Gh n H2).mono ?_
   rintro _ _ ⟨rfl,rfl⟩
   refine vs ?_
   exact⟨_,_,_,Sn,rfl,Nl n,⟨0,h2⟩,f0.trans f2,fun z hz=>by have:=NC z hz;omega⟩
theorem LP{kd dd:Int}(hf:jk kd dd):R4 kd dd:=fun _ hc H=>JN hf hc H
theorem agk{x:Int}(h:(Lit.int .i64 x).wf=true): -9223372036854775808≤x∧x≤9223372036854775807:=by
 have e1:IntKind.i64.min= -9223372036854775808:=rfl
 have e2:IntKind.i64.max=9223372036854775807:=rfl
 simp only[Lit.wf,e1,e2,aol,anU]at h
 omega
theorem LS{H:Hp}{v:Value}(h:Cm H (false,[.sl [.i .i64]]) v):∃ (ks:List Int) (a:Option Addr) (c:Nat),v= .slice a ks.length c∧dc H 1 (.slice a ks.length c) ks.length (ks.map i64)∧ks.length≤maxLen∧∀x∈ks, -9223372036854775808≤x∧x≤9223372036854775807:=by
 obtain⟨rows,hr,hf,hm,a,c,rfl,hc⟩:=Rn h
 obtain⟨ks,h1,h2,h3⟩:=Pu hf
 rw[h1]at hr
 rw[←h2]at hr hm ⊢
 exact⟨ks,a,c,rfl,hr,hm,fun x hx=>agk (h3 x hx)⟩
theorem NE{H:Hp}{v:Value}(h:Cm H (true,[.k (.i .i64),.k (.i .i64)]) v):∃x y:Int,v= .agg #[i64 x,i64 y]:=by
 obtain⟨cs,rfl,_,_,rfl,⟨x,rfl,hx⟩,_,_,rfl,⟨y,rfl,hy⟩,rfl⟩:=h
 exact⟨x,y,rfl⟩
end Go.Proofs.YtjlnnljohemifaaGreat
