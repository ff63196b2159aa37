/- Texts put behind each other. -/
import Derived.Test.YthpjfeolagohkaaGreatK98
import Derived.Test.YthpjfeolagohkaaGreatK27
import Derived.Test.YthpjfeolagohkaaGreatK29
import Derived.Test.YthpjfeolagohkaaGreatK30
set_option maxRecDepth 100000
set_option maxHeartbeats 8000000
set_option linter.unusedVariables false
set_option linter.unusedSimpArgs false
namespace Go.Proofs.YthpjfeolagohkaaGreat
open Go Go.Vc
structure SB where
 n:Nat
 c:Nat
 t:Nat
 tl:Nat
 mp:Nat
def Gz(T:Int→Int):Int→Option Value:=fun h=>if T h= -1 then none else some (i64 (T h))
structure ec(H:Hp)(B:SB)(C:Nat→Prop)(w:Nw)(L:List Lk)(T:Int→Int):Prop where
 own:H.own B.n=some [ptr B.c,ptr B.t,.map (some B.mp)]
 cells:CQ H B.c C w
 bR:bJ H B.t B.tl L
 Pu:kX H B.mp (Gz T)
 len:L.length=w.cs.length
 nN:(B.n≠B.t∧B.n≠B.tl∧B.n≠B.mp)∧(B.t≠B.tl∧B.t≠B.mp)∧B.tl≠B.mp
 out:¬C B.n∧¬C B.t∧¬C B.tl∧¬C B.mp
def SB.S(B:SB)(C:Nat→Prop)(z:Nat):Prop:=C z∨z=B.n∨z=B.t∨z=B.tl∨z=B.mp
section
variable {H H' : Hp} {B : SB} {C V : Nat → Prop} {w w' : Nw} {L L' : List Lk} {T : Int → Int}
theorem ec.slt(h:ec H B C w L T):∀z,B.S C z→z<H.size:=by
 rintro z (hz|rfl|rfl|rfl|rfl)
 ·exact h.cells.slt z hz
 ·exact aB h.own
 ·exact aB h.bR.own
 ·exact aB h.bR.kK
 ·exact h.Pu.lt
theorem ec.ext(h:ec H B C w L T)(e:ag V H H')(hd:∀z,B.S C z→¬V z):ec H' B C w L T:=
 ⟨e.own h.own (hd _ (.inr (.inl rfl))),h.cells.ext e (fun x hx=>hd x (.inl hx)),h.bR.ext e (hd _ (.inr (.inr (.inl rfl)))) (hd _ (.inr (.inr (.inr (.inl rfl))))),
  h.Pu.ext e (hd _ (.inr (.inr (.inr (.inr rfl))))),h.len,h.nN,h.out⟩
theorem ec.fresh(h:ec H B C w L T)(e:am H H'):ec H' B C w L T:=h.ext e fun _ _ h=>h
theorem ec.aH(h:ec H B C w L T)(c1:CQ H' B.c C w')(e:ag C H H')(hl:w'.cs.length=w.cs.length):ec H' B C w' L T:=by
 obtain⟨o1,o2,o3,o4⟩:=h.out
 exact⟨e.own h.own o1,c1,h.bR.ext e o2 o3,h.Pu.ext e o4,by rw[hl];exact h.len,h.nN,h.out⟩
theorem ec.dH(h:ec H B C w L T)(t1:bJ H' B.t B.tl L')(e:ag (fun z=>z=B.tl) H H')(hl:L'.length=L.length):ec H' B C w L' T:=by
 obtain⟨o1,o2,o3,o4⟩:=h.out
 obtain⟨⟨d1,d2,d3⟩,⟨d4,d5⟩,d6⟩:=h.nN
 exact⟨e.own h.own d2,h.cells.ext e (fun x hx hz=>o3 (hz▸hx)),t1,h.Pu.ext e (Ne.symm d6),by rw[hl];exact h.len,h.nN,h.out⟩
theorem ec.kL(h:ec H B C w L T){T':Int→Int}(t1:kX H' B.mp (Gz T'))(e:ag (fun z=>z=B.mp) H H'):ec H' B C w L T':=by
 obtain⟨o1,o2,o3,o4⟩:=h.out
 obtain⟨⟨d1,d2,d3⟩,⟨d4,d5⟩,d6⟩:=h.nN
 exact⟨e.own h.own d3,h.cells.ext e (fun x hx hz=>o4 (hz▸hx)),h.bR.ext e d5 d6,t1,h.len,h.nN,h.out⟩
theorem Tl(T:Int→Int)(h x:Int):(x= -1→Gz (iL T h x)=Ng (Gz T) h)∧(x≠ -1→Gz (iL T h x)=Jn (Gz T) h (i64 x)):=by
 constructor
 ·rintro rfl
  funext y
  unfold Gz iL Ng
  by_cases hy:y=h
  ·rw[if_pos hy,if_pos rfl,if_pos hy]
  ·rw[if_neg hy,if_neg hy]
 ·intro hx
  funext y
  unfold Gz iL Jn
  by_cases hy:y=h
  ·rw[if_pos hy,if_neg hx,if_pos hy]
  ·rw[if_neg hy,if_neg hy]
theorem lw(h:ec H B C w L T)(g:Int):af Tryz.prog As [ptr B.n,i64 g] H fun v H'=>ar (v=i64 (T g)∧H'=H):=by
 refine aZ AO ?_
 refine v2 (ae h.own) h.Pu.look ?_
 unfold Gz
 by_cases hg:T g= -1
 ·rw[if_pos hg,hg]
  refine vs ?_
  exact⟨rfl,rfl⟩
 ·rw[if_neg hg]
  refine vs ?_
  exact⟨rfl,rfl⟩
theorem ly(h:ec H B C w L T)(g x:Int):af Tryz.prog Ap [ptr B.n,i64 g,i64 x] H fun v H'=>ar (ec H' B C w L (iL T g x)∧ag (fun z=>z=B.mp) H H'):=by
 obtain⟨h1,h2⟩:=Tl T g x
 refine aZ AM ?_
 refine vs ?_
 refine ai.dec (fun hx=>?_) (fun hx=>?_)<;>refine v1 (ae h.own) ?_
 ·refine h.Pu.del fun H1 t1 e1=>?_
  rw[←h1 hx]at t1
  refine vs ?_
  exact⟨h.kL t1 e1,e1⟩
 ·refine h.Pu.Zx fun H1 t1 e1=>?_
  rw[←h2 hx]at t1
  refine vs ?_
  exact⟨h.kL t1 e1,e1⟩
theorem Mn{x a:Int}{b:Bool}(he:gg x= .tuple [i64 a,.bool b].toArray):(b=false∧x= -1)∨(b=true∧a=x∧x≠ -1):=by
 have h2:∀ {p q:Int} {r s:Bool},Value.tuple [i64 p,Value.bool r].toArray=Value.tuple [i64 q,Value.bool s].toArray→p=q∧r=s:=fun h=>by
  have h3:=aoD Array.toList (Value.tuple.inj h)
  injection h3 with h4 h5
  injection h4 with _ h4
  injection h5 with h5 _
  injection h5 with h5
  exact⟨h4,h5⟩
 unfold gg at he
 split at he
 ·rename_i hx
  exact .inl ⟨(h2 he).2.symm,hx⟩
 ·rename_i hx
  exact .inr ⟨(h2 he).2.symm,(h2 he).1.symm,hx⟩
theorem lz(h:ec H B C w L T)(hb:Bt (aE w) (aN w) (aX L) (bh L)){x a:Int}{b:Bool}(he:gg x= .tuple [i64 a,.bool b].toArray):
  af Tryz.prog Au [ptr B.n,i64 a,.bool b] H fun v H'=>ar (v=i64 x∧∃L',ec H' B C w L' T∧aX L'=iJ (aX L) (bh L) x∧bh L'=cW (bh L) x∧ag (fun z=>z=B.tl) H H'):=by
 refine aZ AP ?_
 refine vs ?_
 rcases Mn he with ⟨rfl,rfl⟩| ⟨rfl,rfl,hx⟩
 ·refine vs ?_
  obtain⟨h1,h2⟩:=AU hb
  exact⟨rfl,L,h,h1.symm,h2.symm,ag.refl _ _⟩
 ·refine v1 (ae h.own) ?_
  refine(cI h.bR (x:=a) (fun hu=>by have:=Ba.up hb hu;have:=h.len;omega)).mono ?_
  rintro _ H1 ⟨rfl,L1,t1,l1,k1,u1,e1⟩
  refine vs ?_
  exact⟨rfl,L1,h.dH t1 e1 l1,k1,u1,e1⟩
theorem lA(h:ec H B C w L T){g a0 b0:Int}{R:Int→Prop}(m:Mg (aE w) (aN w) g R (aX L) (bh L) [] a0 b0):
  af Tryz.prog Aq [ptr B.n,i64 a0,i64 b0] H fun v H'=>ar (∃r L',v=i64 r∧ec H' B C w L' T∧Mg (aE w) (aN w) g R (aX L') (bh L') [] r (-1)∧
   (∀x0,wX (aN w) (aX L) (bh L) x0 (aX L) (bh L) [] a0 b0→wX (aN w) (aX L) (bh L) x0 (aX L') (bh L') [] r (-1))∧ag (fun z=>C z∨z=B.tl) H H'):=by
 refine aZ AN ?_
 refine vs ?_
 have wY:=h.cells.Er
 refine aS.intro (fun mm env H'=>∃ (a b:Int) (dN:List Int) (wv:Value) (fp:Option Nat) (L':List Lk),mm=w.cs.length - dN.length∧ec H' B C w L' T∧Mg (aE w) (aN w) g R (aX L') (bh L') dN a b∧
  (∀x0,wX (aN w) (aX L) (bh L) x0 (aX L) (bh L) [] a0 b0→wX (aN w) (aX L) (bh L) x0 (aX L') (bh L') dN a b)∧
  (∀z,fp=some z→H.size≤z)∧Sl H' 1 wv dN.length (dN.map i64) fp∧ag (fun z=>C z∨z=B.tl∨H.size≤z) H H'∧
  env=[(0,ptr B.n),(1,i64 a),(2,i64 b),(7,wv)]) _ ⟨a0,b0,[],_,none,L,rfl,h,m,(fun _ h=>h),(fun z h=>by cases h),Sl.nil _ _,ag.refl _ _,rfl⟩ ?_
 rintro mm env H1 ⟨a,b,dN,wv,fp,L1,rfl,l1,m1,f1,fU,s1,e1,rfl⟩
 have z1:=e1.size
 clear m
 refine vs ?_
 refine ai.dec (fun ga=>?A) (fun ga=>?_)<;>refine vs ?_
 rotate_left
 refine ai.dec (fun gb=>?B) (fun gb=>?_)<;>refine vs ?_
 rotate_left
 ·have o1:=l1.own
  refine v1 (ae o1) ?_
  refine(cE l1.cells b a).mono ?_
  rintro _ H2 ⟨rfl,c2,e2⟩
  have l2:=l1.aH c2 e2 rfl
  have s2:=s1.ext e2 (fun z hz dP=>by have:=fU z hz;have:=h.slt z (.inl dP);omega)
  have z2:=e2.size
  have ha:=m1.wa.resolve_left ga
  have hb:=m1.wb.resolve_left gb
  have BP:=gD (w:=w) (a:=b) (b:=a) (by rw[hb.1];exact m1.pos) (by rw[ha.1];exact m1.pos)
  have aQ:a≠b:=fun e=>ga (m1.ab e)
  rw[BP]
  obtain⟨p,q,Q4,hl,gp,gq,mm,fm⟩:∃p q,(if aN w b a=true then(p=b∧q=a)else(p=a∧q=b))∧aN w p q=true∧p≠ -1∧q≠ -1∧Mg (aE w) (aN w) g R (aX L1) (bh L1) dN p q∧
    (∀x0,wX (aN w) (aX L) (bh L) x0 (aX L) (bh L) [] a0 b0→wX (aN w) (aX L) (bh L) x0 (aX L1) (bh L1) dN p q):=by
   cases aK:aN w b a
   ·exact⟨a,b,by simp,((ap w).OQ a b aQ).resolve_right (by rw[aK];simp),ga,gb,m1,f1⟩
   ·exact⟨b,a,by simp,aK,gb,ga,m1.swap,fun x0 h0=>(f1 x0 h0).swap⟩
  have Qq:0<aE w p:=by rw[(mm.wa.resolve_left gp).1];exact mm.pos
  obtain⟨p0,p1,_⟩:=aC Qq
  have m3:=mm.Sg (ap w) gp gq hl
  have f3:=fun x0 h0=>(fm x0 h0).down (ap w) mm.bt gp
  have wl:(dN++[p]).length≤w.cs.length:=bU (m3.nodup (ap w)) fun x hx=>by
   have DG:=(m3.wy x hx).2.1
   have tJ:=m3.pos
   obtain⟨x0,x1,_⟩:=aC (w:=w) (x:=x) (by omega)
   exact⟨x0,x1⟩
  rw[aoy,aoV]at wl
  cases aK:aN w b a<;>simp only[aK,if_true,if_false,apJ]at Q4<;>obtain⟨rfl,rfl⟩:=Q4<;>refine vs ?_
  all_goals
   refine AZ (B:=H.size) fU (by omega) s2 p (by omega) fun w' H3 dT iN s3 e3=>?_
   refine vs ?_
   have l3:=l2.ext e3 (fun z hz dP=>by have:=h.slt z hz;omega)
   have o3:=l3.own
   refine v1 (ae o3) ?_
   refine(cr l3.bR p).mono ?_
   rintro _ H' ⟨rfl,e⟩
   obtain rfl:=e.symm
   obtain⟨k1,k2,ek⟩:=cJ (aX L1 p true)
   rw[ek]
   refine vs ?_
   refine(lz l3 mm.bt ek).mono ?_
   rintro _ H4 ⟨rfl,L4,l4,Wg,Wh,e4⟩
   have s4:=s3.ext e4 (fun z hz dP=>by have:=iN z hz;have:=h.slt B.tl (.inr (.inr (.inr (.inl rfl))));omega)
   refine vs ?_
   refine⟨w.cs.length - (dN.length+1),by omega,aX L1 p true,q,dN++[p],w',dT,L4,by simp,l4,?_,?_,iN,s4,((e1.trans (e2.mono fun z _ hz=>.inl hz)).trans (e3.mono fun z _ hz=>.inr (.inr hz))).trans (e4.mono fun z _ hz=>.inr (.inl hz)),rfl⟩
   ·rw[Wg,Wh];exact m3
   ·rw[Wg,Wh];exact f3
 case' A=>
  have m2:Mg (aE w) (aN w) g R (aX L1) (bh L1) dN b (-1):=ga▸m1.swap
  have f2:=fun x0 (h0:wX (aN w) (aX L) (bh L) x0 (aX L) (bh L) [] a0 b0)=>(f1 x0 h0).swap
  rw[ga]at f2
  have hr:(if b>a then b else a)=b:=by
   rcases m1.wb with h|h
   ·omega
   ·have hp:=m1.pos
    obtain⟨_,_⟩:=aC (w:=w) (x:=b) (by omega)
    omega
  rw[hr]
  clear hr
  generalize b=r at m2 f2
 case' B=>
  have m2:Mg (aE w) (aN w) g R (aX L1) (bh L1) dN a (-1):=gb▸m1
  have f2:=f1
  rw[gb]at f2
  have hr:(if b>a then b else a)=a:=by
   rcases m1.wa with h|h
   ·omega
   ·have hp:=m1.pos
    obtain⟨_,_⟩:=aC (w:=w) (x:=a) (by omega)
    omega
  rw[hr]
  clear hr
  generalize a=r at m2 f2
 all_goals
  obtain⟨wa,wc,rfl⟩:=Sl.shape s1
  refine vs ?_
  have wl:dN.length≤w.cs.length:=bU (m2.nodup (ap w)) fun x hx=>by
   have DG:=(m2.wy x hx).2.1
   have tJ:=m2.pos
   obtain⟨x0,x1,_⟩:=aC (w:=w) (x:=x) (by omega)
   exact⟨x0,x1⟩
  refine aS.intro (fun mm env H'=>∃ (i:Nat) (r:Int) (L':List Lk),mm=i∧i≤dN.length∧ec H' B C w L' T∧Mg (aE w) (aN w) g R (aX L') (bh L') (dN.take i) r (-1)∧
   (∀x0,wX (aN w) (aX L) (bh L) x0 (aX L) (bh L) [] a0 b0→wX (aN w) (aX L) (bh L) x0 (aX L') (bh L') (dN.take i) r (-1))∧
   Sl H' 1 (.slice wa dN.length wc) dN.length (dN.map i64) fp∧ag (fun z=>C z∨z=B.tl∨H.size≤z) H H'∧
   env=[(0,ptr B.n),(7,.slice wa dN.length wc),(8,i64 r),(9,i64 ((i:Int) - 1))]) _ ⟨dN.length,r,L1,rfl,aoB _,l1,by rw[aoQ];exact m2,by rw[aoQ];exact f2,s1,e1,?_⟩ ?_
  ·rw[wrap64 (by omega) (by omega)]
  rintro mm env H2 ⟨i,r2,L2,hmi,hi,l2,m3,f3,s2,e2,rfl⟩
  obtain rfl:=hmi.symm
  refine vs ?_
  refine ai.dec (fun gi=>?_) (fun gi=>?_)<;>refine vs ?_
  rotate_left
  ·obtain rfl:i=0:=by omega
   exact⟨r2,L2,rfl,l2,by simpa using m3,by simpa using f3,e2.mono fun z hz h=>h.elim .inl fun h=>.inr (by omega)⟩
  obtain⟨j,rfl⟩:∃j,i=j+1:=⟨i - 1,by omega⟩
  obtain⟨v,hv⟩:∃v,dN[j]? =some v:=⟨_,aop (by omega)⟩
  have tk:dN.take (j+1)=dN.take j++[v]:=by rw[aoM,hv];rfl
  rw[tk]at m3 f3
  have m4:=m3.back (ap w)
  have f4:=fun x0 h0=>(f3 x0 h0).back
  obtain⟨v1,v2,v3,v4,v5,v6⟩:=m3.wy v (by simp)
  obtain⟨q1,vb,lb,rfl,q2,q3⟩:=Sl.zg s2 hv
  have hvb:∃b',fp=some b'∧b'=vb:=by
   cases fp with
   |none=>have:=s2.2.2;injection this with h1;cases h1
   |some b'=>obtain⟨_,_,h1,_⟩:=s2.2;injection h1 with h1;injection h1 with h1;injection h1 with h1;exact⟨b',rfl,h1.symm⟩
  obtain⟨b',rfl,rfl⟩:=hvb
  have hvb:=fU b' rfl
  have Wi:0<aE w v:=by rw[v2];exact m3.pos
  obtain⟨X0,vv1,_⟩:=aC Wi
  have ji:((((j+1:Nat):Int) - 1)).toNat=j:=by omega
  refine⟨⟨by omega,by omega⟩,?_⟩
  simp(disch:=(first|omega| (simp only[Zs]<;>omega)|fail)) only[go_sem, ↓reduceIte,Zv,ae q2,aor,aos,ji,q3]
  refine ai.dec (fun gr=>?_) (fun gr=>?_)<;>refine vs ?_
  ·rw[if_pos gr,if_pos gr]at m4
   simp only[if_pos gr]at f4
   have f5:=f4
   have l3:=l2
   have m5:=m4
   have s3:=s2
   have e3:=e2
   simp(disch:=(first|omega| (simp only[Zs]<;>omega)|fail)) only[go_sem, ↓reduceIte,Zv,ae l3.own]
   refine(ln l3.bR (p:=v) ⟨X0,by have:=l3.len;omega⟩).mono ?_
   rintro _ H4 ⟨rfl,L4,t4,XZ,k4,u4,e4⟩
   have l4:=l3.dH t4 e4 XZ
   refine vs ?_
   refine⟨j,by omega,j,v,L4,rfl,by omega,l4,?_,?_,s3.ext e4 (fun z hz dP=>by injection hz with hz;have:=h.slt B.tl (.inr (.inr (.inr (.inl rfl))));omega),e3.trans (e4.mono fun z _ hz=>.inr (.inl hz)),?_⟩
   ·rw[k4,u4];exact m5.wW (ap w)
   ·rw[k4,u4];exact fun x0 h0=>(f5 x0 h0).wW v1
   ·rw[show((j+1:Nat):Int) - 1 - 1=(j:Int) - 1 by omega,wrap64 (by omega) (by omega)]
  ·rw[if_neg gr,if_neg gr]at m4
   simp only[if_neg gr]at f4
   have zx:=m3.wa.resolve_left gr
   obtain⟨r0,r1,_⟩:=aC (w:=w) (x:=r2) (by rw[zx.1];exact m3.pos)
   have aR:=l2.len
   have hvr:v≠r2:=fun e=>by have:=v5 gr;rw[e,(ap w).BT]at this;cases this
   simp(disch:=(first|omega| (simp only[Zs]<;>omega)|fail)) only[go_sem, ↓reduceIte,Zv,ae l2.own]
   refine(eV l2.bR (p:=v) (x:=r2) (c:=true) ⟨X0,by omega⟩ ⟨r0,by omega⟩ hvr zx.2 v4).mono ?_
   rintro _ H3 ⟨rfl,L3,t3,ll3,kk3,uu3,G1⟩
   have l3:=l2.dH t3 G1 ll3
   have m5:Mg (aE w) (aN w) g R (aX L3) (bh L3) (dN.take j) v (-1):=by rw[kk3,uu3];exact m4
   have f5:=f4
   rw[←kk3,←uu3]at f5
   have nb:b'≠B.tl:=fun e=>by have:=h.slt B.tl (.inr (.inr (.inr (.inl rfl))));omega
   have s3:=s2.ext G1 (fun z hz dP=>by injection hz with hz;exact nb (hz.trans dP))
   have e3:=e2.trans (G1.mono fun z _ hz=>.inr (.inl hz))
   refine vs ?_
   simp(disch:=(first|omega| (simp only[Zs]<;>omega)|fail)) only[go_sem, ↓reduceIte,Zv,ae l3.own]
   refine(ln l3.bR (p:=v) ⟨X0,by have:=l3.len;omega⟩).mono ?_
   rintro _ H4 ⟨rfl,L4,t4,XZ,k4,u4,e4⟩
   have l4:=l3.dH t4 e4 XZ
   refine vs ?_
   refine⟨j,by omega,j,v,L4,rfl,by omega,l4,?_,?_,s3.ext e4 (fun z hz dP=>by injection hz with hz;have:=h.slt B.tl (.inr (.inr (.inr (.inl rfl))));omega),e3.trans (e4.mono fun z _ hz=>.inr (.inl hz)),?_⟩
   ·rw[k4,u4];exact m5.wW (ap w)
   ·rw[k4,u4];exact fun x0 h0=>(f5 x0 h0).wW v1
   ·rw[show((j+1:Nat):Int) - 1 - 1=(j:Int) - 1 by omega,wrap64 (by omega) (by omega)]
end
end Go.Proofs.YthpjfeolagohkaaGreat

namespace Go.Proofs.YthpjfeolagohkaaGreat
open Go Go.Vc
def dO(n:Nat)(H:Hp)(S:Nat→Prop)(w:Nw):Prop:=∃ (B:SB) (C:Nat→Prop) (L:List Lk) (T:Int→Int),B.n=n∧ec H B C w L T∧AT (aE w) (aN w) (aX L) (bh L) T∧∀z,S z↔B.S C z
theorem dO.slt{n:Nat}{H:Hp}{S:Nat→Prop}{w:Nw}(h:dO n H S w):∀z,S z→z<H.size:=by
 obtain⟨B,C,L,T,rfl,m,l,hS⟩:=h
 exact fun z hz=>m.slt z ((hS z).1 hz)
theorem dO.ext{n:Nat}{H H':Hp}{S V:Nat→Prop}{w:Nw}(h:dO n H S w)(e:ag V H H')(hd:∀z,S z→¬V z):dO n H' S w:=by
 obtain⟨B,C,L,T,rfl,m,l,hS⟩:=h
 exact⟨B,C,L,T,rfl,m.ext e (fun z hz=>hd z ((hS z).2 hz)),l,hS⟩
theorem QJ:Gz (fun _=> -1)=fun _=>none:=by
 funext y
 unfold Gz
 rw[if_pos rfl]
theorem If(cap:Int)(H:Hp):af Tryz.prog Nn [i64 cap] H fun v H'=>ar (
  am H H'∧((¬ (0≤cap∧cap≤65536)∧v= .tuple [.pointer none,i64 31].toArray)∨
   ((0≤cap∧cap≤65536)∧∃n S,v= .tuple [ptr n,i64 0].toArray∧dO n H' S (Bf cap)∧∀x,S x→H.size≤x))):=by
 refine aZ Nt ?_
 refine vs ?_
 refine(kJ cap H).mono ?_
 rintro _ H1 ⟨f1,⟨hb,rfl⟩| ⟨hb,c,C,rfl,c1,hC⟩⟩
 ·refine vs ?_
  exact⟨f1,.inl ⟨hb,rfl⟩⟩
 refine v1 aoW ?_
 refine(uI H1 hb).mono ?_
 rintro _ H2 ⟨t,tl,rfl,t2,f2,ht,HF⟩
 refine vs ?_
 have xp:=c1.slt
 have z1:=f1.size
 have z2:=f2.size
 have GX:=aB t2.own
 have Yb:=aB t2.kK
 have f3:am H2 (H2.fh.new 244 [ptr c,ptr t,.map (some H2.size)]):=((ag.refl _ _).fh).new _ _
 have e1:ag (fun _=>False) H2.fh (H2.fh.new 244 [ptr c,ptr t,.map (some H2.size)]):=(ag.refl _ _).new _ _
 have ft:=f1.trans (f2.trans f3)
 refine⟨ft,.inr ⟨hb,H2.size+1,(SB.mk (H2.size+1) c t tl H2.size).S C,rfl,⟨⟨H2.size+1,c,t,tl,H2.size⟩,C,_,fun _=> -1,rfl,
  ⟨?_,c1.fresh (f2.trans f3),t2.fresh f3,by rw[QJ];exact(kX.new H2).ext e1 (fun h=>h),?_,?_,?_⟩,AT.none rfl (kN cap) (Be _) (Gf _) (fun _=>rfl),fun z=>Iff.rfl⟩,fun z hz=>?_⟩⟩
 ·exact be (by simp only[ii])
 ·simp[Bf]
 ·have:=t2.ne
  refine⟨⟨?_,?_,?_⟩,⟨?_,?_⟩,?_⟩<;>simp only<;>omega
 ·refine⟨fun h=>?_,fun h=>?_,fun h=>?_,fun h=>?_⟩<;>(have h2:=xp _ h;first|omega| (simp only at h2;omega))
 ·rcases hz with hz|rfl|rfl|rfl|rfl
  ·exact hC z hz
  all_goals first|omega| (simp only;omega)
theorem GA{n:Nat}{H:Hp}{B:SB}{C:Nat→Prop}{w:Nw}{L:List Lk}{T:Int→Int}{S:Nat→Prop}(m:ec H B C w L T)(l:AT (aE w) (aN w) (aX L) (bh L) T)(hn:B.n=n)(hS:∀z,S z↔B.S C z):af Tryz.prog dw [ptr B.c] H fun v H'=>ar (
  (w.hs.length=65537∧v=i64 0∧cA (dO n) S H H' w)∨(w.hs.length≠65537∧v=i64 w.hs.length∧cA (dO n) S H H' w.make)):=by
 subst hn
 refine(iS m.cells).mono ?_
 rintro _ H1 (⟨h1,rfl,rfl⟩| ⟨h1,rfl,C',c1,e1,zi⟩)
 ·exact .inl ⟨h1,rfl,cA.same ⟨B,C,L,T,rfl,m,l,hS⟩ (ag.refl _ _)⟩
 obtain⟨n1,n2,n3,n4⟩:=m.out
 have slt:=m.slt
 have no:∀z,B.S (fun _=>False) z→¬C z→¬C' z:=fun z hz hn h=>by
  rcases zi z h with h6|h6
  ·exact hn h6
  ·have:=slt z (hz.elim (fun h=>h.elim) .inr)
   omega
 refine .inr ⟨h1,rfl,B.S C',⟨B,C',L,T,rfl,⟨e1.own m.own n1,c1,m.bR.ext e1 n2 n3,m.Pu.ext e1 n4,m.len,m.nN,no _ (.inr (.inl rfl)) n1,no _ (.inr (.inr (.inl rfl))) n2,no _ (.inr (.inr (.inr (.inl rfl)))) n3,no _ (.inr (.inr (.inr (.inr rfl)))) n4⟩,l,fun z=>Iff.rfl⟩,
  e1.mono fun z _ h=>(hS z).2 (.inl h),fun z hz=>?_⟩
 rcases hz with hz|hz
 ·rcases zi z hz with h6|h6
  ·exact .inl ((hS z).2 (.inl h6))
  ·exact .inr h6
 ·exact .inl ((hS z).2 (.inr hz))
theorem Dc{n:Nat}{H:Hp}{S:Nat→Prop}{w:Nw}(h:dO n H S w)(g x k s:Int):af Tryz.prog mN [ptr n,i64 g,i64 x,tu k s] H fun v H'=>ar (
  (¬w.lq g x∧v= .bool false∧cA (dO n) S H H' w)∨(w.lq g x∧v= .bool true∧cA (dO n) S H H' (w.put x (g,k,s)))):=by
 obtain⟨B,C,L,T,rfl,m,l,hS⟩:=h
 have hC:∀z,C z→S z:=fun z h=>(hS z).2 (.inl h)
 have s1:S B.tl:=(hS _).2 (.inr (.inr (.inr (.inl rfl))))
 have s2:S B.mp:=(hS _).2 (.inr (.inr (.inr (.inr rfl))))
 refine aZ yV ?_
 refine vs ?_
 have f0:am H (H.new 182 [i64 k,u64 s]):=(ag.refl _ _).new _ _
 have b0:(H.new 182 [i64 k,u64 s]).own H.size=some [i64 k,u64 s]:=aD _ _ _
 have m0:=m.fresh f0
 generalize H.new 182 [i64 k,u64 s]=H0 at*
 have ff:ag S H H0:=f0.mono fun _ _ h=>h.elim
 refine v2 (ae m0.own) (ae b0) ?_
 refine(kI m0.cells g x k s).mono ?_
 rintro _ H1 (⟨bS,rfl,c1,e1⟩| ⟨qf,rfl,c1,e1⟩)
 ·refine vs ?_
  exact .inl ⟨bS,rfl,cA.same ⟨B,C,L,T,rfl,m0.aH c1 e1 rfl,l,hS⟩ (ff.trans (e1.mono fun z _ hz=>hC z hz))⟩
 obtain⟨hh,hx,bE⟩:=id qf
 have m1:=m0.aH c1 e1 (by simp[Nw.put])
 have hg:=hh.1
 have cG:=fun y=>ed hx (g,k,s) y
 have bo:UA (aE (w.put x (g,k,s))) (aN (w.put x (g,k,s))) (aX L) (bh L) T g x:=by
  refine l.ins rfl (Int.not_lt.1 fun h=>bE (bC.1 h)) (by omega) (by omega) (by rw[cG,if_pos rfl]) (fun y hy=>by rw[cG,if_neg hy]) (fun a b ha hb qA lV=>dC hx _ ha hb qA lV)
 refine vs ?_
 refine(lw m1 g).mono ?_
 rintro _ H' ⟨rfl,e⟩
 obtain rfl:=e.symm
 refine vs ?_
 refine(lA m1 bo.mg).mono ?_
 rintro _ H2 ⟨r,L2,rfl,m2,g2,_,e2⟩
 refine vs ?_
 refine(ly m2 g r).mono ?_
 rintro _ H3 ⟨m3,e3⟩
 refine vs ?_
 exact .inr ⟨qf,rfl,cA.same ⟨B,C,L2,_,rfl,m3,bo.done g2,hS⟩ (((ff.trans (e1.mono fun z _ h=>hC z h)).trans (e2.mono fun z _ h=>by rcases h with h|rfl;exact hC z h;exact s1)).trans (e3.mono fun z _ h=>h▸s2))⟩
theorem I2{w:Nw}{L:List Lk}{T:Int→Int}(l:AT (aE w) (aN w) (aX L) (bh L) T){g x:Int}(h:w.first g x):T g=x:=by
 obtain⟨h1,h2,h3⟩:=bH.1 h
 have:=l.first (x:=x) (by omega) (fun y hy aQ=>h3 y (by omega) aQ) (ap w)
 rwa[h2]at this
theorem xC{n:Nat}{H:Hp}{S:Nat→Prop}{w:Nw}(h:dO n H S w)(g:Int):af Tryz.prog rW [ptr n,i64 g] H fun v H'=>ar (
  ((w.len g=0∧v= .tuple [i64 0,.bool false].toArray)∨∃x,w.first g x∧v= .tuple [i64 x,.bool true].toArray)∧H'=H):=by
 obtain⟨B,C,L,T,rfl,m,l,hS⟩:=h
 refine aZ D9 ?_
 refine vs ?_
 refine(lw m g).mono ?_
 rintro _ H' ⟨rfl,e⟩
 obtain rfl:=e.symm
 refine vs ?_
 refine ai.dec (fun h0=>?_) (fun h0=>?_)<;>refine vs ?_
 ·refine⟨.inl ⟨?_,rfl⟩,rfl⟩
  by_cases hg:0<g
  ·refine aoJ fun hl=>?_
   obtain⟨x,hx⟩:=uF hg hl
   have h2:=(bH.1 hx).2.1
   have:=I2 l hx
   have:=(aC (w:=w) (x:=x) (by omega)).1
   omega
  ·exact Nw.HQ.2 (.inl (by omega))
 ·obtain⟨h1,h2,h3⟩:=l.t1 g h0
  have hl:w.len g≠0:=fun e=>(uE h2).1 e _ h1
  obtain⟨x,hx⟩:=uF h2 hl
  rw[I2 l hx]
  exact⟨.inr ⟨x,hx,rfl⟩,rfl⟩
theorem zp{n:Nat}{H:Hp}{S:Nat→Prop}{w:Nw}(h:dO n H S w)(x k s:Int):af Tryz.prog j9 [ptr n,i64 x,tu k s] H fun v H'=>ar (
  (¬w.cX x k s∧v= .bool false∧cA (dO n) S H H' w)∨(w.cX x k s∧v= .bool true∧∃y,w.cs[x.toNat]? =some y∧cA (dO n) S H H' (w.put x (y.1,k,s)))):=by
 obtain⟨B,C,L,T,rfl,m,l,hS⟩:=h
 have hC:∀z,C z→S z:=fun z h=>(hS z).2 (.inl h)
 have s1:S B.tl:=(hS _).2 (.inr (.inr (.inr (.inl rfl))))
 have s2:S B.mp:=(hS _).2 (.inr (.inr (.inr (.inr rfl))))
 refine aZ ur ?_
 refine vs ?_
 have f0:am H (H.new 182 [i64 k,u64 s]):=(ag.refl _ _).new _ _
 have b0:(H.new 182 [i64 k,u64 s]).own H.size=some [i64 k,u64 s]:=aD _ _ _
 have m0:=m.fresh f0
 generalize H.new 182 [i64 k,u64 s]=H0 at*
 have ff:ag S H H0:=f0.mono fun _ _ h=>h.elim
 refine v2 (ae m0.own) (ae b0) ?_
 refine(gC m0.cells x k s).mono ?_
 rintro _ H1 (⟨bS,rfl,c1,e1⟩| ⟨bE,rfl,y,hy,fz,c1,e1⟩)
 ·refine vs ?_
  exact .inl ⟨bS,rfl,cA.same ⟨B,C,L,T,rfl,m0.ext e1 (fun _ _ h=>h),l,hS⟩ (ff.trans (e1.mono fun _ _ h=>h.elim))⟩
 have nL:(w.put x (y.1,k,s)).cs.length=w.cs.length:=by simp[Nw.put]
 have m1:=m0.aH c1 e1 nL
 have Bh:w.cX x k s:=⟨bE,fun z hz=>by rw[hy]at hz;injection hz with hz;rw[←hz];exact fz⟩
 have hx:0≤x∧x<w.cs.length:=⟨bE.1,by have:=(aoq.1 hy).1;have:=bE.1;omega⟩
 have OV:aE w x=y.1:=jI bE.1 hy
 have dZ:=bC.2 bE
 have hw:aE (w.put x (y.1,k,s))=aE w:=by
  funext z
  rw[ed hx]
  split
  ·rename_i e;rw[e,OV]
  ·rfl
 have EG:cU (w.put x (y.1,k,s)).cs x:=bC.1 (by rw[hw];exact dZ)
 refine v1 (ae m1.own) ?_
 refine(df m1.cells x).mono ?_
 rintro _ H2 (⟨bS,_,_⟩| ⟨_,rfl,c2,e2⟩)
 ·exact absurd EG bS
 have m2:=m1.aH c2 e2 rfl
 have oZ:ag S H H2:=(ff.trans (e1.mono fun z _ h=>hC z h)).trans (e2.mono fun z _ h=>hC z h)
 have el:∀a b,0<aE w a→0<aE w b→a≠x→b≠x→aN (w.put x (y.1,k,s)) a b=aN w a b:=fun a b ha hb qA lV=>dC hx _ ha hb qA lV
 have ex:∀b,0<aE w b→b≠x→aN w x b=true→aN (w.put x (y.1,k,s)) x b=true:=fun b hb lV h=>A8 bE hy fz hb lV h
 refine v1 (ae m2.own) ?_
 refine(cI m2.bR (x:=x) (fun hu=>by have:=Ba.up l.bt hu;have:=m2.len;omega)).mono ?_
 rintro _ H3 ⟨rfl,L3,t3,l3,k3,u3,e3⟩
 have m3:=m2.dH t3 e3 l3
 have Ex:ag S H H3:=oZ.trans (e3.mono fun z _ h=>h▸s1)
 unfold gg
 by_cases hu:bh L x= -1
 ·rw[if_pos hu]
  refine vs ?_
  have kk:aX L3=aX L:=by rw[k3];unfold iJ;rw[if_pos hu]
  have uu:bh L3=bh L:=by
   rw[u3]
   funext z
   unfold cW aJ
   split
   ·rename_i e;rw[e,hu]
   ·rfl
  refine .inr ⟨Bh,rfl,y,hy,cA.same ⟨B,C,L3,T,rfl,m3,?_,hS⟩ Ex⟩
  rw[hw,kk,uu]
  exact l.UB dZ hu el ex (ap w)
 rw[if_neg hu]
 refine vs ?_
 have bo:=l.low dZ hu el ex (ap w)
 rw[←hw,←k3,←u3]at bo
 refine(lw m3 _).mono ?_
 rintro _ H' ⟨rfl,e⟩
 obtain rfl:=e.symm
 refine vs ?_
 refine(lA m3 bo.mg).mono ?_
 rintro _ H4 ⟨r,L4,rfl,m4,g4,_,e4⟩
 refine vs ?_
 refine(ly m4 _ r).mono ?_
 rintro _ H5 ⟨m5,e5⟩
 refine vs ?_
 exact .inr ⟨Bh,rfl,y,hy,cA.same ⟨B,C,L4,_,rfl,m5,bo.done g4,hS⟩ ((Ex.trans (e4.mono fun z _ h=>by rcases h with h|rfl;exact hC z h;exact s1)).trans (e5.mono fun z _ h=>h▸s2))⟩
theorem Dd{n:Nat}{H:Hp}{S:Nat→Prop}{w:Nw}(h:dO n H S w)(x:Int):af Tryz.prog yp [ptr n,i64 x] H fun v H'=>ar (
  (¬cU w.cs x∧v= .bool false∧cA (dO n) S H H' w)∨(cU w.cs x∧v= .bool true∧cA (dO n) S H H' (w.put x (0,0,0)))):=by
 obtain⟨B,C,L,T,rfl,m,t,hS⟩:=id h
 have hC:∀z,C z→S z:=fun z h=>(hS z).2 (.inl h)
 have s1:S B.tl:=(hS _).2 (.inr (.inr (.inr (.inl rfl))))
 have s2:S B.mp:=(hS _).2 (.inr (.inr (.inr (.inr rfl))))
 refine Kw yU ⟨rfl,?_⟩
 refine v2 mT.eq_1 (ae m.own) ?_
 refine(df m.cells x).mono ?_
 rintro _ H1 (⟨bS,rfl,rfl⟩| ⟨bE,rfl,c1,e1⟩)
 ·refine vs ?_
  exact .inl ⟨bS,rfl,cA.same h (ag.refl _ _)⟩
 have m1:=m.aH c1 e1 rfl
 have dZ:=bC.2 bE
 obtain⟨fL,kD,_⟩:=aC dZ
 have G6:x≠ -1:=by omega
 have ls:=ap w
 obtain⟨⟨d1,d2,d3⟩,⟨d4,d5⟩,d6⟩:=m.nN
 refine vs ?_
 refine oC.intro (fun H'=>H'.own B.n=some [ptr B.c,ptr B.t,.map (some B.mp)]) m1.own ?_
 refine vs ?_
 refine oB.intro (ptr B.t) (fun H' hI=>by refine v1 (ae hI) ?_;trivial) ?_
 refine v1 (ae m1.own) ?_
 refine And.intro m1.own ?_
 refine vs ?_
 obtain⟨a1,b1,ea1⟩:=cJ (aX L x false)
 refine(lm m1.bR x).mono ?_
 rintro _ H' ⟨rfl,e⟩
 obtain rfl:=e.symm
 rw[ea1]
 refine And.intro m1.own ?_
 refine vs ?_
 refine(lz m1 t.bt ea1).mono ?_
 rintro _ H2 ⟨rfl,L2,m2,k2,u2,e2⟩
 refine And.intro m2.own ?_
 refine vs ?_
 have bt2:Ba w L2:=by
  show Bt _ _ _ _
  rw[k2,u2];exact t.bt.Uz _
 have er:aX L2 x true=aX L x true:=by
  rw[k2,pV t.bt,if_neg]
  rintro⟨h1,h2⟩
  exact h1 (t.bt.two x h2.symm)
 obtain⟨a2,b2,ea2⟩:=cJ (aX L2 x true)
 refine(cr m2.bR x).mono ?_
 rintro _ H' ⟨rfl,e⟩
 obtain rfl:=e.symm
 rw[ea2]
 refine And.intro m2.own ?_
 refine vs ?_
 refine(lz m2 bt2 ea2).mono ?_
 rintro _ H3 ⟨rfl,L3,m3,k3,u3,e3⟩
 refine And.intro m3.own ?_
 rw[er]at k3 u3
 rw[k2,u2]at k3
 rw[u2]at u3
 obtain⟨w1,w2,w3,w4⟩:=t.bt.bare x
 have hk:∀c,aX L x c= -1∨(aE w (aX L x c)=aE w x∧bh L3 (aX L x c)= -1):=fun c=>by
  by_cases hk:aX L x c= -1
  ·exact .inl hk
  ·refine .inr ⟨(t.bt.home hk).2.2.1,?_⟩
   rw[u3,w4,if_pos]
   cases c
   ·exact .inl rfl
   ·exact .inr rfl
 rw[←k3,←u3]at w1
 have mg:=Mg.start w1 dZ (hk false) (hk true) (fun e=>t.bt.two x e)
 rw[er]
 refine vs ?_
 refine(lA m3 mg).mono ?_
 rintro _ H4 ⟨r,L4,rfl,m4,g4,f4,e4⟩
 refine And.intro m4.own ?_
 refine vs ?_
 have f4:=f4 x (wX.start (fun hk=>(t.bt.home hk).2.2.2.2) (fun hk=>(t.bt.home hk).2.2.2.2))
 have d:=t.V8 ls dZ k3 u3 g4 f4
 have zB:ag S H H4:=(((e1.mono fun z _ h=>hC z h).trans (e2.mono fun z _ h=>h▸s1)).trans (e3.mono fun z _ h=>h▸s1)).trans (e4.mono fun z _ h=>by rcases h with h|rfl;exact hC z h;exact s1)
 have cG:=fun y=>ed (w:=w) ⟨fL,kD⟩ (0,0,0) y
 have p0:aE (w.put x (0,0,0)) (-1)=0:=rfl
 have p1:aE (w.put x (0,0,0)) x=0:=by rw[cG,if_pos rfl]
 have p2:∀y,y≠x→aE (w.put x (0,0,0)) y=aE w y:=fun y hy=>by rw[cG,if_neg hy]
 have el:∀a b,0<aE w a→0<aE w b→a≠x→b≠x→aN (w.put x (0,0,0)) a b=aN w a b:=fun a b ha hb qA lV=>dC ⟨fL,kD⟩ _ ha hb qA lV
 have nL:(w.put x (0,0,0)).cs.length=w.cs.length:=by simp[Nw.put]
 refine v1 (ae m4.own) ?_
 refine(oO m4.bR x).mono ?_
 rintro _ H' ⟨rfl,e⟩
 obtain rfl:=e.symm
 rw[d.ux]
 unfold gg
 by_cases hu:bh L x= -1
 ·rw[if_pos hu]
  refine vs ?_
  refine(ly m4 _ r).mono ?_
  rintro _ H5 ⟨m5,e5⟩
  refine v1 (ae m5.own) ?_
  refine(bY m5.cells x).mono ?_
  rintro _ H6 (⟨bS,_,_⟩| ⟨_,rfl,c6,e6⟩)
  ·exact absurd bE bS
  have m6:=m5.aH c6 e6 nL
  refine vs ?_
  exact .inr ⟨bE,rfl,cA.same ⟨B,C,L4,_,rfl,m6,d.Pu t dZ hu p0 p1 p2 el,hS⟩ ((zB.trans (e5.mono fun z _ h=>h▸s2)).trans (e6.mono fun z _ h=>hC z h))⟩
 ·rw[if_neg hu]
  have zL:=Ba.up t.bt hu
  obtain⟨w5,w6⟩:=d.cut t ls dZ hu
  obtain⟨a3,b3,ZL⟩:=cJ (aX L4 (bh L x) true)
  refine v1 (ae m4.own) ?_
  refine(cr m4.bR (bh L x)).mono ?_
  rintro _ H' ⟨rfl,e⟩
  obtain rfl:=e.symm
  rw[ZL]
  refine v1 (ae m4.own) ?_
  refine(cI m4.bR (x:=x) (fun hu2=>by have:=Ba.up d.bt hu2;have:=m4.len;omega)).mono ?_
  rintro _ H5 ⟨rfl,L5,t5,l5,k5,u5,e5⟩
  have m5:=m4.dH t5 e5 l5
  refine vs ?_
  have Wq:=zB.trans (e5.mono fun z _ h=>h▸s1)
  refine ai.dec (fun g=>?_) (fun g=>?_)<;>refine vs ?_
  ·refine v1 (ae m5.own) ?_
   refine(bY m5.cells x).mono ?_
   rintro _ H8 (⟨bS,_,_⟩| ⟨_,rfl,c8,e8⟩)
   ·exact absurd bE bS
   have m8:=m5.aH c8 e8 nL
   refine vs ?_
   have b6:Ba w L5:=by
    show Bt _ _ _ _
    rw[k5,u5];exact w5 g
   refine .inr ⟨bE,rfl,cA.same ⟨B,C,L5,T,rfl,m8,?_,hS⟩ (Wq.trans (e8.mono fun z _ h=>hC z h))⟩
   exact d.below t ls (n:=w.cs.length) (fun y hy=>by obtain⟨y0,y1,_⟩:=aC hy;exact⟨y0,y1⟩) dZ hu b6 (by rw[if_pos g];exact u5) p0 p1 p2 el
  ·obtain⟨y1,y2,y3,y4⟩:=w6 g
   obtain⟨r1,r2,r3,r4⟩:=d.rx g
   obtain⟨q1,q2,_⟩:=aC (w:=w) (x:=r) (by omega)
   have hl5:=m5.len
   rw[d.kp _ true rfl hu]at ZL
   rcases Mn ZL with ⟨rfl,h2⟩| ⟨rfl,rfl,h3⟩
   ·have XY:false=(aX L (bh L x) true==x):=by
     rw[h2]
     exact(beq_eq_false_iff_ne.2 (Ne.symm G6)).symm
    refine v1 (ae m5.own) ?_
    refine(eV m5.bR (p:=bh L x) (x:=r) (c:=false) ⟨zL.1,by omega⟩ ⟨q1,by omega⟩ y3 (by rw[u5];exact y2) (by rw[k5,XY];exact y1)).mono ?_
    rintro _ H6 ⟨rfl,L6,t6,l6,k6,SZ,e6⟩
    have m6:=m5.dH t6 e6 l6
    have Rk:=Wq.trans (e6.mono fun z _ h=>h▸s1)
    rw[k5]at k6
    rw[u5]at SZ
    rw[XY]at k6
    have b6:Ba w L6:=by
     show Bt _ _ _ _
     rw[k6,SZ];exact y4
    have u6:bh L6=if r= -1 then cW (bh L4) x else aJ (cW (bh L4) x) r (bh L x):=by rw[if_neg g];exact SZ
    refine v1 (ae m6.own) ?_
    refine(bY m6.cells x).mono ?_
    rintro _ H8 (⟨bS,_,_⟩| ⟨_,rfl,c8,e8⟩)
    ·exact absurd bE bS
    have m8:=m6.aH c8 e8 nL
    refine vs ?_
    refine .inr ⟨bE,rfl,cA.same ⟨B,C,L6,T,rfl,m8,?_,hS⟩ (Rk.trans (e8.mono fun z _ h=>hC z h))⟩
    exact d.below t ls (n:=w.cs.length) (fun y hy=>by obtain⟨y0,y1,_⟩:=aC hy;exact⟨y0,y1⟩) dZ hu b6 u6 p0 p1 p2 el
   ·have XY:decide (aX L (bh L x) true=x)=(aX L (bh L x) true==x):=by rw[Bool.eq_iff_iff];simp
    refine v1 (ae m5.own) ?_
    refine(eV m5.bR (p:=bh L x) (x:=r) (c:=decide (aX L (bh L x) true=x)) ⟨zL.1,by omega⟩ ⟨q1,by omega⟩ y3 (by rw[u5];exact y2) (by rw[k5,XY];exact y1)).mono ?_
    rintro _ H6 ⟨rfl,L6,t6,l6,k6,SZ,e6⟩
    have m6:=m5.dH t6 e6 l6
    have Rk:=Wq.trans (e6.mono fun z _ h=>h▸s1)
    rw[k5]at k6
    rw[u5]at SZ
    rw[XY]at k6
    have b6:Ba w L6:=by
     show Bt _ _ _ _
     rw[k6,SZ];exact y4
    have u6:bh L6=if r= -1 then cW (bh L4) x else aJ (cW (bh L4) x) r (bh L x):=by rw[if_neg g];exact SZ
    refine v1 (ae m6.own) ?_
    refine(bY m6.cells x).mono ?_
    rintro _ H8 (⟨bS,_,_⟩| ⟨_,rfl,c8,e8⟩)
    ·exact absurd bE bS
    have m8:=m6.aH c8 e8 nL
    refine vs ?_
    refine .inr ⟨bE,rfl,cA.same ⟨B,C,L6,T,rfl,m8,?_,hS⟩ (Rk.trans (e8.mono fun z _ h=>hC z h))⟩
    exact d.below t ls (n:=w.cs.length) (fun y hy=>by obtain⟨y0,y1,_⟩:=aC hy;exact⟨y0,y1⟩) dZ hu b6 u6 p0 p1 p2 el
theorem Bv{n:Nat}{H:Hp}{S:Nat→Prop}{w:Nw}(h:dO n H S w)(g:Int):af Tryz.prog lJ [ptr n,i64 g] H fun v H'=>ar (
  (w.len g=0∧v= .tuple [i64 0,.bool false].toArray∧cA (dO n) S H H' w)∨(∃x,w.first g x∧v= .tuple [i64 x,.bool true].toArray∧cA (dO n) S H H' (w.put x (0,0,0)))):=by
 refine aZ wT ?_
 refine vs ?_
 refine(xC h g).mono ?_
 rintro _ _ ⟨⟨h0,rfl⟩| ⟨x,hx,rfl⟩,rfl⟩
 ·refine vs ?_
  exact .inl ⟨h0,rfl,cA.same h (ag.refl _ _)⟩
 ·refine vs ?_
  refine(Dd h x).mono ?_
  rintro _ H1 (⟨bS,_,_⟩| ⟨_,rfl,h1⟩)
  ·exact absurd (bC.1 (by have:=bH.1 hx;omega)) bS
  refine vs ?_
  exact .inr ⟨x,hx,rfl,h1⟩
theorem QK(n:Nat):xu (.iface 170 (ptr n)) (dO n) where
 slt h:=h.slt
 ext h e hd:=h.ext e hd
 cells:=by
  rintro H S w ⟨B,C,L,T,rfl,m,l,hS⟩
  exact⟨B.c,C,m.cells⟩
 has:=by
  rintro H S w g ⟨B,C,L,T,rfl,m,l,hS⟩
  exact⟨_,_,bu,ptr B.c,rfl,fG (off:=0) (by kernel_rfl) (ae m.own) rfl,(ik m.cells g).mono fun v H' hp=>hp⟩
 make:=by
  rintro H S w ⟨B,C,L,T,rfl,m,l,hS⟩
  exact⟨_,_,dw,ptr B.c,rfl,fG (off:=0) (by kernel_rfl) (ae m.own) rfl,(GA m l rfl hS).mono fun v H' hp=>hp⟩
 insert:=by
  intro H S w g x k s h
  exact⟨_,_,mN,ptr n,rfl,br (by kernel_rfl),(Dc h g x k s).mono fun v H' hp=>hp⟩
 min:=by
  intro H S w g h
  refine⟨_,_,rW,ptr n,rfl,br (by kernel_rfl),(xC h g).mono ?_⟩
  rintro v H' ⟨⟨h1,rfl⟩| ⟨x,h1,rfl⟩,rfl⟩
  ·exact .inl ⟨h1,rfl,cA.same h (ag.refl _ _)⟩
  ·exact .inr ⟨x,h1,rfl,cA.same h (ag.refl _ _)⟩
 extract:=by
  intro H S w g h
  exact⟨_,_,lJ,ptr n,rfl,br (by kernel_rfl),(Bv h g).mono fun v H' hp=>hp⟩
 nl:=by
  intro H S w x k s h
  exact⟨_,_,j9,ptr n,rfl,br (by kernel_rfl),(zp h x k s).mono fun v H' hp=>hp⟩
 entry:=by
  rintro H S w x ⟨B,C,L,T,rfl,m,l,hS⟩
  refine⟨_,_,ba,ptr B.c,rfl,fG (off:=0) (by kernel_rfl) (ae m.own) rfl,(gB m.cells x).mono ?_⟩
  rintro v H' ⟨c1,f,hv⟩
  exact⟨⟨B,C,L,T,rfl,m.fresh f,l,hS⟩,f,hv⟩
end Go.Proofs.YthpjfeolagohkaaGreat
