import Derived.Test.YtjlnnljohemifaaGreatK98
import Derived.Test.YtjlnnljohemifaaGreatK27
import Derived.Test.YtjlnnljohemifaaGreatK28
import Derived.Test.YtjlnnljohemifaaGreatK29
import Derived.Test.YtjlnnljohemifaaGreatK30
import Derived.Test.YtjlnnljohemifaaGreatK0
import Derived.Test.YtjlnnljohemifaaGreatK1
import Derived.Test.YtjlnnljohemifaaGreatK21
import Derived.Test.YtjlnnljohemifaaGreatK22
import Derived.Test.YtjlnnljohemifaaGreatK36
import Derived.KernelRfl
set_option maxRecDepth 100000
set_option maxHeartbeats 8000000
set_option linter.unusedVariables false
set_option linter.unusedSimpArgs false
namespace Go.Proofs.YtjlnnljohemifaaGreat
open Go Go.Vc
structure SB where
 n:Nat
 c:Nat
 t:Nat
 tl:Nat
 mp:Nat
def Ga(T:Int→Int):Int→Option Value:=fun h=>if T h= -1 then none else some (i64 (T h))
structure dZ(H:Hp)(B:SB)(C:Nat→Prop)(w:Nw)(L:List Lk)(T:Int→Int):Prop where
 own:H.own B.n=some [ptr B.c,ptr B.t,.map (some B.mp)]
 cells:CQ H B.c C w
 bU:bO H B.t B.tl L
 Ra:ly H B.mp (Ga T)
 len:L.length=w.cs.length
 mc:(B.n≠B.t∧B.n≠B.tl∧B.n≠B.mp)∧(B.t≠B.tl∧B.t≠B.mp)∧B.tl≠B.mp
 out:¬C B.n∧¬C B.t∧¬C B.tl∧¬C B.mp
def SB.S(B:SB)(C:Nat→Prop)(z:Nat):Prop:=C z∨z=B.n∨z=B.t∨z=B.tl∨z=B.mp
section
variable {H H' : Hp} {B : SB} {C V : Nat → Prop} {w w' : Nw} {L L' : List Lk} {T : Int → Int}
theorem dZ.slt(h:dZ H B C w L T):∀z,B.S C z→z<H.size:=by
 rintro z (hz|rfl|rfl|rfl|rfl)
 ·exact h.cells.slt z hz
 ·exact aA h.own
 ·exact aA h.bU.own
 ·exact aA h.bU.k9
 ·exact h.Ra.lt
theorem dZ.ext(h:dZ H B C w L T)(e:ag V H H')(hd:∀z,B.S C z→¬V z):dZ H' B C w L T:=
 ⟨e.own h.own (hd _ (.inr (.inl rfl))),h.cells.ext e (fun x hx=>hd x (.inl hx)),h.bU.ext e (hd _ (.inr (.inr (.inl rfl)))) (hd _ (.inr (.inr (.inr (.inl rfl))))),
  h.Ra.ext e (hd _ (.inr (.inr (.inr (.inr rfl))))),h.len,h.mc,h.out⟩
theorem dZ.fresh(h:dZ H B C w L T)(e:ai H H'):dZ H' B C w L T:=h.ext e fun _ _ h=>h
theorem dZ.aJ(h:dZ H B C w L T)(c1:CQ H' B.c C w')(e:ag C H H')(hl:w'.cs.length=w.cs.length):dZ H' B C w' L T:=by
 obtain⟨o1,o2,o3,o4⟩:=h.out
 exact⟨e.own h.own o1,c1,h.bU.ext e o2 o3,h.Ra.ext e o4,by rw[hl];exact h.len,h.mc,h.out⟩
theorem dZ.dC(h:dZ H B C w L T)(t1:bO H' B.t B.tl L')(e:ag (fun z=>z=B.tl) H H')(hl:L'.length=L.length):dZ H' B C w L' T:=by
 obtain⟨o1,o2,o3,o4⟩:=h.out
 obtain⟨⟨d1,d2,d3⟩,⟨d4,d5⟩,d6⟩:=h.mc
 exact⟨e.own h.own d2,h.cells.ext e (fun x hx hz=>o3 (hz▸hx)),t1,h.Ra.ext e (Ne.symm d6),by rw[hl];exact h.len,h.mc,h.out⟩
theorem dZ.lc(h:dZ H B C w L T){T':Int→Int}(t1:ly H' B.mp (Ga T'))(e:ag (fun z=>z=B.mp) H H'):dZ H' B C w L T':=by
 obtain⟨o1,o2,o3,o4⟩:=h.out
 obtain⟨⟨d1,d2,d3⟩,⟨d4,d5⟩,d6⟩:=h.mc
 exact⟨e.own h.own d3,h.cells.ext e (fun x hx hz=>o4 (hz▸hx)),h.bU.ext e d5 d6,t1,h.len,h.mc,h.out⟩
theorem Sb(T:Int→Int)(h x:Int):(x= -1→Ga (iX T h x)=MF (Ga T) h)∧(x≠ -1→Ga (iX T h x)=I1 (Ga T) h (i64 x)):=by
 constructor
 ·rintro rfl
  funext y
  unfold Ga iX MF
  by_cases hy:y=h
  ·rw[if_pos hy,if_pos rfl,if_pos hy]
  ·rw[if_neg hy,if_neg hy]
 ·intro hx
  funext y
  unfold Ga iX I1
  by_cases hy:y=h
  ·rw[if_pos hy,if_neg hx,if_pos hy]
  ·rw[if_neg hy,if_neg hy]
theorem lJ(h:dZ H B C w L T)(g:Int):af Tryz.prog Am [ptr B.n,i64 g] H fun v H'=>aw (v=i64 (T g)∧H'=H):=by
 refine bm AM ?_
 refine v2 (ae h.own) h.Ra.look ?_
 unfold Ga
 by_cases hg:T g= -1
 ·rw[if_pos hg,hg]
  refine vs ?_
  exact⟨rfl,rfl⟩
 ·rw[if_neg hg]
  refine vs ?_
  exact⟨rfl,rfl⟩
theorem lK(h:dZ H B C w L T)(g x:Int):af Tryz.prog Ak [ptr B.n,i64 g,i64 x] H fun v H'=>aw (dZ H' B C w L (iX T g x)∧ag (fun z=>z=B.mp) H H'):=by
 obtain⟨h1,h2⟩:=Sb T g x
 refine bm AK ?_
 refine vs ?_
 refine am.dec (fun hx=>?_) (fun hx=>?_)<;>refine v1 (ae h.own) ?_
 ·refine h.Ra.del fun H1 t1 e1=>?_
  rw[←h1 hx]at t1
  refine vs ?_
  exact⟨h.lc t1 e1,e1⟩
 ·refine h.Ra.YA fun H1 t1 e1=>?_
  rw[←h2 hx]at t1
  refine vs ?_
  exact⟨h.lc t1 e1,e1⟩
theorem LK{x a:Int}{b:Bool}(he:gv x= .tuple [i64 a,.bool b].toArray):(b=false∧x= -1)∨(b=true∧a=x∧x≠ -1):=by
 have h2:∀ {p q:Int} {r s:Bool},Value.tuple [i64 p,Value.bool r].toArray=Value.tuple [i64 q,Value.bool s].toArray→p=q∧r=s:=fun h=>by
  have h3:=anP Array.toList (Value.tuple.inj h)
  injection h3 with h4 h5
  injection h4 with _ h4
  injection h5 with h5 _
  injection h5 with h5
  exact⟨h4,h5⟩
 unfold gv at he
 split at he
 ·rename_i hx
  exact .inl ⟨(h2 he).2.symm,hx⟩
 ·rename_i hx
  exact .inr ⟨(h2 he).2.symm,(h2 he).1.symm,hx⟩
theorem lL(h:dZ H B C w L T)(hb:Bt (aG w) (aQ w) (aZ L) (bj L)){x a:Int}{b:Bool}(he:gv x= .tuple [i64 a,.bool b].toArray):
  af Tryz.prog An [ptr B.n,i64 a,.bool b] H fun v H'=>aw (v=i64 x∧∃L',dZ H' B C w L' T∧aZ L'=iJ (aZ L) (bj L) x∧bj L'=cW (bj L) x∧ag (fun z=>z=B.tl) H H'):=by
 refine bm AN ?_
 refine vs ?_
 rcases LK he with ⟨rfl,rfl⟩| ⟨rfl,rfl,hx⟩
 ·refine vs ?_
  obtain⟨h1,h2⟩:=AD hb
  exact⟨rfl,L,h,h1.symm,h2.symm,ag.refl _ _⟩
 ·refine v1 (ae h.own) ?_
  refine(cH h.bU (x:=a) (fun hu=>by have:=AT.up hb hu;have:=h.len;omega)).mono ?_
  rintro _ H1 ⟨rfl,L1,t1,l1,k1,u1,e1⟩
  refine vs ?_
  exact⟨rfl,L1,h.dC t1 e1 l1,k1,u1,e1⟩
theorem lM(h:dZ H B C w L T){g a0 b0:Int}{R:Int→Prop}(m:Mg (aG w) (aQ w) g R (aZ L) (bj L) [] a0 b0):
  af Tryz.prog Al [ptr B.n,i64 a0,i64 b0] H fun v H'=>aw (∃r L',v=i64 r∧dZ H' B C w L' T∧Mg (aG w) (aQ w) g R (aZ L') (bj L') [] r (-1)∧
   (∀x0,wP (aQ w) (aZ L) (bj L) x0 (aZ L) (bj L) [] a0 b0→wP (aQ w) (aZ L) (bj L) x0 (aZ L') (bj L') [] r (-1))∧ag (fun z=>C z∨z=B.tl) H H'):=by
 refine bm AL ?_
 refine vs ?_
 have wY:=h.cells.DY
 refine bk.intro (fun mm env H'=>∃ (a b:Int) (dI:List Int) (wv:Value) (fp:Option Nat) (L':List Lk),mm=w.cs.length - dI.length∧dZ H' B C w L' T∧Mg (aG w) (aQ w) g R (aZ L') (bj L') dI a b∧
  (∀x0,wP (aQ w) (aZ L) (bj L) x0 (aZ L) (bj L) [] a0 b0→wP (aQ w) (aZ L) (bj L) x0 (aZ L') (bj L') dI a b)∧
  (∀z,fp=some z→H.size≤z)∧Sl H' 1 wv dI.length (dI.map i64) fp∧ag (fun z=>C z∨z=B.tl∨H.size≤z) H H'∧
  env=[(0,ptr B.n),(1,i64 a),(2,i64 b),(7,wv)]) _ ⟨a0,b0,[],_,none,L,rfl,h,m,(fun _ h=>h),(fun z h=>by cases h),Sl.nil _ _,ag.refl _ _,rfl⟩ ?_
 rintro mm env H1 ⟨a,b,dI,wv,fp,L1,rfl,l1,m1,f1,gu,s1,e1,rfl⟩
 have z1:=e1.size
 clear m
 refine vs ?_
 refine am.dec (fun ga=>?A) (fun ga=>?_)<;>refine vs ?_
 rotate_left
 refine am.dec (fun gb=>?B) (fun gb=>?_)<;>refine vs ?_
 rotate_left
 ·have o1:=l1.own
  refine v1 (ae o1) ?_
  refine(cD l1.cells b a).mono ?_
  rintro _ H2 ⟨rfl,c2,e2⟩
  have l2:=l1.aJ c2 e2 rfl
  have s2:=s1.ext e2 (fun z hz dM=>by have:=gu z hz;have:=h.slt z (.inl dM);omega)
  have z2:=e2.size
  have ha:=m1.wa.resolve_left ga
  have hb:=m1.wb.resolve_left gb
  have zI:=gN (w:=w) (a:=b) (b:=a) (by rw[hb.1];exact m1.pos) (by rw[ha.1];exact m1.pos)
  have aP:a≠b:=fun e=>ga (m1.ab e)
  rw[zI]
  obtain⟨p,q,NP,hl,gp,gq,mm,fm⟩:∃p q,(if aQ w b a=true then(p=b∧q=a)else(p=a∧q=b))∧aQ w p q=true∧p≠ -1∧q≠ -1∧Mg (aG w) (aQ w) g R (aZ L1) (bj L1) dI p q∧
    (∀x0,wP (aQ w) (aZ L) (bj L) x0 (aZ L) (bj L) [] a0 b0→wP (aQ w) (aZ L) (bj L) x0 (aZ L1) (bj L1) dI p q):=by
   cases aO:aQ w b a
   ·exact⟨a,b,by simp,((ar w).Ob a b aP).resolve_right (by rw[aO];simp),ga,gb,m1,f1⟩
   ·exact⟨b,a,by simp,aO,gb,ga,m1.swap,fun x0 h0=>(f1 x0 h0).swap⟩
  have Pz:0<aG w p:=by rw[(mm.wa.resolve_left gp).1];exact mm.pos
  obtain⟨p0,p1,_⟩:=aD Pz
  have m3:=mm.Q9 (ar w) gp gq hl
  have f3:=fun x0 h0=>(fm x0 h0).down (ar w) mm.bt gp
  have wl:(dI++[p]).length≤w.cs.length:=bV (m3.nodup (ar w)) fun x hx=>by
   have Iq:=(m3.wy x hx).2.1
   have sL:=m3.pos
   obtain⟨x0,x1,_⟩:=aD (w:=w) (x:=x) (by omega)
   exact⟨x0,x1⟩
  rw[anD,anM]at wl
  cases aO:aQ w b a<;>simp only[aO,if_true,if_false,aox]at NP<;>obtain⟨rfl,rfl⟩:=NP<;>refine vs ?_
  all_goals
   refine AO (B:=H.size) gu (by omega) s2 p (by omega) fun w' H3 cO jj s3 e3=>?_
   refine vs ?_
   have l3:=l2.ext e3 (fun z hz dM=>by have:=h.slt z hz;omega)
   have o3:=l3.own
   refine v1 (ae o3) ?_
   refine(cu l3.bU p).mono ?_
   rintro _ H' ⟨rfl,e⟩
   obtain rfl:=e.symm
   obtain⟨k1,k2,ek⟩:=cI (aZ L1 p true)
   rw[ek]
   refine vs ?_
   refine(lL l3 mm.bt ek).mono ?_
   rintro _ H4 ⟨rfl,L4,l4,U6,U7,e4⟩
   have s4:=s3.ext e4 (fun z hz dM=>by have:=jj z hz;have:=h.slt B.tl (.inr (.inr (.inr (.inl rfl))));omega)
   refine vs ?_
   refine⟨w.cs.length - (dI.length+1),by omega,aZ L1 p true,q,dI++[p],w',cO,L4,by simp,l4,?_,?_,jj,s4,((e1.trans (e2.mono fun z _ hz=>.inl hz)).trans (e3.mono fun z _ hz=>.inr (.inr hz))).trans (e4.mono fun z _ hz=>.inr (.inl hz)),rfl⟩
   ·rw[U6,U7];exact m3
   ·rw[U6,U7];exact f3
 case' A=>
  have m2:Mg (aG w) (aQ w) g R (aZ L1) (bj L1) dI b (-1):=ga▸m1.swap
  have f2:=fun x0 (h0:wP (aQ w) (aZ L) (bj L) x0 (aZ L) (bj L) [] a0 b0)=>(f1 x0 h0).swap
  rw[ga]at f2
  have hr:(if b>a then b else a)=b:=by
   rcases m1.wb with h|h
   ·omega
   ·have hp:=m1.pos
    obtain⟨_,_⟩:=aD (w:=w) (x:=b) (by omega)
    omega
  rw[hr]
  clear hr
  generalize b=r at m2 f2
 case' B=>
  have m2:Mg (aG w) (aQ w) g R (aZ L1) (bj L1) dI a (-1):=gb▸m1
  have f2:=f1
  rw[gb]at f2
  have hr:(if b>a then b else a)=a:=by
   rcases m1.wa with h|h
   ·omega
   ·have hp:=m1.pos
    obtain⟨_,_⟩:=aD (w:=w) (x:=a) (by omega)
    omega
  rw[hr]
  clear hr
  generalize a=r at m2 f2
 all_goals
  obtain⟨wa,wc,rfl⟩:=Sl.shape s1
  refine vs ?_
  have wl:dI.length≤w.cs.length:=bV (m2.nodup (ar w)) fun x hx=>by
   have Iq:=(m2.wy x hx).2.1
   have sL:=m2.pos
   obtain⟨x0,x1,_⟩:=aD (w:=w) (x:=x) (by omega)
   exact⟨x0,x1⟩
  refine bk.intro (fun mm env H'=>∃ (i:Nat) (r:Int) (L':List Lk),mm=i∧i≤dI.length∧dZ H' B C w L' T∧Mg (aG w) (aQ w) g R (aZ L') (bj L') (dI.take i) r (-1)∧
   (∀x0,wP (aQ w) (aZ L) (bj L) x0 (aZ L) (bj L) [] a0 b0→wP (aQ w) (aZ L) (bj L) x0 (aZ L') (bj L') (dI.take i) r (-1))∧
   Sl H' 1 (.slice wa dI.length wc) dI.length (dI.map i64) fp∧ag (fun z=>C z∨z=B.tl∨H.size≤z) H H'∧
   env=[(0,ptr B.n),(7,.slice wa dI.length wc),(8,i64 r),(9,i64 ((i:Int) - 1))]) _ ⟨dI.length,r,L1,rfl,anG _,l1,by rw[an4];exact m2,by rw[an4];exact f2,s1,e1,?_⟩ ?_
  ·rw[wrap64 (by omega) (by omega)]
  rintro mm env H2 ⟨i,r2,L2,hmi,hi,l2,m3,f3,s2,e2,rfl⟩
  obtain rfl:=hmi.symm
  refine vs ?_
  refine am.dec (fun gi=>?_) (fun gi=>?_)<;>refine vs ?_
  rotate_left
  ·obtain rfl:i=0:=by omega
   exact⟨r2,L2,rfl,l2,by simpa using m3,by simpa using f3,e2.mono fun z hz h=>h.elim .inl fun h=>.inr (by omega)⟩
  obtain⟨j,rfl⟩:∃j,i=j+1:=⟨i - 1,by omega⟩
  obtain⟨v,hv⟩:∃v,dI[j]? =some v:=⟨_,ans (by omega)⟩
  have tk:dI.take (j+1)=dI.take j++[v]:=by rw[aoa,hv];rfl
  rw[tk]at m3 f3
  have m4:=m3.back (ar w)
  have f4:=fun x0 h0=>(f3 x0 h0).back
  obtain⟨v1,v2,v3,v4,v5,v6⟩:=m3.wy v (by simp)
  obtain⟨q1,vb,lb,rfl,q2,q3⟩:=Sl.zg s2 hv
  have hvb:∃b',fp=some b'∧b'=vb:=by
   cases fp with
   |none=>have:=s2.2.2;injection this with h1;cases h1
   |some b'=>obtain⟨_,_,h1,_⟩:=s2.2;injection h1 with h1;injection h1 with h1;injection h1 with h1;exact⟨b',rfl,h1.symm⟩
  obtain⟨b',rfl,rfl⟩:=hvb
  have hvb:=gu b' rfl
  have U8:0<aG w v:=by rw[v2];exact m3.pos
  obtain⟨Ww,vv1,_⟩:=aD U8
  have ji:((((j+1:Nat):Int) - 1)).toNat=j:=by omega
  refine⟨⟨by omega,by omega⟩,?_⟩
  simp(disch:=(first|omega| (simp only[Zs]<;>omega)|fail)) only[go_sem, ↓reduceIte,Zv,ae q2,ant,anw,ji,q3]
  refine am.dec (fun gr=>?_) (fun gr=>?_)<;>refine vs ?_
  ·rw[if_pos gr,if_pos gr]at m4
   simp only[if_pos gr]at f4
   have f5:=f4
   have l3:=l2
   have m5:=m4
   have s3:=s2
   have e3:=e2
   simp(disch:=(first|omega| (simp only[Zs]<;>omega)|fail)) only[go_sem, ↓reduceIte,Zv,ae l3.own]
   refine(lH l3.bU (p:=v) ⟨Ww,by have:=l3.len;omega⟩).mono ?_
   rintro _ H4 ⟨rfl,L4,t4,Wv,k4,u4,e4⟩
   have l4:=l3.dC t4 e4 Wv
   refine vs ?_
   refine⟨j,by omega,j,v,L4,rfl,by omega,l4,?_,?_,s3.ext e4 (fun z hz dM=>by injection hz with hz;have:=h.slt B.tl (.inr (.inr (.inr (.inl rfl))));omega),e3.trans (e4.mono fun z _ hz=>.inr (.inl hz)),?_⟩
   ·rw[k4,u4];exact m5.tg (ar w)
   ·rw[k4,u4];exact fun x0 h0=>(f5 x0 h0).tg v1
   ·rw[show((j+1:Nat):Int) - 1 - 1=(j:Int) - 1 by omega,wrap64 (by omega) (by omega)]
  ·rw[if_neg gr,if_neg gr]at m4
   simp only[if_neg gr]at f4
   have zD:=m3.wa.resolve_left gr
   obtain⟨r0,r1,_⟩:=aD (w:=w) (x:=r2) (by rw[zD.1];exact m3.pos)
   have aX:=l2.len
   have hvr:v≠r2:=fun e=>by have:=v5 gr;rw[e,(ar w).vk]at this;cases this
   simp(disch:=(first|omega| (simp only[Zs]<;>omega)|fail)) only[go_sem, ↓reduceIte,Zv,ae l2.own]
   refine(eV l2.bU (p:=v) (x:=r2) (c:=true) ⟨Ww,by omega⟩ ⟨r0,by omega⟩ hvr zD.2 v4).mono ?_
   rintro _ H3 ⟨rfl,L3,t3,ll3,kk3,uu3,Gy⟩
   have l3:=l2.dC t3 Gy ll3
   have m5:Mg (aG w) (aQ w) g R (aZ L3) (bj L3) (dI.take j) v (-1):=by rw[kk3,uu3];exact m4
   have f5:=f4
   rw[←kk3,←uu3]at f5
   have nb:b'≠B.tl:=fun e=>by have:=h.slt B.tl (.inr (.inr (.inr (.inl rfl))));omega
   have s3:=s2.ext Gy (fun z hz dM=>by injection hz with hz;exact nb (hz.trans dM))
   have e3:=e2.trans (Gy.mono fun z _ hz=>.inr (.inl hz))
   refine vs ?_
   simp(disch:=(first|omega| (simp only[Zs]<;>omega)|fail)) only[go_sem, ↓reduceIte,Zv,ae l3.own]
   refine(lH l3.bU (p:=v) ⟨Ww,by have:=l3.len;omega⟩).mono ?_
   rintro _ H4 ⟨rfl,L4,t4,Wv,k4,u4,e4⟩
   have l4:=l3.dC t4 e4 Wv
   refine vs ?_
   refine⟨j,by omega,j,v,L4,rfl,by omega,l4,?_,?_,s3.ext e4 (fun z hz dM=>by injection hz with hz;have:=h.slt B.tl (.inr (.inr (.inr (.inl rfl))));omega),e3.trans (e4.mono fun z _ hz=>.inr (.inl hz)),?_⟩
   ·rw[k4,u4];exact m5.tg (ar w)
   ·rw[k4,u4];exact fun x0 h0=>(f5 x0 h0).tg v1
   ·rw[show((j+1:Nat):Int) - 1 - 1=(j:Int) - 1 by omega,wrap64 (by omega) (by omega)]
end
end Go.Proofs.YtjlnnljohemifaaGreat
namespace Go.Proofs.YtjlnnljohemifaaGreat
open Go Go.Vc
def dL(n:Nat)(H:Hp)(S:Nat→Prop)(w:Nw):Prop:=∃ (B:SB) (C:Nat→Prop) (L:List Lk) (T:Int→Int),B.n=n∧dZ H B C w L T∧AC (aG w) (aQ w) (aZ L) (bj L) T∧∀z,S z↔B.S C z
theorem dL.slt{n:Nat}{H:Hp}{S:Nat→Prop}{w:Nw}(h:dL n H S w):∀z,S z→z<H.size:=by
 obtain⟨B,C,L,T,rfl,m,l,hS⟩:=h
 exact fun z hz=>m.slt z ((hS z).1 hz)
theorem dL.ext{n:Nat}{H H':Hp}{S V:Nat→Prop}{w:Nw}(h:dL n H S w)(e:ag V H H')(hd:∀z,S z→¬V z):dL n H' S w:=by
 obtain⟨B,C,L,T,rfl,m,l,hS⟩:=h
 exact⟨B,C,L,T,rfl,m.ext e (fun z hz=>hd z ((hS z).2 hz)),l,hS⟩
theorem PW:Ga (fun _=> -1)=fun _=>none:=by
 funext y
 unfold Ga
 rw[if_pos rfl]
theorem HJ(cap:Int)(H:Hp):af Tryz.prog ML [i64 cap] H fun v H'=>aw (
  ai H H'∧((¬ (0≤cap∧cap≤65536)∧v= .tuple [.pointer none,i64 31].toArray)∨
   ((0≤cap∧cap≤65536)∧∃n S,v= .tuple [ptr n,i64 0].toArray∧dL n H' S (zj cap)∧∀x,S x→H.size≤x))):=by
 refine bm MQ ?_
 refine vs ?_
 refine(k8 cap H).mono ?_
 rintro _ H1 ⟨f1,⟨hb,rfl⟩| ⟨hb,c,C,rfl,c1,hC⟩⟩
 ·refine vs ?_
  exact⟨f1,.inl ⟨hb,rfl⟩⟩
 refine v1 aoi ?_
 refine(uG H1 hb).mono ?_
 rintro _ H2 ⟨t,tl,rfl,t2,f2,ht,Mc⟩
 refine vs ?_
 have xE:=c1.slt
 have z1:=f1.size
 have z2:=f2.size
 have Gt:=aA t2.own
 have WJ:=aA t2.k9
 have f3:ai H2 (H2.iI.new 282 [ptr c,ptr t,.map (some H2.size)]):=((ag.refl _ _).iI).new _ _
 have e1:ag (fun _=>False) H2.iI (H2.iI.new 282 [ptr c,ptr t,.map (some H2.size)]):=(ag.refl _ _).new _ _
 have ft:=f1.trans (f2.trans f3)
 refine⟨ft,.inr ⟨hb,H2.size+1,(SB.mk (H2.size+1) c t tl H2.size).S C,rfl,⟨⟨H2.size+1,c,t,tl,H2.size⟩,C,_,fun _=> -1,rfl,
  ⟨?_,c1.fresh (f2.trans f3),t2.fresh f3,by rw[PW];exact(ly.new H2).ext e1 (fun h=>h),?_,?_,?_⟩,AC.none rfl (lf cap) (AV _) (FP _) (fun _=>rfl),fun z=>Iff.rfl⟩,fun z hz=>?_⟩⟩
 ·exact aV (by simp only[iA])
 ·simp[zj]
 ·have:=t2.ne
  refine⟨⟨?_,?_,?_⟩,⟨?_,?_⟩,?_⟩<;>simp only<;>omega
 ·refine⟨fun h=>?_,fun h=>?_,fun h=>?_,fun h=>?_⟩<;>(have h2:=xE _ h;first|omega| (simp only at h2;omega))
 ·rcases hz with hz|rfl|rfl|rfl|rfl
  ·exact hC z hz
  all_goals first|omega| (simp only;omega)
theorem Gb{n:Nat}{H:Hp}{B:SB}{C:Nat→Prop}{w:Nw}{L:List Lk}{T:Int→Int}{S:Nat→Prop}(m:dZ H B C w L T)(l:AC (aG w) (aQ w) (aZ L) (bj L) T)(hn:B.n=n)(hS:∀z,S z↔B.S C z):af Tryz.prog dq [ptr B.c] H fun v H'=>aw (
  (w.hs.length=65537∧v=i64 0∧cz (dL n) S H H' w)∨(w.hs.length≠65537∧v=i64 w.hs.length∧cz (dL n) S H H' w.make)):=by
 subst hn
 refine(jf m.cells).mono ?_
 rintro _ H1 (⟨h1,rfl,rfl⟩| ⟨h1,rfl,C',c1,e1,zk⟩)
 ·exact .inl ⟨h1,rfl,cz.same ⟨B,C,L,T,rfl,m,l,hS⟩ (ag.refl _ _)⟩
 obtain⟨n1,n2,n3,n4⟩:=m.out
 have slt:=m.slt
 have no:∀z,B.S (fun _=>False) z→¬C z→¬C' z:=fun z hz hn h=>by
  rcases zk z h with h6|h6
  ·exact hn h6
  ·have:=slt z (hz.elim (fun h=>h.elim) .inr)
   omega
 refine .inr ⟨h1,rfl,B.S C',⟨B,C',L,T,rfl,⟨e1.own m.own n1,c1,m.bU.ext e1 n2 n3,m.Ra.ext e1 n4,m.len,m.mc,no _ (.inr (.inl rfl)) n1,no _ (.inr (.inr (.inl rfl))) n2,no _ (.inr (.inr (.inr (.inl rfl)))) n3,no _ (.inr (.inr (.inr (.inr rfl)))) n4⟩,l,fun z=>Iff.rfl⟩,
  e1.mono fun z _ h=>(hS z).2 (.inl h),fun z hz=>?_⟩
 rcases hz with hz|hz
 ·rcases zk z hz with h6|h6
  ·exact .inl ((hS z).2 (.inl h6))
  ·exact .inr h6
 ·exact .inl ((hS z).2 (.inr hz))
theorem CP{n:Nat}{H:Hp}{S:Nat→Prop}{w:Nw}(h:dL n H S w)(g x k s:Int):af Tryz.prog mY [ptr n,i64 g,i64 x,tz k s] H fun v H'=>aw (
  (¬w.lI g x∧v= .bool false∧cz (dL n) S H H' w)∨(w.lI g x∧v= .bool true∧cz (dL n) S H H' (w.put x (g,k,s)))):=by
 obtain⟨B,C,L,T,rfl,m,l,hS⟩:=h
 have hC:∀z,C z→S z:=fun z h=>(hS z).2 (.inl h)
 have s1:S B.tl:=(hS _).2 (.inr (.inr (.inr (.inl rfl))))
 have s2:S B.mp:=(hS _).2 (.inr (.inr (.inr (.inr rfl))))
 refine bm zb ?_
 refine vs ?_
 have f0:ai H (H.new 224 [i64 k,u64 s]):=(ag.refl _ _).new _ _
 have b0:(H.new 224 [i64 k,u64 s]).own H.size=some [i64 k,u64 s]:=aB _ _ _
 have m0:=m.fresh f0
 generalize H.new 224 [i64 k,u64 s]=H0 at*
 have ff:ag S H H0:=f0.mono fun _ _ h=>h.elim
 refine v2 (ae m0.own) (ae b0) ?_
 refine(kZ m0.cells g x k s).mono ?_
 rintro _ H1 (⟨bK,rfl,c1,e1⟩| ⟨qm,rfl,c1,e1⟩)
 ·refine vs ?_
  exact .inl ⟨bK,rfl,cz.same ⟨B,C,L,T,rfl,m0.aJ c1 e1 rfl,l,hS⟩ (ff.trans (e1.mono fun z _ hz=>hC z hz))⟩
 obtain⟨hh,hx,bJ⟩:=id qm
 have m1:=m0.aJ c1 e1 (by simp[Nw.put])
 have hg:=hh.1
 have cK:=fun y=>dS hx (g,k,s) y
 have bo:TC (aG (w.put x (g,k,s))) (aQ (w.put x (g,k,s))) (aZ L) (bj L) T g x:=by
  refine l.ins rfl (Int.not_lt.1 fun h=>bJ (bq.1 h)) (by omega) (by omega) (by rw[cK,if_pos rfl]) (fun y hy=>by rw[cK,if_neg hy]) (fun a b ha hb tG me=>du hx _ ha hb tG me)
 refine vs ?_
 refine(lJ m1 g).mono ?_
 rintro _ H' ⟨rfl,e⟩
 obtain rfl:=e.symm
 refine vs ?_
 refine(lM m1 bo.mg).mono ?_
 rintro _ H2 ⟨r,L2,rfl,m2,g2,_,e2⟩
 refine vs ?_
 refine(lK m2 g r).mono ?_
 rintro _ H3 ⟨m3,e3⟩
 refine vs ?_
 exact .inr ⟨qm,rfl,cz.same ⟨B,C,L2,_,rfl,m3,bo.done g2,hS⟩ (((ff.trans (e1.mono fun z _ h=>hC z h)).trans (e2.mono fun z _ h=>by rcases h with h|rfl;exact hC z h;exact s1)).trans (e3.mono fun z _ h=>h▸s2))⟩
theorem IA{w:Nw}{L:List Lk}{T:Int→Int}(l:AC (aG w) (aQ w) (aZ L) (bj L) T){g x:Int}(h:w.first g x):T g=x:=by
 obtain⟨h1,h2,h3⟩:=bN.1 h
 have:=l.first (x:=x) (by omega) (fun y hy aP=>h3 y (by omega) aP) (ar w)
 rwa[h2]at this
theorem xR{n:Nat}{H:Hp}{S:Nat→Prop}{w:Nw}(h:dL n H S w)(g:Int):af Tryz.prog su [ptr n,i64 g] H fun v H'=>aw (
  ((w.len g=0∧v= .tuple [i64 0,.bool false].toArray)∨∃x,w.first g x∧v= .tuple [i64 x,.bool true].toArray)∧H'=H):=by
 obtain⟨B,C,L,T,rfl,m,l,hS⟩:=h
 refine bm DP ?_
 refine vs ?_
 refine(lJ m g).mono ?_
 rintro _ H' ⟨rfl,e⟩
 obtain rfl:=e.symm
 refine vs ?_
 refine am.dec (fun h0=>?_) (fun h0=>?_)<;>refine vs ?_
 ·refine⟨.inl ⟨?_,rfl⟩,rfl⟩
  by_cases hg:0<g
  ·refine anW fun hl=>?_
   obtain⟨x,hx⟩:=uD hg hl
   have h2:=(bN.1 hx).2.1
   have:=IA l hx
   have:=(aD (w:=w) (x:=x) (by omega)).1
   omega
  ·exact Nw.Hs.2 (.inl (by omega))
 ·obtain⟨h1,h2,h3⟩:=l.t1 g h0
  have hl:w.len g≠0:=fun e=>(uC h2).1 e _ h1
  obtain⟨x,hx⟩:=uD h2 hl
  rw[IA l hx]
  exact⟨.inr ⟨x,hx,rfl⟩,rfl⟩
theorem zu{n:Nat}{H:Hp}{S:Nat→Prop}{w:Nw}(h:dL n H S w)(x k s:Int):af Tryz.prog kL [ptr n,i64 x,tz k s] H fun v H'=>aw (
  (¬w.cX x k s∧v= .bool false∧cz (dL n) S H H' w)∨(w.cX x k s∧v= .bool true∧∃y,w.cs[x.toNat]? =some y∧cz (dL n) S H H' (w.put x (y.1,k,s)))):=by
 obtain⟨B,C,L,T,rfl,m,l,hS⟩:=h
 have hC:∀z,C z→S z:=fun z h=>(hS z).2 (.inl h)
 have s1:S B.tl:=(hS _).2 (.inr (.inr (.inr (.inl rfl))))
 have s2:S B.mp:=(hS _).2 (.inr (.inr (.inr (.inr rfl))))
 refine bm ut ?_
 refine vs ?_
 have f0:ai H (H.new 224 [i64 k,u64 s]):=(ag.refl _ _).new _ _
 have b0:(H.new 224 [i64 k,u64 s]).own H.size=some [i64 k,u64 s]:=aB _ _ _
 have m0:=m.fresh f0
 generalize H.new 224 [i64 k,u64 s]=H0 at*
 have ff:ag S H H0:=f0.mono fun _ _ h=>h.elim
 refine v2 (ae m0.own) (ae b0) ?_
 refine(gM m0.cells x k s).mono ?_
 rintro _ H1 (⟨bK,rfl,c1,e1⟩| ⟨bJ,rfl,y,hy,fh,c1,e1⟩)
 ·refine vs ?_
  exact .inl ⟨bK,rfl,cz.same ⟨B,C,L,T,rfl,m0.ext e1 (fun _ _ h=>h),l,hS⟩ (ff.trans (e1.mono fun _ _ h=>h.elim))⟩
 have my:(w.put x (y.1,k,s)).cs.length=w.cs.length:=by simp[Nw.put]
 have m1:=m0.aJ c1 e1 my
 have AY:w.cX x k s:=⟨bJ,fun z hz=>by rw[hy]at hz;injection hz with hz;rw[←hz];exact fh⟩
 have hx:0≤x∧x<w.cs.length:=⟨bJ.1,by have:=(anu.1 hy).1;have:=bJ.1;omega⟩
 have Qv:aG w x=y.1:=j0 bJ.1 hy
 have dF:=bq.2 bJ
 have hw:aG (w.put x (y.1,k,s))=aG w:=by
  funext z
  rw[dS hx]
  split
  ·rename_i e;rw[e,Qv]
  ·rfl
 have Eh:cT (w.put x (y.1,k,s)).cs x:=bq.1 (by rw[hw];exact dF)
 refine v1 (ae m1.own) ?_
 refine(de m1.cells x).mono ?_
 rintro _ H2 (⟨bK,_,_⟩| ⟨_,rfl,c2,e2⟩)
 ·exact absurd Eh bK
 have m2:=m1.aJ c2 e2 rfl
 have o8:ag S H H2:=(ff.trans (e1.mono fun z _ h=>hC z h)).trans (e2.mono fun z _ h=>hC z h)
 have el:∀a b,0<aG w a→0<aG w b→a≠x→b≠x→aQ (w.put x (y.1,k,s)) a b=aQ w a b:=fun a b ha hb tG me=>du hx _ ha hb tG me
 have ex:∀b,0<aG w b→b≠x→aQ w x b=true→aQ (w.put x (y.1,k,s)) x b=true:=fun b hb me h=>AR bJ hy fh hb me h
 refine v1 (ae m2.own) ?_
 refine(cH m2.bU (x:=x) (fun hu=>by have:=AT.up l.bt hu;have:=m2.len;omega)).mono ?_
 rintro _ H3 ⟨rfl,L3,t3,l3,k3,u3,e3⟩
 have m3:=m2.dC t3 e3 l3
 have D4:ag S H H3:=o8.trans (e3.mono fun z _ h=>h▸s1)
 unfold gv
 by_cases hu:bj L x= -1
 ·rw[if_pos hu]
  refine vs ?_
  have kk:aZ L3=aZ L:=by rw[k3];unfold iJ;rw[if_pos hu]
  have uu:bj L3=bj L:=by
   rw[u3]
   funext z
   unfold cW aI
   split
   ·rename_i e;rw[e,hu]
   ·rfl
  refine .inr ⟨AY,rfl,y,hy,cz.same ⟨B,C,L3,T,rfl,m3,?_,hS⟩ D4⟩
  rw[hw,kk,uu]
  exact l.TD dF hu el ex (ar w)
 rw[if_neg hu]
 refine vs ?_
 have bo:=l.low dF hu el ex (ar w)
 rw[←hw,←k3,←u3]at bo
 refine(lJ m3 _).mono ?_
 rintro _ H' ⟨rfl,e⟩
 obtain rfl:=e.symm
 refine vs ?_
 refine(lM m3 bo.mg).mono ?_
 rintro _ H4 ⟨r,L4,rfl,m4,g4,_,e4⟩
 refine vs ?_
 refine(lK m4 _ r).mono ?_
 rintro _ H5 ⟨m5,e5⟩
 refine vs ?_
 exact .inr ⟨AY,rfl,y,hy,cz.same ⟨B,C,L4,_,rfl,m5,bo.done g4,hS⟩ ((D4.trans (e4.mono fun z _ h=>by rcases h with h|rfl;exact hC z h;exact s1)).trans (e5.mono fun z _ h=>h▸s2))⟩
theorem CR{n:Nat}{H:Hp}{S:Nat→Prop}{w:Nw}(h:dL n H S w)(x:Int):af Tryz.prog yB [ptr n,i64 x] H fun v H'=>aw (
  (¬cT w.cs x∧v= .bool false∧cz (dL n) S H H' w)∨(cT w.cs x∧v= .bool true∧cz (dL n) S H H' (w.put x (0,0,0)))):=by
 obtain⟨B,C,L,T,rfl,m,t,hS⟩:=id h
 have hC:∀z,C z→S z:=fun z h=>(hS z).2 (.inl h)
 have s1:S B.tl:=(hS _).2 (.inr (.inr (.inr (.inl rfl))))
 have s2:S B.mp:=(hS _).2 (.inr (.inr (.inr (.inr rfl))))
 refine Gv za ⟨rfl,?_⟩
 refine v2 nl.eq_1 (ae m.own) ?_
 refine(de m.cells x).mono ?_
 rintro _ H1 (⟨bK,rfl,rfl⟩| ⟨bJ,rfl,c1,e1⟩)
 ·refine vs ?_
  exact .inl ⟨bK,rfl,cz.same h (ag.refl _ _)⟩
 have m1:=m.aJ c1 e1 rfl
 have dF:=bq.2 bJ
 obtain⟨fZ,kU,_⟩:=aD dF
 have Dl:x≠ -1:=by omega
 have ls:=ar w
 obtain⟨⟨d1,d2,d3⟩,⟨d4,d5⟩,d6⟩:=m.mc
 refine vs ?_
 refine jX.intro (fun H'=>H'.own B.n=some [ptr B.c,ptr B.t,.map (some B.mp)]) m1.own ?_
 refine vs ?_
 refine fV.intro (ptr B.t) (fun H' hI=>by refine v1 (ae hI) ?_;trivial) ?_
 refine v1 (ae m1.own) ?_
 refine And.intro m1.own ?_
 refine vs ?_
 obtain⟨a1,b1,ea1⟩:=cI (aZ L x false)
 refine(lG m1.bU x).mono ?_
 rintro _ H' ⟨rfl,e⟩
 obtain rfl:=e.symm
 rw[ea1]
 refine And.intro m1.own ?_
 refine vs ?_
 refine(lL m1 t.bt ea1).mono ?_
 rintro _ H2 ⟨rfl,L2,m2,k2,u2,e2⟩
 refine And.intro m2.own ?_
 refine vs ?_
 have bt2:AT w L2:=by
  show Bt _ _ _ _
  rw[k2,u2];exact t.bt.TB _
 have er:aZ L2 x true=aZ L x true:=by
  rw[k2,mK t.bt,if_neg]
  rintro⟨h1,h2⟩
  exact h1 (t.bt.two x h2.symm)
 obtain⟨a2,b2,ea2⟩:=cI (aZ L2 x true)
 refine(cu m2.bU x).mono ?_
 rintro _ H' ⟨rfl,e⟩
 obtain rfl:=e.symm
 rw[ea2]
 refine And.intro m2.own ?_
 refine vs ?_
 refine(lL m2 bt2 ea2).mono ?_
 rintro _ H3 ⟨rfl,L3,m3,k3,u3,e3⟩
 refine And.intro m3.own ?_
 rw[er]at k3 u3
 rw[k2,u2]at k3
 rw[u2]at u3
 obtain⟨w1,w2,w3,w4⟩:=t.bt.bare x
 have hk:∀c,aZ L x c= -1∨(aG w (aZ L x c)=aG w x∧bj L3 (aZ L x c)= -1):=fun c=>by
  by_cases hk:aZ L x c= -1
  ·exact .inl hk
  ·refine .inr ⟨(t.bt.home hk).2.2.1,?_⟩
   rw[u3,w4,if_pos]
   cases c
   ·exact .inl rfl
   ·exact .inr rfl
 rw[←k3,←u3]at w1
 have mg:=Mg.start w1 dF (hk false) (hk true) (fun e=>t.bt.two x e)
 rw[er]
 refine vs ?_
 refine(lM m3 mg).mono ?_
 rintro _ H4 ⟨r,L4,rfl,m4,g4,f4,e4⟩
 refine And.intro m4.own ?_
 refine vs ?_
 have f4:=f4 x (wP.start (fun hk=>(t.bt.home hk).2.2.2.2) (fun hk=>(t.bt.home hk).2.2.2.2))
 have d:=t.UW ls dF k3 u3 g4 f4
 have vt:ag S H H4:=(((e1.mono fun z _ h=>hC z h).trans (e2.mono fun z _ h=>h▸s1)).trans (e3.mono fun z _ h=>h▸s1)).trans (e4.mono fun z _ h=>by rcases h with h|rfl;exact hC z h;exact s1)
 have cK:=fun y=>dS (w:=w) ⟨fZ,kU⟩ (0,0,0) y
 have p0:aG (w.put x (0,0,0)) (-1)=0:=rfl
 have p1:aG (w.put x (0,0,0)) x=0:=by rw[cK,if_pos rfl]
 have p2:∀y,y≠x→aG (w.put x (0,0,0)) y=aG w y:=fun y hy=>by rw[cK,if_neg hy]
 have el:∀a b,0<aG w a→0<aG w b→a≠x→b≠x→aQ (w.put x (0,0,0)) a b=aQ w a b:=fun a b ha hb tG me=>du ⟨fZ,kU⟩ _ ha hb tG me
 have my:(w.put x (0,0,0)).cs.length=w.cs.length:=by simp[Nw.put]
 refine v1 (ae m4.own) ?_
 refine(oM m4.bU x).mono ?_
 rintro _ H' ⟨rfl,e⟩
 obtain rfl:=e.symm
 rw[d.ux]
 unfold gv
 by_cases hu:bj L x= -1
 ·rw[if_pos hu]
  refine vs ?_
  refine(lK m4 _ r).mono ?_
  rintro _ H5 ⟨m5,e5⟩
  refine v1 (ae m5.own) ?_
  refine(cd m5.cells x).mono ?_
  rintro _ H6 (⟨bK,_,_⟩| ⟨_,rfl,c6,e6⟩)
  ·exact absurd bJ bK
  have m6:=m5.aJ c6 e6 my
  refine vs ?_
  exact .inr ⟨bJ,rfl,cz.same ⟨B,C,L4,_,rfl,m6,d.Ra t dF hu p0 p1 p2 el,hS⟩ ((vt.trans (e5.mono fun z _ h=>h▸s2)).trans (e6.mono fun z _ h=>hC z h))⟩
 ·rw[if_neg hu]
  have EO:=AT.up t.bt hu
  obtain⟨w5,w6⟩:=d.cut t ls dF hu
  obtain⟨a3,b3,YL⟩:=cI (aZ L4 (bj L x) true)
  refine v1 (ae m4.own) ?_
  refine(cu m4.bU (bj L x)).mono ?_
  rintro _ H' ⟨rfl,e⟩
  obtain rfl:=e.symm
  rw[YL]
  refine v1 (ae m4.own) ?_
  refine(cH m4.bU (x:=x) (fun hu2=>by have:=AT.up d.bt hu2;have:=m4.len;omega)).mono ?_
  rintro _ H5 ⟨rfl,L5,t5,l5,k5,u5,e5⟩
  have m5:=m4.dC t5 e5 l5
  refine vs ?_
  have Vh:=vt.trans (e5.mono fun z _ h=>h▸s1)
  refine am.dec (fun g=>?_) (fun g=>?_)<;>refine vs ?_
  ·refine v1 (ae m5.own) ?_
   refine(cd m5.cells x).mono ?_
   rintro _ H8 (⟨bK,_,_⟩| ⟨_,rfl,c8,e8⟩)
   ·exact absurd bJ bK
   have m8:=m5.aJ c8 e8 my
   refine vs ?_
   have b6:AT w L5:=by
    show Bt _ _ _ _
    rw[k5,u5];exact w5 g
   refine .inr ⟨bJ,rfl,cz.same ⟨B,C,L5,T,rfl,m8,?_,hS⟩ (Vh.trans (e8.mono fun z _ h=>hC z h))⟩
   exact d.below t ls (n:=w.cs.length) (fun y hy=>by obtain⟨y0,y1,_⟩:=aD hy;exact⟨y0,y1⟩) dF hu b6 (by rw[if_pos g];exact u5) p0 p1 p2 el
  ·obtain⟨y1,y2,y3,y4⟩:=w6 g
   obtain⟨r1,r2,r3,r4⟩:=d.rx g
   obtain⟨q1,q2,_⟩:=aD (w:=w) (x:=r) (by omega)
   have hl5:=m5.len
   rw[d.kp _ true rfl hu]at YL
   rcases LK YL with ⟨rfl,h2⟩| ⟨rfl,rfl,h3⟩
   ·have Wu:false=(aZ L (bj L x) true==x):=by
     rw[h2]
     exact(beq_eq_false_iff_ne.2 (Ne.symm Dl)).symm
    refine v1 (ae m5.own) ?_
    refine(eV m5.bU (p:=bj L x) (x:=r) (c:=false) ⟨EO.1,by omega⟩ ⟨q1,by omega⟩ y3 (by rw[u5];exact y2) (by rw[k5,Wu];exact y1)).mono ?_
    rintro _ H6 ⟨rfl,L6,t6,l6,k6,RP,e6⟩
    have m6:=m5.dC t6 e6 l6
    have Lw:=Vh.trans (e6.mono fun z _ h=>h▸s1)
    rw[k5]at k6
    rw[u5]at RP
    rw[Wu]at k6
    have b6:AT w L6:=by
     show Bt _ _ _ _
     rw[k6,RP];exact y4
    have u6:bj L6=if r= -1 then cW (bj L4) x else aI (cW (bj L4) x) r (bj L x):=by rw[if_neg g];exact RP
    refine v1 (ae m6.own) ?_
    refine(cd m6.cells x).mono ?_
    rintro _ H8 (⟨bK,_,_⟩| ⟨_,rfl,c8,e8⟩)
    ·exact absurd bJ bK
    have m8:=m6.aJ c8 e8 my
    refine vs ?_
    refine .inr ⟨bJ,rfl,cz.same ⟨B,C,L6,T,rfl,m8,?_,hS⟩ (Lw.trans (e8.mono fun z _ h=>hC z h))⟩
    exact d.below t ls (n:=w.cs.length) (fun y hy=>by obtain⟨y0,y1,_⟩:=aD hy;exact⟨y0,y1⟩) dF hu b6 u6 p0 p1 p2 el
   ·have Wu:decide (aZ L (bj L x) true=x)=(aZ L (bj L x) true==x):=by rw[Bool.eq_iff_iff];simp
    refine v1 (ae m5.own) ?_
    refine(eV m5.bU (p:=bj L x) (x:=r) (c:=decide (aZ L (bj L x) true=x)) ⟨EO.1,by omega⟩ ⟨q1,by omega⟩ y3 (by rw[u5];exact y2) (by rw[k5,Wu];exact y1)).mono ?_
    rintro _ H6 ⟨rfl,L6,t6,l6,k6,RP,e6⟩
    have m6:=m5.dC t6 e6 l6
    have Lw:=Vh.trans (e6.mono fun z _ h=>h▸s1)
    rw[k5]at k6
    rw[u5]at RP
    rw[Wu]at k6
    have b6:AT w L6:=by
     show Bt _ _ _ _
     rw[k6,RP];exact y4
    have u6:bj L6=if r= -1 then cW (bj L4) x else aI (cW (bj L4) x) r (bj L x):=by rw[if_neg g];exact RP
    refine v1 (ae m6.own) ?_
    refine(cd m6.cells x).mono ?_
    rintro _ H8 (⟨bK,_,_⟩| ⟨_,rfl,c8,e8⟩)
    ·exact absurd bJ bK
    have m8:=m6.aJ c8 e8 my
    refine vs ?_
    refine .inr ⟨bJ,rfl,cz.same ⟨B,C,L6,T,rfl,m8,?_,hS⟩ (Lw.trans (e8.mono fun z _ h=>hC z h))⟩
    exact d.below t ls (n:=w.cs.length) (fun y hy=>by obtain⟨y0,y1,_⟩:=aD hy;exact⟨y0,y1⟩) dF hu b6 u6 p0 p1 p2 el
theorem Bn{n:Nat}{H:Hp}{S:Nat→Prop}{w:Nw}(h:dL n H S w)(g:Int):af Tryz.prog lS [ptr n,i64 g] H fun v H'=>aw (
  (w.len g=0∧v= .tuple [i64 0,.bool false].toArray∧cz (dL n) S H H' w)∨(∃x,w.first g x∧v= .tuple [i64 x,.bool true].toArray∧cz (dL n) S H H' (w.put x (0,0,0)))):=by
 refine bm wV ?_
 refine vs ?_
 refine(xR h g).mono ?_
 rintro _ _ ⟨⟨h0,rfl⟩| ⟨x,hx,rfl⟩,rfl⟩
 ·refine vs ?_
  exact .inl ⟨h0,rfl,cz.same h (ag.refl _ _)⟩
 ·refine vs ?_
  refine(CR h x).mono ?_
  rintro _ H1 (⟨bK,_,_⟩| ⟨_,rfl,h1⟩)
  ·exact absurd (bq.1 (by have:=bN.1 hx;omega)) bK
  refine vs ?_
  exact .inr ⟨x,hx,rfl,h1⟩
theorem PX(n:Nat):xK (.iface 214 (ptr n)) (dL n) where
 slt h:=h.slt
 ext h e hd:=h.ext e hd
 cells:=by
  rintro H S w ⟨B,C,L,T,rfl,m,l,hS⟩
  exact⟨B.c,C,m.cells⟩
 has:=by
  rintro H S w g ⟨B,C,L,T,rfl,m,l,hS⟩
  exact⟨_,_,bD,ptr B.c,rfl,fD (off:=0) (by kernel_rfl) (ae m.own) rfl,(iD m.cells g).mono fun v H' hp=>hp⟩
 make:=by
  rintro H S w ⟨B,C,L,T,rfl,m,l,hS⟩
  exact⟨_,_,dq,ptr B.c,rfl,fD (off:=0) (by kernel_rfl) (ae m.own) rfl,(Gb m l rfl hS).mono fun v H' hp=>hp⟩
 insert:=by
  intro H S w g x k s h
  exact⟨_,_,mY,ptr n,rfl,bC (by kernel_rfl),(CP h g x k s).mono fun v H' hp=>hp⟩
 min:=by
  intro H S w g h
  refine⟨_,_,su,ptr n,rfl,bC (by kernel_rfl),(xR h g).mono ?_⟩
  rintro v H' ⟨⟨h1,rfl⟩| ⟨x,h1,rfl⟩,rfl⟩
  ·exact .inl ⟨h1,rfl,cz.same h (ag.refl _ _)⟩
  ·exact .inr ⟨x,h1,rfl,cz.same h (ag.refl _ _)⟩
 extract:=by
  intro H S w g h
  exact⟨_,_,lS,ptr n,rfl,bC (by kernel_rfl),(Bn h g).mono fun v H' hp=>hp⟩
 ld:=by
  intro H S w x k s h
  exact⟨_,_,kL,ptr n,rfl,bC (by kernel_rfl),(zu h x k s).mono fun v H' hp=>hp⟩
 entry:=by
  rintro H S w x ⟨B,C,L,T,rfl,m,l,hS⟩
  refine⟨_,_,bc,ptr B.c,rfl,fD (off:=0) (by kernel_rfl) (ae m.own) rfl,(gL m.cells x).mono ?_⟩
  rintro v H' ⟨c1,f,hv⟩
  exact⟨⟨B,C,L,T,rfl,m.fresh f,l,hS⟩,f,hv⟩
end Go.Proofs.YtjlnnljohemifaaGreat
