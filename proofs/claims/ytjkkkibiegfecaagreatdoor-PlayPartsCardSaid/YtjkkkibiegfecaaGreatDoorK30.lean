/- Texts put behind each other. -/
import Derived.Test.YtjkkkibiegfecaaGreatDoorK98
import Derived.Test.YtjkkkibiegfecaaGreatDoorK1
import Derived.Test.YtjkkkibiegfecaaGreatDoorK25
import Derived.Test.YtjkkkibiegfecaaGreatDoorK26
import Derived.Test.YtjkkkibiegfecaaGreatDoorK27
import Derived.Test.YtjkkkibiegfecaaGreatDoorK29
set_option maxRecDepth 100000
set_option maxHeartbeats 8000000
set_option linter.unusedVariables false
set_option linter.unusedSimpArgs false
namespace Go.Proofs.YtjkkkibiegfecaaGreatDoor
open Go Go.Vc
theorem O2(a b:List Int):ws (a++b)=ws a++ws b:=by grind [ws]
theorem Th{l:List Int}{d:Nat}{y v:Int}(h:l[d]? =some y):(ws [y]++ws (l.set d v)).Perm (ws [v]++ws l):=by
 have hd:=(aoj.1 h).1
 have e1:l=l.take d++y::l.drop (d+1):=by
  rw[aol hd]at h
  injection h with h
  rw[←h,←apb hd,List.take_append_drop]
 grind [O2,ph]
section
variable {H H' : Hp} {B : FB} {C V : Nat → Prop} {w : Nw} {N P : List Int} {L : List Pc} {tops : List Int} {ch : Int → List Int} {ay : Int → Int} {am : Int → List Int} {W : List Int}
structure Rf(w:Nw)(g:Int)(nx:Int→Int)(HX ch:Int→List Int)(ay:Int→Int)(am:Int→List Int)(qo rest W0:List Int):Prop where
 f:dU (aF w) (aP w) nx ch ay am (ws qo++(rest++W0))
 td:∀ (d:Nat) y,qo[d]? =some y→y≠ -1→(ch y).length=d∧aF w y=g
 rh:∀y∈rest,aF w y=g
 c0:∀z∈W0,ch z=HX z
 tl:qo.length≤w.cs.length+1
theorem IX(m:bV H B C w N P L tops){roots W0:List Int}{g:Int}{b o rc:Nat}{lb:List Value}(hb:H.own b=some lb)(li:∀ (i:Nat) y,roots[i]? =some y→lb[o+i]? =some (i64 y))(hbs:¬B.S C b)(t0:Rf w g (cd N) ch ch ay am [] roots W0)(hp:Lu (fu L) ch ay)(hrl:roots.length≤65536):
  ag Tryz.prog tY [ptr B.n,.slice (some ⟨b,o,none⟩) roots.length rc] H fun v H'=>ap (∃N' P' L' dK bG qo fq,bV H' B C w N' P' L' tops∧Rf w g (cd N') ch dK bG am qo [] W0∧Lu (fu L') dK bG∧
   Sl H' 1 v qo.length (qo.map i64) fq∧(∀z,fq=some z→H.size≤z)∧ah (fun z=>C z∨z=B.nb∨z=B.pb∨z=B.tb) H H'):=by
 have sT:=m.cells.CI
 have Oy:=aE hb
 have hS:=m.slt
 have ls:=aw w
 have hTb:∀ {z:Nat},(C z∨z=B.nb∨z=B.pb∨z=B.tb)→B.S C z:=fun h=>by
  rcases h with h|h|h|h
  ·exact .inl h
  ·exact .inr (by omega)
  ·exact .inr (by omega)
  ·exact .inr (by omega)
 refine aU uj ?_
 refine vs ?_
 refine bX.intro (fun mm env H'=>∃ (i:Nat) (N' P':List Int) (L':List Pc) (dK:Int→List Int) (bG:Int→Int) (qo:List Int) (wv:Value) (fq:Option Nat),mm=roots.length - i∧i≤roots.length∧bV H' B C w N' P' L' tops∧Rf w g (cd N') ch dK bG am qo (roots.drop i) W0∧Lu (fu L') dK bG∧
   Sl H' 1 wv qo.length (qo.map i64) fq∧(∀z,fq=some z→H.size≤z)∧ah (fun z=>C z∨z=B.nb∨z=B.pb∨z=B.tb∨H.size≤z) H H'∧
   env=[(0,ptr B.n),(5,wv),(10,.slice (some ⟨b,o,none⟩) roots.length rc),(11,i64 roots.length),(12,i64 i)]) _ ⟨0,N,P,L,ch,ay,[],_,none,rfl,by omega,m,t0,hp,Sl.nil _ _,by grind,ah.refl _ _,rfl⟩ ?_
 rintro mm env H1 ⟨i,N1,P1,L1,PV,yf,qo,wv,fq,rfl,hi,m1,t1,p1,s1,Lv,e1,rfl⟩
 refine vs ?_
 refine ar.dec (fun gi=>?_) (fun gi=>?_)<;>refine vs ?_
 rotate_left
 ·obtain rfl:i=roots.length:=by omega
  rw[List.drop_length]at t1
  exact⟨N1,P1,L1,PV,yf,qo,fq,m1,t1,p1,s1,Lv,e1.mono (by grind)⟩
 have xZ:i<roots.length:=by omega
 obtain⟨x,hx⟩:∃x,roots[i]? =some x:=⟨_,aol xZ⟩
 have dr:roots.drop i=x::roots.drop (i+1):=by
  rw[apb xZ]
  congr 1
  rw[aol xZ]at hx
  injection hx
 have ob:H1.own b=some lb:=e1.own hb (by grind)
 refine⟨by omega,?_⟩
 refine v4 (ae ob) aok Int.toNat_natCast (li i x hx) ?_
 rw[dr]at t1
 have af8:x∈ws qo++(x::roots.drop (i+1)++W0):=by simp
 refine bX.intro (fun mm env H'=>∃ (x:Int) (N' P':List Int) (L':List Pc) (dK:Int→List Int) (bG:Int→Int) (qo:List Int) (wv:Value) (fq:Option Nat),mm=(ws qo).length∧bV H' B C w N' P' L' tops∧Rf w g (cd N') ch dK bG am qo (x::roots.drop (i+1)) W0∧Lu (fu L') dK bG∧
   Sl H' 1 wv qo.length (qo.map i64) fq∧(∀z,fq=some z→H.size≤z)∧ah (fun z=>C z∨z=B.nb∨z=B.pb∨z=B.tb∨H.size≤z) H H'∧
   env=[(0,ptr B.n),(5,wv),(7,i64 x),(10,.slice (some ⟨b,o,none⟩) roots.length rc),(11,i64 roots.length),(12,i64 i)]) _ ⟨x,N1,P1,L1,PV,yf,qo,wv,fq,rfl,m1,t1,p1,s1,Lv,e1,rfl⟩ ?_
 clear hx dr af8 m1 t1 p1 s1 Lv e1 ob
 rintro mm env H2 ⟨x,N2,P2,L2,mf,gX,qo,wv,fq,rfl,m2,t2,p2,s2,Lv,e2,rfl⟩
 have ut:=t2.f.win (x:=x) (by simp)
 have Vq:=t2.rh x (by simp)
 have uG:=m2.len
 obtain⟨tv,o2,_⟩:=m2.own
 obtain⟨a0,a1,a2,a3,a4⟩:=m2.rd ut
 rw[(p2 x).2.2]at a3
 have rS:(mf x).length≤w.cs.length:=cu (t2.f.pr.nd x) fun c hc=>t2.f.HT hc
 refine v1 (ae o2) ?_
 refine⟨by omega,?_⟩
 refine v3 (ae m2.places) aoi a3 ?_
 refine bX.intro (fun mm env H'=>∃ (tb:List Int) (wv:Value) (fq:Option Nat),mm=(mf x).length+1 - tb.length∧ws tb=ws qo∧bV H' B C w N2 P2 L2 tops∧Rf w g (cd N2) ch mf gX am tb (x::roots.drop (i+1)) W0∧
   Sl H' 1 wv tb.length (tb.map i64) fq∧(∀z,fq=some z→H.size≤z)∧ah (fun z=>C z∨z=B.nb∨z=B.pb∨z=B.tb∨H.size≤z) H H'∧
   env=[(0,ptr B.n),(5,wv),(7,i64 x),(8,i64 (mf x).length),(10,.slice (some ⟨b,o,none⟩) roots.length rc),(11,i64 roots.length),(12,i64 i)]) _ ⟨qo,wv,fq,rfl,rfl,m2,t2,s2,Lv,e2,rfl⟩ ?_
 have hwt:(ws qo).length≤w.cs.length:=by
  have h1:=cu t2.f.wn fun c hc=>t2.f.win hc
  rw[aos]at h1
  omega
 clear t2 m2 s2 Lv e2 o2 a1 a2 a3 a4
 rintro mm env H3 ⟨tb,wv,fq,rfl,ZM,m3,t3,s3,Lv,e3,rfl⟩
 have z3:=e3.size
 have Np:=t3.tl
 obtain⟨wa,wc,rfl⟩:=Sl.shape s3
 refine vs ?_
 refine ar.dec (fun gd=>?_) (fun gd=>?_)<;>refine vs ?_
 ·refine Ee (B:=H.size) Lv z3 s3 (-1) (by omega) fun w' H4 fq' Ti s4 e4=>?_
  refine vs ?_
  refine⟨(mf x).length+1 - (tb.length+1),by omega,tb++[-1],w',fq',by simp,by grind [O2,eE],m3.ext e4 (by grind),⟨?_,fun d y hd hy=>?_,t3.rh,t3.c0,?_⟩,s4,Ti,e3.trans (e4.mono (by omega)),rfl⟩
  ·cases t3;grind [O2,eE]
  ·cases t3;grind
  grind
 have rX:(mf x).length<tb.length:=by omega
 obtain⟨y,hy⟩:∃y,tb[(mf x).length]? =some y:=⟨_,aol rX⟩
 obtain⟨_,qb,ql,rfl,q2,q3⟩:=Sl.Ab s3 hy
 have hqb:fq=some qb:=by
  cases fq with
  |none=>have:=s3.2.2;grind
  |some b'=>obtain⟨_,_,h1,_⟩:=s3.2;grind
 subst hqb
 have hqs:=Lv qb rfl
 have alc:=aE q2
 have hql:=(aoj.1 q3).1
 have hMq:∀z,B.S C z→z≠qb:=by grind
 refine⟨by omega,?_⟩
 refine v5 (ae q2) aoi aok Int.toNat_natCast q3 ?_
 refine ar.dec (fun gy=>?_) (fun gy=>?_)<;>refine vs ?_
 ·refine⟨⟨by omega,by omega⟩,?_⟩
  refine v4 q2 aoi aok Int.toNat_natCast ?_
  refine⟨by omega,?_⟩
  have s4:=s3.sf q2 (mf x).length (i64 x)
  have e4:ah (fun z=>z=qb) H3 (H3.wr qb (ql.set (mf x).length (i64 x))):=(ah.refl (fun z=>z=qb) _).wr (fun _=>rfl) _
  refine vs ?_
  have Ft:=Th (v:=x) hy
  rw[eE y,if_pos gy,eE x,if_neg (by omega),apk]at Ft
  have m4:=m3.ext e4 (by omega)
  have s5:Sl (H3.wr qb (ql.set (mf x).length (i64 x))) 1 (.slice (some ⟨qb,0,none⟩) (tb.set (mf x).length x).length wc) (tb.set (mf x).length x).length ((tb.set (mf x).length x).map i64) (some qb):=by
   rw[aom,aoN];exact s4
  refine⟨roots.length - (i+1),by omega,i+1,N2,P2,L2,mf,gX,tb.set (mf x).length x,_,some qb,rfl,by omega,m4,⟨?_,fun d z hd hz=>?_,fun z hz=>t3.rh z (by simp[hz]),t3.c0,by grind⟩,p2,s5,Lv,e3.trans (e4.mono (by omega)),?_⟩
  ·cases t3;grind [dU.perm]
  ·cases t3;grind
  grind [wrap64]
 ·obtain⟨hyd,hyg⟩:=t3.td _ y hy gy
  have Ft:=Th (v:= -1) hy
  rw[eE y,if_neg gy,eE (-1),if_pos rfl,apk]at Ft
  obtain⟨JQ,X1⟩:∃JQ,JQ=tb.set (mf x).length (-1):=⟨_,rfl⟩
  have f4:dU (aF w) (aP w) (cd N2) mf gX am (y::x::(ws JQ++(roots.drop (i+1)++W0))):=by
   refine t3.f.perm ?_
   rw[←X1]at Ft
   rw[List.perm_iff_count]at Ft ⊢
   intro z
   have:=Ft z
   simp only[apK,apc,apk,List.count_cons,List.count_nil]at this ⊢
   omega
  have air:(ws tb).length=(ws JQ).length+1:=by
   rw[←X1]at Ft
   have:=Ft.length_eq
   simp only[apc,apk,aop]at this
   omega
  have htd:∀ (d:Nat) z,JQ[d]? =some z→z≠ -1→(mf z).length=d∧aF w z=g:=fun d z hd hz=>by
   cases t3;grind
  refine⟨⟨by omega,by omega⟩,?_⟩
  refine v4 q2 aoi aok Int.toNat_natCast ?_
  refine⟨by omega,?_⟩
  have s4:=s3.sf q2 (mf x).length (i64 (-1))
  have e4:ah (fun z=>z=qb) H3 (H3.wr qb (ql.set (mf x).length (i64 (-1)))):=(ah.refl (fun z=>z=qb) _).wr (fun _=>rfl) _
  have s5:Sl (H3.wr qb (ql.set (mf x).length (i64 (-1)))) 1 (.slice (some ⟨qb,0,none⟩) JQ.length wc) JQ.length (JQ.map i64) (some qb):=by
   rw[X1,aom,aoN];exact s4
  have O3:JQ.length=tb.length:=by grind
  refine vs ?_
  have m4:=m3.ext e4 (by omega)
  generalize H3.wr qb (ql.set (mf x).length (Value.int .i64 (-1)))=H4 at*
  obtain⟨ZG,o4,_⟩:=m4.own
  refine v1 (ae o4) ?_
  refine(cA m4.cells y x).mono ?_
  rintro _ H5 ⟨rfl,c5,e5⟩
  have m5:=m4.aC c5 e5 rfl
  have FD:y≠x:=fun e=>by cases f4;grind
  have R2:0<aF w x:=(f4.wm x (by simp)).2.2
  rw[gw (w:=w) (a:=y) (b:=x) (by omega) R2]
  have s6:=s5.ext e5 (by grind)
  obtain⟨p,q,T6,hl,f5,hpg⟩:∃p q,(if aP w y x=true then(p=y∧q=x)else(p=x∧q=y))∧aP w p q=true∧dU (aF w) (aP w) (cd N2) mf gX am (p::q::(ws JQ++(roots.drop (i+1)++W0)))∧aF w p=g∧aF w q=g:=by
   cases bf:aP w y x
   ·exact⟨x,y,by simp,by grind [aP,Nw.key,Nw.seq],f4.perm (List.Perm.swap ..),Vq,hyg⟩
   grind
  cases bf:aP w y x<;>simp only[bf,if_true,if_false,ao6]at T6<;>obtain⟨rfl,rfl⟩:=T6<;>refine vs ?_
  all_goals
   refine(Hm m5 (x:=p) (y:=q) f5 p2 (by omega) hl).mono ?_
   rintro _ H6 ⟨N6,P6,L6,ZN,O4,m6,f6,p6,hc6,ho6,e6⟩
   have hn6:=f6.wn
   rw[aoy]at hn6
   have s7:=s6.ext e6 (by grind)
   refine vs ?_
   refine⟨(ws JQ).length,by grind,p,N6,P6,L6,ZN,O4,JQ,_,some qb,rfl,m6,⟨?_,fun d z hd hz=>?_,fun z hz=>?_,fun z hz=>?_,by omega⟩,p6,s7,Lv,((e3.trans (e4.mono (by omega))).trans (e5.mono fun z _ h=>.inl h)).trans (e6.mono (by omega)),by rw[O3]⟩
   ·refine f6.perm ?_
    grind
   ·grind
   ·cases t3;grind
   cases t3;grind
end
end Go.Proofs.YtjkkkibiegfecaaGreatDoor

namespace Go.Proofs.YtjkkkibiegfecaaGreatDoor
open Go Go.Vc
structure KX(w:Nw)(N:List Int)(L:List Pc)(tops:List Int)(ch:Int→List Int)(ay:Int→Int)(am:Int→List Int):Prop where
 f:dU (aF w) (aP w) (cd N) ch ay am []
 pc:Lu (fu L) ch ay
 tp:∀g,aM tops g=(am g).headD (-1)
 ls:∀g y,0<g→aF w y=g→aM tops g≠ -1∧(y≠aM tops g→aP w (aM tops g) y=true)
 tl:tops.length=w.hs.length
def dO(n:Nat)(H:Hp)(S:Nat→Prop)(w:Nw):Prop:=∃ (B:FB) (C:Nat→Prop) (N P:List Int) (L:List Pc) (tops:List Int) (ch:Int→List Int) (ay:Int→Int) (am:Int→List Int),B.n=n∧bV H B C w N P L tops∧KX w N L tops ch ay am∧∀z,S z↔B.S C z
theorem dO.slt{n:Nat}{H:Hp}{S:Nat→Prop}{w:Nw}(h:dO n H S w):∀z,S z→z<H.size:=by
 obtain⟨B,C,N,P,L,tops,ch,ay,am,rfl,m,l,hS⟩:=h
 exact fun z hz=>m.slt z ((hS z).1 hz)
theorem dO.ext{n:Nat}{H H':Hp}{S V:Nat→Prop}{w:Nw}(h:dO n H S w)(e:ah V H H')(hd:∀z,S z→¬V z):dO n H' S w:=by
 obtain⟨B,C,N,P,L,tops,ch,ay,am,rfl,m,l,hS⟩:=h
 exact⟨B,C,N,P,L,tops,ch,ay,am,rfl,m.ext e (by grind),l,hS⟩
theorem KX.first{w:Nw}{N:List Int}{L:List Pc}{tops:List Int}{ch:Int→List Int}{ay:Int→Int}{am:Int→List Int}(l:KX w N L tops ch ay am){g x:Int}(h:w.first g x):aM tops g=x:=by
 obtain⟨h1,h2,h3⟩:=bD.1 h
 obtain⟨h4,h5⟩:=l.ls g x h1 h2
 apply aoA
 intro bN
 have h6:=h5 (Ne.symm bN)
 have ht:aF w (aM tops g)=g:=by
  have hm:aM tops g∈am g:=by
   have:=l.tp g
   rw[this]at h4 ⊢
   exact eX h4
  exact(l.f.rm g _ hm).1
 have h7:=h3 _ ht bN
 rw[(aw w).yN h6]at h7
 cases h7
theorem Cg{n:Nat}{H:Hp}{S:Nat→Prop}{w:Nw}(h:dO n H S w)(g:Int):ag Tryz.prog lK [ptr n,i64 g] H fun v H'=>ap (
  ((w.len g=0∧v= .tuple [i64 0,.bool false].toArray)∨∃x,w.first g x∧v= .tuple [i64 x,.bool true].toArray)∧H'=H):=by
 obtain⟨B,C,N,P,L,tops,ch,ay,am,rfl,m,l,hS⟩:=h
 obtain⟨cc,lt,ho,q2,AA,yO,KO⟩:=m.dZ
 refine aU vC ?_
 refine v1 (ae ho) ?_
 refine(fe m.cells g).mono ?_
 rintro _ _ ⟨rfl,rfl⟩
 refine vs ?_
 refine ar.dec (fun h0=>?_) (fun h0=>?_)
 ·refine vs ?_
  exact⟨.inl ⟨h0,rfl⟩,rfl⟩
 have hg:0<g:=aoA fun hg=>h0 (Nw.Aa.2 (.inl (by omega)))
 obtain⟨x,hx⟩:=vO hg h0
 have hh:=(bD.1 hx).2.1
 have eC:=((m.cells.hm x).2 (by omega)).2
 rw[hh,←l.tl]at eC
 have q3:=m.cT q2 (cf (tops:=tops) (h:=g) (by omega) eC)
 rw[l.first hx]at q3
 refine v1 (ae ho) ?_
 refine⟨by omega,?_⟩
 refine v4 (ae q2) aoi aok q3 ?_
 exact⟨.inr ⟨x,hx,rfl⟩,rfl⟩
theorem E6{n:Nat}{H:Hp}{S:Nat→Prop}{w:Nw}(h:dO n H S w)(g x k s:Int):ag Tryz.prog iU [ptr n,i64 g,i64 x,tE k s] H fun v H'=>ap (
  (¬w.mw g x∧v= .bool false∧bq (dO n) S H H' w)∨(w.mw g x∧v= .bool true∧bq (dO n) S H H' (w.put x (g,k,s)))):=by
 obtain⟨B,C,N,P,L,tops,ch,ay,am,rfl,m,l,hS⟩:=h
 have hC:∀z,C z→S z:=fun z h=>(hS z).2 (.inl h)
 refine aU qW ?_
 refine vs ?_
 have f0:ai H (H.new 190 [i64 k,u64 s]):=(ah.refl _ _).new _ _
 have b0:(H.new 190 [i64 k,u64 s]).own H.size=some [i64 k,u64 s]:=aA _ _ _
 have m0:=m.fresh f0
 generalize H.new 190 [i64 k,u64 s]=H0 at*
 have ff:ah S H H0:=f0.mono fun _ _ h=>h.elim
 obtain⟨tv,KN,_⟩:=m0.own
 refine v2 (ae KN) (ae b0) ?_
 refine(lY m0.cells g x k s).mono ?_
 rintro _ H1 (⟨bU,rfl,c1,e1⟩| ⟨fX,rfl,c1,e1⟩)
 ·refine vs ?_
  exact .inl ⟨bU,rfl,bq.same ⟨B,C,N,P,L,tops,ch,ay,am,rfl,m0.aC c1 e1 rfl,l,hS⟩ (ff.trans (e1.mono (by grind)))⟩
 obtain⟨hh,hx,ci⟩:=id fX
 have m2:=m0.aC c1 e1 (by simp[Nw.put])
 have hg:=hh.1
 have eC:g<tops.length:=by
  have:=(aoj.1 hh.2).1
  have:=l.tl
  omega
 have jh:=fun y=>dR hx (g,k,s) y
 have im:aF w x≤0:=Int.not_lt.1 fun h=>ci (bB.1 h)
 have el:∀a b,0<aF w a→0<aF w b→a≠x→b≠x→aP (w.put x (g,k,s)) a b=aP w a b:=fun a b ha hb uv lq=>dt hx _ ha hb uv lq
 have f2:dU (aF (w.put x (g,k,s))) (aP (w.put x (g,k,s))) (cd N) ch ay am (x::[]):=l.f.put (g:=g) rfl im (by omega) (by omega) (by grind) (by grind) el
 refine vs ?_
 refine(yH m2 f2 (by grind) eC (l.tp g)).mono ?_
 rintro _ H3 ⟨N3,P3,abM,ll,m3,SS,ht3,f3,Ly,Ve,ZK,hlT,e3⟩
 refine vs ?_
 have hhm:∀y,aF w y=g→y≠x:=by grind
 have hTg:aM tops g≠ -1→aF w (aM tops g)=g:=fun h=>by
  have hm:aM tops g∈am g:=by
   have:=l.tp g
   rw[this]at h ⊢
   exact eX h
  exact(l.f.rm g _ hm).1
 refine .inr ⟨fX,rfl,bq.same ⟨B,C,N3,P3,L,abM,ch,ay,_,rfl,m3,⟨f3,l.pc,fun g2=>?_,fun g2 y Er hy=>?_,by rw[SS];exact l.tl⟩,hS⟩ ((ff.trans (e1.mono fun z _ h=>hC z h)).trans (e3.mono fun z _ h=>by
  rcases h with h|h|h|h
  ·grind
  ·exact(hS z).2 (.inr (by omega))
  ·exact(hS z).2 (.inr (by omega))
  ·exact(hS z).2 (.inr (by omega))))⟩
 ·rw[ht3]
  unfold cR az
  cases l;grind
 ·rw[ht3]
  unfold cR
  rw[jh]at hy
  by_cases h2:g2=g
  ·rw[if_pos h2]
   refine⟨Ve,fun bN=>?_⟩
   by_cases FD:y=x
   ·grind
   ·rw[if_neg FD]at hy
    obtain⟨h3,h4⟩:=l.ls g y (by omega) (by omega)
    have hTx:=hhm _ (hTg h3)
    rcases Ly with h5| ⟨h5,_⟩
    ·rw[h5]at bN hlT ⊢
     have h6:=hlT h3 hTx
     by_cases hyT:y=aM tops g
     ·grind
     ·have h7:=h4 hyT
      rw[←el _ _ (by omega) (by omega) hTx FD]at h7
      exact(aw _).tr _ _ _ h6 h7
    grind
  ·rw[if_neg h2]
   have FD:y≠x:=by omega
   rw[if_neg FD]at hy
   obtain⟨h3,h4⟩:=l.ls g2 y Er hy
   refine⟨h3,fun bN=>?_⟩
   have hTx:aM tops g2≠x:=fun e=>by
    have hm:aM tops g2∈am g2:=by
     have:=l.tp g2
     rw[this]at h3 ⊢
     exact eX h3
    have h5:=(l.f.rm g2 _ hm).1
    grind
   have hT2:aF w (aM tops g2)=g2:=by
    have hm:aM tops g2∈am g2:=by
     have:=l.tp g2
     rw[this]at h3 ⊢
     exact eX h3
    exact(l.f.rm g2 _ hm).1
   grind
theorem bV.bounds{H:Hp}{B:FB}{C:Nat→Prop}{w:Nw}{N P:List Int}{L:List Pc}{tops:List Int}(m:bV H B C w N P L tops):w.cs.length≤65536∧N.length=w.cs.length:=⟨m.cells.CI,m.len.2⟩
theorem rJ{w:Nw}:∀x,0<aF w x→0≤x∧x<w.cs.length:=fun x h=>by
 obtain⟨a,b,_⟩:=aG h
 omega
theorem rK{n:Nat}{H:Hp}{S:Nat→Prop}{w:Nw}(h:dO n H S w)(g:Int):ag Tryz.prog hZ [ptr n,i64 g] H fun v H'=>ap (
  (w.len g=0∧v= .tuple [i64 0,.bool false].toArray∧bq (dO n) S H H' w)∨(∃x,w.first g x∧v= .tuple [i64 x,.bool true].toArray∧bq (dO n) S H H' (w.put x (0,0,0)))):=by
 refine aU pX ?_
 refine vs ?_
 refine(Cg h g).mono ?_
 rintro _ H' ⟨⟨h0,rfl⟩| ⟨x,hx,rfl⟩,e⟩
 ·obtain rfl:=e.symm
  refine vs ?_
  exact .inl ⟨h0,rfl,bq.same h (ah.refl _ _)⟩
 obtain rfl:=e.symm
 refine vs ?_
 obtain⟨B,C,N,P,L,tops,ch,ay,am,rfl,m,l,hS⟩:=h
 obtain⟨hg,Vq,rS⟩:=bD.1 hx
 have RZ:=l.first hx
 have im:=rJ (w:=w) x (by omega)
 have ls:=aw w
 obtain⟨A,hr⟩:∃A,am g=x::A:=by
  have h1:=l.tp g
  rw[RZ]at h1
  cases hc:am g with
  |nil=>grind
  |cons c r=>grind
 have eC:g<tops.length:=by
  have:=((m.cells.hm x).2 (by omega)).2
  have:=l.tl
  omega
 refine(wg m l.f l.pc hr).mono ?_
 rintro _ H1 ⟨N1,P1,L1,A1,m1,f1,p1,e1⟩
 have FI:az am g (x::A1) g=x::A1:=by unfold az;grind
 obtain⟨Dt,o1,_⟩:=m1.own
 obtain⟨GF,hN1⟩:=m1.bounds
 have Lq:=f1.rc g
 have jk:=f1.rn g
 rw[FI]at Lq jk
 have ci:∀c∈x::A1,0≤c∧c<w.cs.length:=fun c hc=>f1.rin (g:=g) (by grind)
 have X2:∀c∈x::A1,aF w c=g:=fun c hc=>(f1.rm g c (by grind)).1
 have bu:=cu jk ci
 rw[aop]at bu
 refine v1 (ae o1) ?_
 refine(qd m1.ring Lq jk (by grind) (by omega)).mono ?_
 rintro rv H2 ⟨b2,s2,yt,f2⟩
 obtain⟨ra,rc,rfl⟩:=Sl.shape s2
 have m2:=m1.fresh f2
 have z2:=f2.size
 obtain⟨QY,o2,_⟩:=m2.own
 have hS1:=m1.slt
 have af9:¬B.S C b2:=by grind
 obtain⟨_,l2,c2,iY,q2,No,XF,Ug⟩:=id s2
 injection iY with iY alf abO
 subst iY abO
 rw[aok]at XF Ug
 have rl:(x::A1).length=A1.length+1:=aop
 refine vs ?_
 refine⟨by omega,?_⟩
 refine vs ?_
 obtain⟨o,li,My⟩:∃o,(∀ (i:Nat) y,A1[i]? =some y→l2[o+i]? =some (i64 y))∧(Value.slice (if(rc:Int)=1 then some ⟨b2,0,none⟩else some ⟨b2,1,none⟩) A1.length (rc - 1))= .slice (some ⟨b2,o,none⟩) A1.length (rc - 1):=by
  rw[aop]at No Ug
  by_cases h1:(rc:Int)=1
  ·grind
  ·refine⟨1,fun i y hy=>?_,by grind⟩
   have hi:=(aoj.1 hy).1
   have h7:((x::A1).map i64)[1+i]? =some (i64 y):=by rw[Nat.add_comm,apd,apw,aoF,hy];rfl
   grind
 have hv8:∀ (Rh:Decidable ((rc:Int)=1)),Value.slice (@ite (Option Addr) ((rc:Int)=1) Rh (some (⟨b2,0,none⟩:Addr)) (Option.map (fun(x:Addr)=>x.add (Int.toNat 1*1)) (some (⟨b2,0,none⟩:Addr)))) (((A1.length+1:Nat):Int).toNat - Int.toNat 1) ((rc:Int).toNat - Int.toNat 1)=Value.slice (some ⟨b2,o,none⟩) A1.length (rc - 1):=fun Rh=>by
  rw[show((A1.length+1:Nat):Int).toNat - Int.toNat 1=A1.length by simp,show(rc:Int).toNat - Int.toNat 1=rc - 1 by simp,←My]
  by_cases h1:(rc:Int)=1
  ·grind
  ·rw[if_neg h1,if_neg h1];rfl
 rw[hv8]
 generalize hR8:Value.slice (some ⟨b2,o,none⟩) A1.length (rc - 1)=R8 at*
 have X3:S B.nb:=(hS _).2 (.inr (by omega))
 have JQ:S B.pb:=(hS _).2 (.inr (by omega))
 have tb3:S B.tb:=(hS _).2 (.inr (by omega))
 have tb4:S B.tp:=(hS _).2 (.inr (by omega))
 have hC:∀z,C z→S z:=fun z h=>(hS z).2 (.inl h)
 have oY:ah S H H2:=(e1.mono (by grind)).trans (f2.mono fun _ _ h=>h.elim)
 refine v1 (ae o2) ?_
 refine(qd m2.ring Lq jk (by grind) (by omega)).mono ?_
 rintro rv H3 ⟨b3,s3,Ud,f3⟩
 obtain⟨ka,kc,rfl⟩:=Sl.shape s3
 have m3:=m2.fresh f3
 have q3:=f3.own q2 (fun h=>h)
 have z3:=f3.size
 have z8:ah S H H3:=oY.trans (f3.mono fun _ _ h=>h.elim)
 have ali:¬B.S C b3:=by grind
 have hSz:∀z,S z→z<H1.size:=by grind
 refine vs ?_
 refine bX.intro (fun mm env H'=>∃ (i:Nat) (N' P':List Int),mm=(x::A1).length - i∧i≤(x::A1).length∧bV H' B C w N' P' L1 tops∧dU (aF w) (aP w) (cd N') (az ch x []) (fx ch ay x) (az am g ((x::A1).drop i)) ((x::A1).take i).reverse∧
  Sl H' 1 (.slice ka (x::A1).length kc) (x::A1).length ((x::A1).map i64) (some b3)∧ah (fun z=>z=B.nb∨z=B.pb) H3 H'∧
  env=[(0,ptr B.n),(1,i64 g),(6,i64 x),(8,R8),(36,.slice ka (x::A1).length kc),(37,i64 (x::A1).length),(38,i64 i)]) _ ⟨0,N1,P1,rfl,by omega,m3,f1,s3,ah.refl _ _,rfl⟩ ?_
 rintro mm env H4 ⟨i,N4,P4,rfl,hi,m4,f4,s4,e4,rfl⟩
 obtain⟨ZG,o4,_⟩:=m4.own
 refine vs ?_
 refine ar.dec (fun gi=>?_) (fun gi=>?_)<;>refine vs ?_
 ·have xZ:i< (x::A1).length:=by omega
  obtain⟨c,Nj⟩:∃c,(x::A1)[i]? =some c:=⟨_,aol xZ⟩
  have Nk:=ci c (by grind)
  obtain⟨_,kb,lb,rfl,qb,qc⟩:=Sl.Ab s4 Nj
  have hkb:kb=b3:=by
   obtain⟨_,_,_,hh,_⟩:=s4
   injection hh with hh
   injection hh with hh
   injection hh with hh
  have dr:(x::A1).drop i=c::(x::A1).drop (i+1):=by
   rw[apb xZ]
   congr 1
   rw[aol xZ]at Nj
   injection Nj
  have tk:(x::A1).take (i+1)=(x::A1).take i++[c]:=by rw[aoL,Nj];rfl
  have Vr:=m4.len
  refine⟨by omega,?_⟩
  refine v6 (ae qb) aoi aok Int.toNat_natCast qc (ae o4) ?_
  refine(jR m4.ring m4.inv (x:=c) (by omega)).mono ?_
  rintro _ H5 ⟨rfl,N5,P5,r5,l5,n5,i5,e5⟩
  have m5:=m4.qe r5 i5 e5 l5
  have f5:=f4.V7 (x:=c) (g:=g) (A:=(x::A1).drop (i+1)) m4.inv (by unfold az;grind)
  rw[cO,←n5]at f5
  refine vs ?_
  refine⟨(x::A1).length - (i+1),by omega,i+1,N5,P5,rfl,by omega,m5,?_,s4.ext e5 (by grind),e4.trans e5,?_⟩
  ·grind
  grind [wrap64]
 obtain rfl:i=(x::A1).length:=by omega
 rw[List.drop_length,aoP]at f4
 have Ac:ah S H H4:=z8.trans (e4.mono (by grind))
 have z4:=e4.size
 have q4:=e4.own q3 (by grind)
 obtain⟨cc,lt4,o4',q5,AA,yO,KO⟩:=m4.dZ
 refine v1 (ae o4') ?_
 refine⟨by omega,?_⟩
 refine v3 q5 aoi aok ?_
 refine⟨by omega,?_⟩
 obtain⟨m5,e5⟩:=m4.fR q5 g.toNat (-1)
 refine vs ?_
 have q6:=e5.own q4 (by grind)
 have Wr:=Ac.trans (e5.mono (by grind))
 have z5:=e5.size
 generalize H4.wr B.tp (lt4.set g.toNat (Value.int .i64 (-1)))=H5 at*
 have t0:Rf w g (cd N4) (az ch x []) (az ch x []) (fx ch ay x) (az am g []) [] A1 [x]:=by
  refine⟨f4.perm ?_,by grind,by grind,fun _ _=>rfl,by simp⟩
  show List.Perm _ (A1++[x])
  exact(by grind)
 have aga:¬B.S C b2:=af9
 subst hR8
 refine(IX m5 q6 li aga t0 p1 (by omega)).mono ?_
 rintro tv H6 ⟨N6,P6,L6,ZN,O4,qo,fq,m6,t6,p6,s6,Lv,e6⟩
 obtain⟨ta,tc,rfl⟩:=Sl.shape s6
 have Np:=t6.tl
 have RO:ah S H H6:=Wr.trans (e6.mono (by grind))
 refine vs ?_
 have hf6:=t6.f
 rw[apk]at hf6
 have X4:aM (tops.set g.toNat (-1))=cR (aM tops) g (([]:List Int).headD (-1)):=by grind [cR,aM]
 refine bX.intro (fun mm env H'=>∃ (i:Nat) (N' P' me l':List Int),mm=qo.length - i∧i≤qo.length∧bV H' B C w N' P' L6 me∧me.length=tops.length∧aM me=cR (aM tops) g (l'.headD (-1))∧
  dU (aF w) (aP w) (cd N') ZN O4 (az am g l') (ws (qo.drop i)++[x])∧
  (∀c,aF w c=g→O4 c= -1→c∉ws (qo.drop i)++[x]→l'.headD (-1)≠ -1∧(c≠l'.headD (-1)→aP w (l'.headD (-1)) c=true))∧
  Sl H' 1 (.slice ta qo.length tc) qo.length (qo.map i64) fq∧ah S H6 H'∧
  env=[(0,ptr B.n),(1,i64 g),(6,i64 x),(57,.slice ta qo.length tc),(58,i64 qo.length),(59,i64 i)]) _ ⟨0,N6,P6,_,[],rfl,by omega,m6,by grind,X4,hf6,fun c h1 h2 h3=>?_,s6,ah.refl _ _,rfl⟩ ?_
 ·exfalso
  rcases hf6.Ax c (by omega) h2 with h4|h4
  ·rw[h1]at h4
   unfold az at h4
   grind
  grind
 rintro mm env H7 ⟨i,N7,P7,MX,l7,rfl,hi7,m7,hl7,ZO,f7,d7,s7,e7,rfl⟩
 have alk:qo.length≤65537:=by omega
 refine vs ?_
 refine ar.dec (fun gi=>?_) (fun gi=>?_)<;>refine vs ?_
 ·have xZ:i<qo.length:=by omega
  obtain⟨r,Tj⟩:∃r,qo[i]? =some r:=⟨_,aol xZ⟩
  obtain⟨_,kb,lb,rfl,qb,qc⟩:=Sl.Ab s7 Tj
  have hkb:fq=some kb:=by
   cases fq with
   |none=>have:=s7.2.2;grind
   |some b'=>obtain⟨_,_,h1,_⟩:=s7.2;grind
  have alm:=Lv kb hkb
  have dr:qo.drop i=r::qo.drop (i+1):=by
   rw[apb xZ]
   congr 1
   rw[aol xZ]at Tj
   injection Tj
  refine⟨by omega,?_⟩
  refine v5 (ae qb) aoi aok Int.toNat_natCast qc ?_
  rw[dr,ph,eE]at f7 d7
  refine ar.dec (fun gr=>?_) (fun gr=>?_)<;>refine vs ?_
  rotate_left
  ·rw[if_neg gr]at f7 d7
   simp only[apc,apk]at f7 d7
   obtain⟨_,Wx⟩:=t6.td i r Tj gr
   have Wy:aM MX g=l7.headD (-1):=by rw[ZO];unfold cR;omega
   refine(yH m7 f7 Wx (by omega) (by rw[Wy];unfold az;grind)).mono ?_
   rintro _ H8 ⟨N8,P8,abP,l8,m8,hl8,ht8,f8,Ly,Ve,ZK,hlT,e8⟩
   rw[cO]at f8
   rw[Wy]at hlT
   have e8':ah S H7 H8:=e8.mono (by grind)
   refine vs ?_
   refine⟨qo.length - (i+1),by omega,i+1,N8,P8,abP,l8,rfl,by omega,m8,by omega,?_,f8,fun c h1 h2 h3=>⟨Ve,fun bN=>?_⟩,s7.ext e8' (by grind),e7.trans e8',?_⟩
   ·rw[ht8,ZO]
    funext z
    unfold cR
    omega
   ·cases ls;grind
   grind [wrap64]
  ·rw[if_pos gr]at f7 d7
   rw[apk]at f7 d7
   refine⟨qo.length - (i+1),by omega,i+1,N7,P7,MX,l7,rfl,by omega,m7,hl7,ZO,f7,d7,s7,e7,?_⟩
   grind [wrap64]
 obtain rfl:i=qo.length:=by omega
 rw[List.drop_length]at f7 d7
 have hw0:ws ([]:List Int)++[x]=[x]:=rfl
 rw[hw0]at f7 d7
 obtain⟨tv7,o7,_⟩:=m7.own
 refine v1 (ae o7) ?_
 refine(ce m7.cells x).mono ?_
 have agc:cI w.cs x:=bB.1 (by omega)
 rintro _ H8 (⟨bU,_,_⟩| ⟨_,rfl,c8,e8⟩)
 ·exact absurd agc bU
 have m8:=m7.aC c8 e8 (by simp[Nw.put])
 refine vs ?_
 have jh:=fun y=>dR (w:=w) im (0,0,0) y
 have w0:aF (w.put x (0,0,0)) (-1)=0:=rfl
 have w1:aF (w.put x (0,0,0)) x=0:=by grind
 have w2:∀y,y≠x→aF (w.put x (0,0,0)) y=aF w y:=by grind
 have el:∀a b,0<aF w a→0<aF w b→a≠x→b≠x→aP (w.put x (0,0,0)) a b=aP w a b:=fun a b ha hb uv lq=>dt im _ ha hb uv lq
 have f8:=f7.drop (hm':=aF (w.put x (0,0,0))) (lt':=aP (w.put x (0,0,0))) (by
  rw[t6.c0 x (by simp)]
  unfold az
  grind) w0 w1 w2 el
 have hrm:∀g2 c,c∈az am g l7 g2→aF w c=g2∧c≠x:=fun g2 c hc=>by
  cases f7;grind
 refine .inr ⟨x,hx,rfl,bq.same ⟨B,C,N7,P7,L6,MX,ZN,O4,_,rfl,m8,⟨f8,p6,fun g2=>?_,fun g2 y Er hy=>?_,by rw[hl7];exact l.tl⟩,hS⟩ ((RO.trans e7).trans (e8.mono fun z _ h=>hC z h))⟩
 ·rw[ZO]
  unfold cR az
  split
  ·rfl
  ·exact l.tp g2
 ·by_cases h2:g2=g
  ·have Wy:aM MX g2=l7.headD (-1):=by rw[ZO,h2];unfold cR;omega
   rw[Wy]
   refine f8.pr.lead (aw _) (fun z hz=>rJ z hz) Er (fun c hc hcp=>?_) hy
   have Jo:c≠x:=by grind
   rw[w2 c Jo]at hc
   obtain⟨h3,h4⟩:=d7 c (by omega) hcp (by grind)
   refine⟨h3,fun bN=>?_⟩
   obtain⟨h5,h6⟩:=hrm g _ (show l7.headD (-1)∈az am g l7 g by unfold az;grind [eX])
   grind
  ·have Wy:aM MX g2=aM tops g2:=by rw[ZO];unfold cR;omega
   rw[Wy]
   have FD:y≠x:=by grind
   rw[w2 y FD]at hy
   obtain⟨h3,h4⟩:=l.ls g2 y Er hy
   refine⟨h3,fun bN=>?_⟩
   have h5:aF w (aM tops g2)=g2:=by
    have hm:aM tops g2∈am g2:=by
     have:=l.tp g2
     rw[this]at h3 ⊢
     exact eX h3
    exact(l.f.rm g2 _ hm).1
   grind
theorem IY{n:Nat}{H:Hp}{S:Nat→Prop}{w:Nw}(h:dO n H S w):ag Tryz.prog kr [ptr n] H fun v H'=>ap (
  (w.hs.length=65537∧v=i64 0∧bq (dO n) S H H' w)∨(w.hs.length≠65537∧v=i64 w.hs.length∧bq (dO n) S H H' w.make)):=by
 obtain⟨B,C,N,P,L,tops,ch,ay,am,rfl,m,l,hS⟩:=id h
 obtain⟨tv,ho,EW⟩:=m.own
 refine aU uh ?_
 refine v1 (ae ho) ?_
 refine(jM m.cells).mono ?_
 rintro _ H1 (⟨h1,rfl,rfl⟩| ⟨h1,rfl,C',c1,e1,Q2⟩)
 ·refine vs ?_
  exact .inl ⟨h1,rfl,bq.same h (ah.refl _ _)⟩
 have gI:=m.cells.pos
 have hhs:=m.cells.EW
 have Np:=l.tl
 have slt:=m.slt
 have XI:=c1.slt
 obtain⟨n1,n2,n3,n4,n5,n6⟩:=m.out
 obtain⟨⟨d1,d2,d3,d4,d5⟩,⟨d6,d7,d8,d9⟩,⟨d10,d11,d12⟩⟩:=m.mY
 have o1:=e1.own ho n1
 refine vs ?_
 refine ar.dl (by grind) ?_
 refine v1 (ae o1) ?_
 have s1:=EW.ext e1 (by grind)
 refine SE s1 (-1) (by omega) fun w' H2 b' AD s2 e2=>?_
 have o2:=e2.own o1 d5
 obtain⟨wa,wc,JE⟩:=Sl.shape s2
 subst JE
 refine v1 o2 ?_
 generalize JE:Value.slice wa (tops++[-1]).length wc=w' at*
 have e3:ah (fun z=>z=B.n) H2 (H2.wr B.n [ptr B.c,ptr B.r,.slice (some ⟨B.tb,0,none⟩) L.length L.length,w']):=(ah.refl (fun z=>z=B.n) _).wr (fun _=>rfl) _
 have z1:=e1.size
 have q1:=slt _ (.inr (.inl rfl))
 have q2:=slt _ (.inr (.inr (.inl rfl)))
 have q3:=slt _ (.inr (.inr (.inr (.inl rfl))))
 have q4:=slt _ (.inr (.inr (.inr (.inr (.inl rfl)))))
 have q5:=slt _ (.inr (.inr (.inr (.inr (.inr (.inl rfl))))))
 have q6:=slt _ (.inr (.inr (.inr (.inr (.inr (.inr rfl))))))
 have hC1:∀z,C' z→z≠b'∧(z<H.size→C z):=by grind
 refine .inr ⟨h1,rfl,(FB.mk B.n B.c B.r B.nb B.pb B.tb b').S C',⟨⟨B.n,B.c,B.r,B.nb,B.pb,B.tb,b'⟩,C',N,P,L,tops++[-1],ch,ay,am,rfl,⟨⟨w',af o2,s2.ext e3 (by grind)⟩,?_,?_,m.inv,?_,m.len,?_,?_⟩,⟨l.f,l.pc,fun g=>by rw[BU];exact l.tp g,fun g y hg hy=>by rw[BU];exact l.ls g y hg hy,?_⟩,fun z=>Iff.rfl⟩,?_,fun z hz=>?_⟩
 ·exact(c1.ext e2 (by grind)).ext e3 (by grind)
 ·exact((m.ring.ext e1 n2 n3 n4).ext e2 (Ne.symm d10) (Ne.symm d11) (Ne.symm d12)).ext e3 (Ne.symm d1) (Ne.symm d2) (Ne.symm d3)
 ·exact e3.own (e2.own (e1.own m.places n5) d9) (Ne.symm d4)
 ·grind
 ·grind
 ·simp[Nw.make,Np]
 ·exact((e1.mono fun z _ h=>(hS z).2 (.inl h)).trans (e2.mono fun z _ h=>(hS z).2 (.inr (by omega)))).trans (e3.mono fun z _ h=>(hS z).2 (.inr (.inl h)))
 ·rcases hz with hz|hz|hz|hz|hz|hz|hz
  ·rcases Q2 z hz with h6|h6
   ·exact .inl ((hS z).2 (.inl h6))
   omega
  ·exact .inl ((hS _).2 (.inr (.inl hz)))
  ·exact .inl ((hS _).2 (.inr (.inr (.inl hz))))
  ·exact .inl ((hS _).2 (.inr (by grind)))
  ·exact .inl ((hS _).2 (.inr (by grind)))
  ·exact .inl ((hS _).2 (.inr (by grind)))
  ·rcases AD with h7|h7
   ·exact .inl ((hS _).2 (.inr (by grind)))
   grind
def tP(n i:Nat):List Int:=(List.range i).map (fun(k:Nat)=>(k:Int))++List.replicate (n - i) 0
theorem FJ{n i:Nat}(h:i≤n):(tP n i).length=n:=by unfold tP;grind
theorem Vs{n i:Nat}(h:i<n):(tP n i).set i (i:Int)=tP n (i+1):=by
 unfold tP
 rw[apA _ _ (by simp),aoJ,List.length_range,apG,show n - i=(n - (i+1))+1 by omega,ao2,apH,List.range_succ,ape]
 simp
theorem X5(n:Nat)(x:Int):cd (tP n n) x=x:=by
 grind [tP,cd]
theorem IZ(H:Hp){n:Int}(hn:0≤n∧n≤65536):ag Tryz.prog Ob [i64 n] H fun v H'=>ap (∃r nb pb N P,v= .tuple [ptr r,i64 0].toArray∧gB H' r nb pb N P∧N.length=n.toNat∧(∀x,cd N x=x)∧AG (cd N) (cd P)∧ai H H'∧H.size≤r∧H.size≤nb∧H.size≤pb):=by
 refine aU Oh ?_
 refine vs ?_
 refine ar.dec (fun g=>absurd g (by omega)) (fun _=>?_)
 refine vs ?_
 refine ar.dec (fun g=>absurd g (by omega)) (fun _=>?_)
 refine vs ?_
 have hz:(List.replicate n.toNat (0:Int))=tP n.toNat 0:=by unfold tP;simp
 refine fV.intro (fun H'=>True) trivial ?_
 refine vs ?_
 refine Fy.intro ?A ?B
 case' A=>
  refine vs ?_
  refine⟨by omega,?_⟩
  refine vs ?_
  refine⟨by omega,?_⟩
  refine vs ?_
  rw[G6,hz]
  obtain⟨nb,HR⟩:∃nb,nb=H.size:=⟨_,rfl⟩
  obtain⟨pb,QV⟩:∃pb,pb=H.size+1:=⟨_,rfl⟩
  have f0:ai H (((H.new 3 ((tP n.toNat 0).map i64)).new 3 ((tP n.toNat 0).map i64)).new 292 [.slice (some ⟨H.size,0,none⟩) n.toNat n.toNat,.slice (some ⟨H.size+1,0,none⟩) n.toNat n.toNat]):=(((ah.refl _ _).new _ _).new _ _).new _ _
  have h0:gB (((H.new 3 ((tP n.toNat 0).map i64)).new 3 ((tP n.toNat 0).map i64)).new 292 [.slice (some ⟨H.size,0,none⟩) n.toNat n.toNat,.slice (some ⟨H.size+1,0,none⟩) n.toNat n.toNat]) (H.size+1+1) nb pb (tP n.toNat 0) (tP n.toNat 0):=by
   subst HR QV
   refine⟨?_,?_,?_,rfl,by omega,by omega,by omega⟩
   ·rw[FJ (Nat.zero_le _)];exact aR (by simp only[ak])
   ·rw[bm (by simp only[ak];omega),bm (by simp only[ak];omega),aA]
   ·rw[bm (by simp only[ak];omega)];exact aR (by simp only[ak])
  generalize ((H.new 3 ((tP n.toNat 0).map i64)).new 3 ((tP n.toNat 0).map i64)).new 292 [.slice (some ⟨H.size,0,none⟩) n.toNat n.toNat,.slice (some ⟨H.size+1,0,none⟩) n.toNat n.toNat]=H0 at*
  have hns:H.size≤nb∧H.size≤pb:=by omega
 case' B=>
  refine vs ?_
  refine⟨by omega,?_⟩
  refine vs ?_
  refine⟨by omega,?_⟩
  refine vs ?_
  rw[G6,hz]
  obtain⟨nb,HR⟩:∃nb,nb=H.size+1:=⟨_,rfl⟩
  obtain⟨pb,QV⟩:∃pb,pb=H.size:=⟨_,rfl⟩
  have f0:ai H (((H.new 3 ((tP n.toNat 0).map i64)).new 3 ((tP n.toNat 0).map i64)).new 292 [.slice (some ⟨H.size+1,0,none⟩) n.toNat n.toNat,.slice (some ⟨H.size,0,none⟩) n.toNat n.toNat]):=(((ah.refl _ _).new _ _).new _ _).new _ _
  have h0:gB (((H.new 3 ((tP n.toNat 0).map i64)).new 3 ((tP n.toNat 0).map i64)).new 292 [.slice (some ⟨H.size+1,0,none⟩) n.toNat n.toNat,.slice (some ⟨H.size,0,none⟩) n.toNat n.toNat]) (H.size+1+1) nb pb (tP n.toNat 0) (tP n.toNat 0):=by
   subst HR QV
   refine⟨?_,?_,?_,rfl,by omega,by omega,by omega⟩
   ·rw[FJ (Nat.zero_le _)];exact aR (by simp only[ak])
   ·rw[bm (by simp only[ak];omega)];exact aR (by simp only[ak])
   ·rw[bm (by simp only[ak];omega),bm (by simp only[ak];omega),aA]
  generalize ((H.new 3 ((tP n.toNat 0).map i64)).new 3 ((tP n.toNat 0).map i64)).new 292 [.slice (some ⟨H.size+1,0,none⟩) n.toNat n.toNat,.slice (some ⟨H.size,0,none⟩) n.toNat n.toNat]=H0 at*
  have hns:H.size≤nb∧H.size≤pb:=by omega
 all_goals
  refine bX.intro (fun m env H'=>∃j:Nat,m=n.toNat - j∧j≤n.toNat∧ah (fun z=>z=nb∨z=pb) H0 H'∧gB H' (H.size+1+1) nb pb (tP n.toNat j) (tP n.toNat j)∧
   env=[(4,ptr (H.size+1+1)),(18,i64 n),(19,i64 j)]) n.toNat ⟨0,by omega,by omega,ah.refl _ _,h0,rfl⟩ ?_
  rintro m env H1 ⟨j,rfl,hj,e1,h1,rfl⟩
  have Ay:=FJ hj
  obtain⟨d1,d2,d3⟩:=h1.ne
  refine vs ?_
  refine ar.dec (fun bf=>?_) (fun bf=>?_)<;>refine vs ?_
  ·refine v1 (ae h1.own) ?_
   refine⟨by omega,?_⟩
   refine v4 h1.PU aoi aok Int.toNat_natCast ?_
   refine⟨by grind,?_⟩
   refine vs ?_
   have e2:ah (fun z=>z=nb) H1 (H1.wr nb (((tP n.toNat j).map i64).set j (i64 j))):=(ah.refl (fun z=>z=nb) _).wr (fun _=>rfl) _
   have q2:(H1.wr nb (((tP n.toNat j).map i64).set j (i64 j))).own nb=some (((tP n.toNat j).map i64).set j (i64 j)):=af h1.PU
   generalize H1.wr nb (((tP n.toNat j).map i64).set j (i64 j))=H2 at*
   have p2:=e2.own h1.Ww (Ne.symm d3)
   refine⟨by omega,?_⟩
   refine v5 p2 h1.Ww aoi aok Int.toNat_natCast ?_
   refine⟨by grind,?_⟩
   refine vs ?_
   have e3:ah (fun z=>z=pb) H2 (H2.wr pb (((tP n.toNat j).map i64).set j (i64 j))):=(ah.refl (fun z=>z=pb) _).wr (fun _=>rfl) _
   have q3:(H2.wr pb (((tP n.toNat j).map i64).set j (i64 j))).own pb=some (((tP n.toNat j).map i64).set j (i64 j)):=af p2
   have QX:((tP n.toNat j).map i64).set j (i64 j)=(tP n.toNat (j+1)).map i64:=by rw[←Vs (by omega),aoN]
   rw[wrap64 (n:=(j:Int)+1) (by omega) (by omega)]
   refine⟨n.toNat - (j+1),by omega,j+1,rfl,by omega,(e1.trans (e2.mono fun z _ h=>.inl h)).trans (e3.mono fun z _ h=>.inr h),⟨?_,?_,?_,rfl,h1.ne⟩,rfl⟩
   ·have ho:=e3.own (e2.own h1.own d1) d2
    rw[Ay]at ho
    rw[FJ (by omega)]
    exact ho
   ·rw[←QX];exact e3.own q2 d3
   grind
  ·obtain rfl:j=n.toNat:=by omega
   exact⟨_,nb,pb,_,_,rfl,h1,by omega,X5 _,⟨by grind [tP,cd],by grind [tP,cd]⟩,f0.then e1 (by omega),by omega,hns.1,hns.2⟩
theorem Ch{n:Nat}{H:Hp}{S:Nat→Prop}{w:Nw}(h:dO n H S w)(x k s:Int):ag Tryz.prog gP [ptr n,i64 x,tE k s] H fun v H'=>ap (
  (¬w.du x k s∧v= .bool false∧bq (dO n) S H H' w)∨(w.du x k s∧v= .bool true∧∃y,w.cs[x.toNat]? =some y∧bq (dO n) S H H' (w.put x (y.1,k,s)))):=by
 obtain⟨B,C,N,P,L,tops,ch,ay,am,rfl,m,l,hS⟩:=h
 have hC:∀z,C z→S z:=fun z h=>(hS z).2 (.inl h)
 have X3:S B.nb:=(hS _).2 (.inr (by omega))
 have JQ:S B.pb:=(hS _).2 (.inr (by omega))
 have tb3:S B.tb:=(hS _).2 (.inr (by omega))
 have tb4:S B.tp:=(hS _).2 (.inr (by omega))
 refine aU pg ?_
 refine vs ?_
 have f0:ai H (H.new 190 [i64 k,u64 s]):=(ah.refl _ _).new _ _
 have b0:(H.new 190 [i64 k,u64 s]).own H.size=some [i64 k,u64 s]:=aA _ _ _
 have m0:=m.fresh f0
 generalize H.new 190 [i64 k,u64 s]=H0 at*
 have ff:ah S H H0:=f0.mono fun _ _ h=>h.elim
 obtain⟨tv,KN,_⟩:=m0.own
 refine v2 (ae KN) (ae b0) ?_
 refine(ie m0.cells x k s).mono ?_
 rintro _ H1 (⟨bU,rfl,c1,e1⟩| ⟨ci,rfl,y,hy,jI,c1,e1⟩)
 ·refine vs ?_
  exact .inl ⟨bU,rfl,bq.same ⟨B,C,N,P,L,tops,ch,ay,am,rfl,m0.ext e1 (fun _ _ h=>h),l,hS⟩ (ff.trans (e1.mono fun _ _ h=>h.elim))⟩
 have rS:(w.put x (y.1,k,s)).cs.length=w.cs.length:=by simp[Nw.put]
 have m1:=m0.aC c1 e1 rS
 have B1:w.du x k s:=⟨ci,by grind⟩
 have hx:0≤x∧x<w.cs.length:=⟨ci.1,by grind⟩
 have Xp:aF w x=y.1:=kX ci.1 hy
 have gE:=bB.2 ci
 have hw:aF (w.put x (y.1,k,s))=aF w:=by
  funext z
  rw[dR hx]
  split
  ·grind
  ·rfl
 have E3:cI (w.put x (y.1,k,s)).cs x:=bB.1 (by simp_all)
 have el:∀a b,0<aF w a→0<aF w b→a≠x→b≠x→aP (w.put x (y.1,k,s)) a b=aP w a b:=fun a b ha hb uv lq=>dt hx _ ha hb uv lq
 have ex:∀b,0<aF w b→b≠x→aP w x b=true→aP (w.put x (y.1,k,s)) x b=true:=fun b hb lq h=>BT ci hy jI hb lq h
 have ls:=aw w
 have Vt:=aw (w.put x (y.1,k,s))
 obtain⟨g,hg⟩:∃g,g=aF w x:=⟨_,rfl⟩
 have eC:g<tops.length:=by
  have:=((m.cells.hm x).2 gE).2
  have:=l.tl
  omega
 have FO:∀z,aF w z=g→aM tops g≠ -1∧(z≠aM tops g→aP w (aM tops g) z=true):=fun z hz=>l.ls g z (by omega) hz
 obtain⟨uI,yR⟩:=FO x hg.symm
 obtain⟨T,hT⟩:∃T,T=aM tops g:=⟨_,rfl⟩
 rw[←hT]at uI yR FO
 have alq:=gE
 have hhl:(w.put x (y.1,k,s)).hs.length=w.hs.length:=by simp[Nw.put]
 obtain⟨A,hr⟩:∃A,am g=T::A:=by
  have h1:=l.tp g
  rw[←hT]at h1
  cases hc:am g with
  |nil=>grind
  |cons c r=>grind
 have hTg:=(l.f.rm g T (by grind)).1
 have hTp:=(l.f.rm g T (by grind)).2.1
 have hT0:0<aF w T:=by omega
 generalize JE:w.put x (y.1,k,s)=w' at*
 obtain⟨Dt,o1,_⟩:=m1.own
 refine v1 (ae o1) ?_
 refine(bI m1.cells x).mono ?_
 rintro _ H2 (⟨bU,_,_⟩| ⟨_,rfl,c2,e2⟩)
 ·exact absurd E3 bU
 have m2:=m1.aC c2 e2 rfl
 have oY:ah S H H2:=(ff.trans (e1.mono fun z _ h=>hC z h)).trans (e2.mono fun z _ h=>hC z h)
 rw[hw,←hg]
 obtain⟨QY,o2,_⟩:=m2.own
 have uG:=m2.len
 have BP:0≤x∧x<w'.cs.length:=by rw[rS];exact hx
 obtain⟨a0,a1,a2,a3,a4⟩:=m2.rd BP
 obtain⟨ux,_,_⟩:=l.pc x
 rw[ux]at a1
 refine v1 (ae o2) ?_
 refine⟨by omega,?_⟩
 refine v4 (ae m2.places) aoi Nat.add_zero a1 ?_
 have e0:az am g (T::A)=am:=by
  funext z
  unfold az
  split
  ·grind
  ·rfl
 have JC:(ay x= -1∨aP w' (ay x) x=true)→dU (aF w') (aP w') (cd N) ch ay (az am g (T::A)) []:=fun Ly=>by
  rw[e0,hw]
  refine l.f.other fun z c hc h1 h2 h3=>?_
  by_cases hz:z=x
  ·cases ls;grind
  ·by_cases Jo:c=x
   ·rw[Jo]at hc ⊢
    obtain⟨d1,d2,_⟩:=l.f.pr.dn z x hc
    grind
   grind
 refine ar.dec (fun h0=>?A) (fun h0=>?B)
 case' A=>
  refine vs ?_
  obtain⟨H3,eH⟩:∃H3,H3=H2:=⟨_,rfl⟩
  rw[←eH]at m2 oY ⊢
  obtain⟨N3,P3,L3,KV,nF,A3,m3,f3,p3,e3⟩:∃N' P' L' dK bG A',bV H3 B C w' N' P' L' tops∧dU (aF w') (aP w') (cd N') dK bG (az am g (T::A')) []∧Lu (fu L') dK bG∧ah S H H3:=⟨N,P,L,ch,ay,A,m2,JC (.inl h0),l.pc,oY⟩
 case' B=>
  have hpc:=l.f.pr.up x _ rfl h0
  obtain⟨_,_,hph,T7,Uf⟩:=l.f.pr.dn _ _ hpc
  have gE:ay x≠x:=fun e=>by cases ls;grind
  refine v1 (ae o2) ?_
  refine(cA m2.cells x (ay x)).mono ?_
  rintro _ H4 ⟨rfl,c4,e4⟩
  have m4:=m2.aC c4 e4 rfl
  have Ac:=oY.trans (e4.mono fun z _ h=>hC z h)
  rw[gw (w:=w') (a:=x) (b:=ay x) (by simp_all) (by simp_all)]
  cases bf:aP w' x (ay x)
  case' false=>
   refine vs ?_
   obtain⟨H3,eH⟩:∃H3,H3=H4:=⟨_,rfl⟩
   rw[←eH]at m4 Ac ⊢
   obtain⟨N3,P3,L3,KV,nF,A3,m3,f3,p3,e3⟩:∃N' P' L' dK bG A',bV H3 B C w' N' P' L' tops∧dU (aF w') (aP w') (cd N') dK bG (az am g (T::A')) []∧Lu (fu L') dK bG∧ah S H H3:=⟨N,P,L,ch,ay,A,m4,JC (by grind [aP,Nw.key,Nw.seq]),l.pc,Ac⟩
  case' true=>
   refine vs ?_
   refine(tO m4 ls (x:=x) (g:=g) (t:=T) (A:=A) (by rw[hw];exact l.f) l.pc (by simp_all) (by omega) eC hr hT.symm).mono ?_
   rintro _ H3 ⟨N3,P3,L3,KV,nF,A3,m3,f3',p3,u3,_,e5⟩
   have e3:=Ac.trans (e5.mono (by grind))
   have f3:dU (aF w') (aP w') (cd N3) KV nF (az am g (T::A3)) []:=by
    refine f3'.other fun z c hc h1 h2 h3=>?_
    rw[hw]at h1 h2
    have Jo:c≠x:=fun e=>by
     obtain⟨d1,d2,_⟩:=f3'.pr.dn z c hc
     grind
    by_cases hz:z=x
    ·grind
    ·grind
   refine vs ?_
 all_goals
  have Wz:az am g (T::A3) g=T::A3:=by unfold az;grind
  obtain⟨cc,lt3,o3,q3,AA,yO,KO⟩:=m3.dZ
  have q4:=m3.cT q3 (cf (tops:=tops) (h:=g) (by omega) eC)
  rw[←hT]at q4
  refine v1 (ae o3) ?_
  refine⟨by omega,?_⟩
  refine v4 (ae q3) aoi aok q4 ?_
  have RV:∀g2 z,g2≠g→0<g2→aF w' z=g2→aM tops g2≠ -1∧(z≠aM tops g2→aP w' (aM tops g2) z=true):=fun g2 z bN Er hz=>by
   rw[hw]at hz
   obtain⟨h1,h2⟩:=l.ls g2 z Er hz
   refine⟨h1,fun ZP=>?_⟩
   have h5:aF w (aM tops g2)=g2:=by
    have hm:aM tops g2∈am g2:=by
     have:=l.tp g2
     rw[this]at h1 ⊢
     exact eX h1
    exact(l.f.rm g2 _ hm).1
   grind
  have ZF:∀g2,aM tops g2=(az am g (T::A3) g2).headD (-1):=fun g2=>by
   unfold az
   cases l;grind
  refine ar.dec (fun h5=>?_) (fun h5=>?_)
  ·refine vs ?_
   refine .inr ⟨B1,rfl,y,hy,?_⟩
   rw[JE]
   refine bq.same ⟨B,C,N3,P3,L3,tops,KV,nF,_,rfl,m3,⟨f3,p3,ZF,fun g2 z Er hz=>?_,by rw[l.tl,hhl]⟩,hS⟩ e3
   by_cases h6:g2=g
   ·rw[h6,←hT]
    refine⟨uI,fun ZP=>?_⟩
    rw[hw,h6]at hz
    have h7:=(FO z hz).2 ZP
    rw[h5]at h7 ZP ⊢
    exact ex z (by omega) ZP h7
   ·exact RV g2 z h6 Er hz
  refine v1 (ae o3) ?_
  refine⟨by omega,?_⟩
  refine v4 (ae q3) aoi aok q4 ?_
  refine(cA m3.cells x T).mono ?_
  rintro _ H6 ⟨rfl,c6,e6⟩
  have m6:=m3.aC c6 e6 rfl
  have RO:=e3.trans (e6.mono fun z _ h=>hC z h)
  rw[gw (w:=w') (a:=x) (b:=T) (by rw[hw];omega) (by rw[hw];omega)]
  cases O3:aP w' x T
  ·refine vs ?_
   refine .inr ⟨B1,rfl,y,hy,?_⟩
   rw[JE]
   refine bq.same ⟨B,C,N3,P3,L3,tops,KV,nF,_,rfl,m6,⟨f3,p3,ZF,fun g2 z Er hz=>?_,by rw[l.tl,hhl]⟩,hS⟩ RO
   by_cases h6:g2=g
   ·rw[h6,←hT]
    refine⟨uI,fun ZP=>?_⟩
    rw[hw,h6]at hz
    cases Vt;grind
   grind
  ·obtain⟨cc,lt6,o6,q6,AA,yO,KO⟩:=m6.dZ
   refine v1 (ae o6) ?_
   refine⟨by omega,?_⟩
   refine v3 q6 aoi aok ?_
   refine⟨by omega,?_⟩
   obtain⟨m7,e7⟩:=m6.fR q6 g.toNat x
   refine vs ?_
   have KU:nF x= -1:=by
    apply aoA
    intro hp
    obtain⟨_,d2,d3,d4,d5⟩:=f3.pr.dn _ _ (f3.pr.up x _ rfl hp)
    rw[hw]at d3 d4
    by_cases e:nF x=T
    ·rw[e]at d5
     rw[Vt.yN d5]at O3;cases O3
    ·have h9:=(FO (nF x) (by omega)).2 e
     have agf:nF x≠x:=fun e=>by rw[e,Vt.Lp]at d5;cases d5
     rw[←el _ _ (by omega) (by omega) h5 agf]at h9
     rw[Vt.yN (Vt.tr _ _ _ h9 d5)]at O3;cases O3
   have hxm:x∈az am g (T::A3) g:=by
    rcases f3.Ax x (by rw[hw];omega) KU with h|h
    ·rw[hw,←hg]at h;exact h
    ·cases h
   obtain⟨A7,_,f7⟩:=f3.from_ hxm
   rw[cO]at f7
   refine .inr ⟨B1,rfl,y,hy,?_⟩
   rw[JE]
   refine bq.same ⟨B,C,N3,P3,L3,_,KV,nF,_,rfl,m7,⟨f7,p3,fun g2=>?_,fun g2 z Er hz=>?_,by cases l;grind⟩,hS⟩ (RO.trans (e7.mono (by grind)))
   ·rw[cX (by omega) eC]
    unfold cR az
    cases l;grind
   ·rw[cX (by omega) eC]
    unfold cR
    by_cases h6:g2=g
    ·rw[if_pos h6]
     refine⟨by omega,fun ZP=>?_⟩
     rw[hw,h6]at hz
     cases Vt;grind
    grind
theorem KX.head{w:Nw}{N:List Int}{L:List Pc}{tops:List Int}{ch:Int→List Int}{ay:Int→Int}{am:Int→List Int}(l:KX w N L tops ch ay am){g:Int}(h:aM tops g≠ -1):∃A,am g=aM tops g::A:=by
 have h1:=l.tp g
 cases hc:am g with
 |nil=>rw[hc]at h1;exact absurd h1 h
 |cons c r=>rw[hc]at h1;exact⟨r,by rw[h1];rfl⟩
theorem E7{n:Nat}{H:Hp}{S:Nat→Prop}{w:Nw}(h:dO n H S w)(x:Int):ag Tryz.prog iS [ptr n,i64 x] H fun v H'=>ap (
  (¬cI w.cs x∧v= .bool false∧bq (dO n) S H H' w)∨(cI w.cs x∧v= .bool true∧bq (dO n) S H H' (w.put x (0,0,0)))):=by
 obtain⟨B,C,N,P,L,tops,ch,ay,am,rfl,m,l,hS⟩:=id h
 have hC:∀z,C z→S z:=fun z h=>(hS z).2 (.inl h)
 have X3:S B.nb:=(hS _).2 (.inr (.inr (.inr (.inl rfl))))
 have JQ:S B.pb:=(hS _).2 (.inr (.inr (.inr (.inr (.inl rfl)))))
 have tb3:S B.tb:=(hS _).2 (.inr (.inr (.inr (.inr (.inr (.inl rfl))))))
 obtain⟨tv,o0,_⟩:=m.own
 refine aU qV ?_
 refine v1 (ae o0) ?_
 refine(bI m.cells x).mono ?_
 rintro _ H1 (⟨bU,rfl,rfl⟩| ⟨ci,rfl,c1,e1⟩)
 ·refine vs ?_
  exact .inl ⟨bU,rfl,bq.same h (ah.refl _ _)⟩
 have m1:=m.aC c1 e1 rfl
 have gE:=bB.2 ci
 obtain⟨im,nO,_⟩:=aG gE
 have ls:=aw w
 obtain⟨g,hg⟩:∃g,g=aF w x:=⟨_,rfl⟩
 have eC:g<tops.length:=by
  have:=((m.cells.hm x).2 gE).2
  have:=l.tl
  omega
 obtain⟨uI,yR⟩:=l.ls g x (by omega) hg.symm
 obtain⟨A,hr⟩:=l.head uI
 obtain⟨cc,lt,o1,q1,AA,yO,KO⟩:=m1.dZ
 have q2:=m1.cT q1 (cf (tops:=tops) (h:=g) (by omega) eC)
 have Ul:ah S H H1:=e1.mono fun z _ h=>hC z h
 rw[←hg]
 refine v1 (ae o1) ?_
 refine⟨⟨by omega,by omega⟩,?_⟩
 refine v4 (ae q1) aoi aok q2 ?_
 refine ar.dec (fun h0=>?_) (fun h0=>?_)<;>refine vs ?_
 ·refine(rK (S:=S) ⟨B,C,N,P,L,tops,ch,ay,am,rfl,m1,l,hS⟩ g).mono ?_
  rintro _ H2 (⟨Xg,_⟩| ⟨x',BP,rfl,S2,h2,e2,PJ⟩)
  ·exact absurd hg.symm ((rB (by omega)).1 Xg x)
  obtain rfl:x'=x:=by rw[←h0,l.first BP]
  refine vs ?_
  have:=e1.size
  exact .inr ⟨ci,rfl,S2,h2,Ul.trans e2,fun z hz=>(PJ z hz).imp_right fun h=>by omega⟩
 refine(tO m1 ls (x:=x) l.f l.pc hg.symm (by omega) eC hr rfl).mono ?_
 rintro _ H2 ⟨N2,P2,L2,mf,gX,A2,m2,f2,p2,u2,_,e2⟩
 obtain⟨t,ht⟩:∃t,t=aM tops g:=⟨_,rfl⟩
 rw[←ht]at f2 h0 uI yR
 have JK:az am g (t::A2) g=t::A2:=by unfold az;rw[if_pos rfl]
 have ut:x∈az am g (t::A2) g:=by
  have:=f2.Ax x gE u2
  rw[←hg]at this
  simpa using this
 obtain⟨A3,Ft,f3⟩:=f2.from_ ut
 have Wy:aF w t=g∧0<g:=by
  have:=f2.rm g t (by rw[JK];simp)
  exact⟨this.1,this.2.2.1⟩
 have RZ:t≠x:=fun e=>h0 e
 refine vs ?_
 refine(wg m2 f3 p2 (by unfold az;rw[if_pos rfl])).mono ?_
 rintro _ H3 ⟨N3,P3,L3,A4,m3,f4,p3,e3⟩
 rw[cO]at f4
 obtain⟨Xy,o3,_⟩:=m3.own
 have SS:=m3.len
 refine v1 (ae o3) ?_
 refine(jR m3.ring m3.inv (x:=x) (by omega)).mono ?_
 rintro _ H4 ⟨rfl,N4,P4,r4,l4,n4,i4,e4⟩
 have m4:=m3.qe r4 i4 e4 l4
 have f5:=f4.V7 (x:=x) (g:=g) (A:=A4) m3.inv (by rw[cO];unfold az;rw[if_pos rfl])
 rw[cO,cO,←n4]at f5
 obtain⟨ZG,o4,_⟩:=m4.own
 have Ac:ah S H H4:=((Ul.trans (e2.mono fun z _ h=>by rcases h with rfl|rfl|rfl;exact X3;exact JQ;exact tb3)).trans (e3.mono fun z _ h=>by rcases h with rfl|rfl|rfl;exact X3;exact JQ;exact tb3)).trans (e4.mono fun z _ h=>by rcases h with rfl|rfl;exact X3;exact JQ)
 have jh:=fun y=>dR (w:=w) ⟨im,nO⟩ (0,0,0) y
 have el:∀a b,0<aF w a→0<aF w b→a≠x→b≠x→aP (w.put x (0,0,0)) a b=aP w a b:=fun a b ha hb uv lq=>dt ⟨im,nO⟩ _ ha hb uv lq
 have f6:=f5.drop (hm':=aF (w.put x (0,0,0))) (lt':=aP (w.put x (0,0,0))) (by unfold az;rw[if_pos rfl]) rfl (by rw[jh,if_pos rfl]) (fun y hy=>by rw[jh,if_neg hy]) el
 refine v1 (ae o4) ?_
 refine(ce m4.cells x).mono ?_
 rintro _ H5 (⟨bU,_,_⟩| ⟨_,rfl,c5,e5⟩)
 ·exact absurd ci bU
 have m5:=m4.aC c5 e5 (by simp[Nw.put])
 have ZF:gX t= -1:=(f2.rm g t (by rw[JK];simp)).2.1
 have htA:t∈az am g A4 g:=by
  have h1:=f6.Ax t (by rw[jh,if_neg RZ];omega) (by unfold fx;split;rfl;exact ZF)
  rw[jh,if_neg RZ,Wy.1]at h1
  simpa using h1
 obtain⟨A6,_,f7⟩:=f6.from_ htA
 rw[cO]at f7
 refine vs ?_
 refine .inr ⟨ci,rfl,bq.same ⟨B,C,N4,P4,L3,tops,_,_,_,rfl,m5,⟨f7,p3,fun g2=>?_,fun g2 y Er hy=>?_,by rw[l.tl];simp[Nw.put]⟩,hS⟩ (Ac.trans (e5.mono fun z _ h=>hC z h))⟩
 ·unfold az
  split
  ·rename_i e
   rw[e,←ht]
   rfl
  ·exact l.tp g2
 ·have FD:y≠x:=fun e=>by rw[jh,if_pos e]at hy;simp at hy;omega
  rw[jh,if_neg FD]at hy
  obtain⟨h3,h4⟩:=l.ls g2 y Er hy
  have hT:aF w (aM tops g2)=g2:=by
   obtain⟨A',h5⟩:=l.head h3
   exact(l.f.rm g2 _ (by rw[h5];simp)).1
  have hTx:aM tops g2≠x:=fun e=>by
   rw[e,←hg]at hT
   subst hT
   exact h0 (by rw[ht];exact e)
  refine⟨h3,fun bN=>?_⟩
  rw[el _ _ (by omega) (by omega) hTx FD]
  exact h4 bN
theorem Ri{H:Hp}{B:FB}{C:Nat→Prop}{w:Nw}{N P:List Int}{L:List Pc}{tops:List Int}(m:bV H B C w N P L tops){x g t:Int}(hx:0<aF w x)(PS:0≤g)(eC:g<tops.length)(ht:aM tops g=t)(Ly:t= -1∨0<aF w t)(RZ:t≠x):
  ag Tryz.prog kA [ptr B.n,i64 g,i64 x] H fun v H'=>ap (∃N' P' r,bV H' B C w N' P' L (tops.set g.toNat r)∧cd N'=(if t= -1 then cd N else uH (cd N) t x)∧r=(if t= -1∨aP w x t=true then x else t)∧ah (fun z=>C z∨z=B.nb∨z=B.pb∨z=B.tp) H H'):=by
 obtain⟨im,nO⟩:=rJ x hx
 obtain⟨cc,lt,o1,q1,AA,yO,KO⟩:=m.dZ
 have q2:=m.cT q1 (cf (tops:=tops) (h:=g) (by omega) eC)
 have bu:=m.len
 rw[ht]at q2
 refine aU kM ?_
 refine v1 (ae o1) ?_
 refine⟨⟨by omega,by omega⟩,?_⟩
 refine v4 (ae q1) aoi aok q2 ?_
 refine ar.dec (fun h0=>?_) (fun h0=>?_)<;>refine v1 (ae o1) ?_
 ·refine⟨⟨by omega,by omega⟩,?_⟩
  refine v3 q1 aoi aok ?_
  refine⟨by omega,?_⟩
  obtain⟨m2,e2⟩:=m.fR q1 g.toNat x
  refine vs ?_
  exact⟨N,P,x,m2,by rw[if_pos h0],by rw[if_pos (.inl h0)],e2.mono fun z _ h=>.inr (.inr (.inr h))⟩
 have ZQ:=Ly.resolve_left h0
 obtain⟨uI,yR⟩:=rJ t ZQ
 refine⟨⟨by omega,by omega⟩,?_⟩
 refine v4 (ae q1) aoi aok q2 ?_
 refine(c7 m.ring m.inv (x:=t) (y:=x) (by omega) (by omega)).mono ?_
 rintro _ H2 ⟨rfl,N2,P2,r2,l2,n2,i2,e2⟩
 have m2:=m.qe r2 i2 e2 l2
 obtain⟨cc,lt2,o2,q3,_⟩:=m2.dZ
 have q4:=m2.cT q3 (cf (tops:=tops) (h:=g) (by omega) eC)
 rw[ht]at q4
 refine v1 (ae o2) ?_
 refine⟨⟨by omega,by omega⟩,?_⟩
 refine v4 (ae q3) aoi aok q4 ?_
 refine(cA m2.cells x t).mono ?_
 rintro _ H3 ⟨rfl,c3,e3⟩
 have m3:=m2.aC c3 e3 rfl
 rw[gw (w:=w) (a:=x) (b:=t) hx ZQ]
 have z8:ah (fun z=>C z∨z=B.nb∨z=B.pb∨z=B.tp) H H3:=(e2.mono fun z _ h=>h.elim (fun h=>.inr (.inl h)) (fun h=>.inr (.inr (.inl h)))).trans (e3.mono fun z _ h=>.inl h)
 cases bf:aP w x t
 ·refine vs ?_
  refine⟨N2,P2,t,?_,by rw[if_neg h0,n2],by simp[h0],z8⟩
  have:tops.set g.toNat t=tops:=by
   rw[←ht]
   exact SA _ _ _ (cf PS eC)
  rw[this]
  exact m3
 ·obtain⟨cc,lt3,o3,q5,_,hc5,_⟩:=m3.dZ
  have q6:=m3.cT q5 (cf (tops:=tops) (h:=g) (by omega) eC)
  have xY:=(aoj.1 q6).1
  refine v1 (ae o3) ?_
  refine⟨⟨by omega,by omega⟩,?_⟩
  refine v3 q5 aoi aok ?_
  refine⟨by omega,?_⟩
  obtain⟨m4,e4⟩:=m3.fR q5 g.toNat x
  refine vs ?_
  exact⟨N2,P2,x,m4,by rw[if_neg h0,n2],by simp,z8.trans (e4.mono fun z _ h=>.inr (.inr (.inr h)))⟩
theorem KX.yP{w:Nw}{N N':List Int}{L:List Pc}{tops me:List Int}{ch:Int→List Int}{ay:Int→Int}{am:Int→List Int}(l:KX w N L tops ch ay am){a b r:Int}{lr:List Int}(eJ:a≠b)(ha:0<a)(hb:0<b)
  (hl:∀c,c∈lr↔c∈am a∨c∈am b)(hc:oW (cd N') lr)(hn:lr.Nodup)(hf:∀c,c∉am a→c∉am b→cd N' c=cd N c)(hr:lr.headD (-1)=r)
  (abR:∀g,g=a∨g=b→aM tops g≠ -1→r≠ -1∧(aM tops g≠r→aP w r (aM tops g)=true))(ht:aM me=cR (cR (aM tops) a r) b (-1))(Np:me.length=tops.length):
  KX (w.join a b) N' L me ch ay (az (az am a lr) b []):=by
 have hj:=oJ (w:=w) (a:=a) (b:=b) hb
 have f1:=l.f.yP (hm':=aF (w.join a b)) rfl eJ ha hb hj hl hc hn hf
 rw[←jb w a b]at f1
 refine⟨f1,l.pc,fun g=>?_,fun g y hg hy=>?_,by rw[Np,l.tl];simp[Nw.join]⟩
 ·rw[ht]
  have:=l.tp g
  unfold cR az
  split
  ·rfl
  ·split
   ·exact hr.symm
   ·exact this
 ·rw[ht,jb]
  rw[hj]at hy
  have h1:=l.ls (aF w y) y
  have h2:=l.ls g y hg
  have h3:=abR (aF w y)
  have tr:=(aw w).tr r (aM tops (aF w y)) y
  unfold cR
  split at hy
  ·rename_i e
   subst hy
   rw[if_neg eJ,if_pos rfl]
   grind
  ·rename_i e
   by_cases e2:g=a
   ·subst e2
    rw[if_neg eJ,if_pos rfl]
    grind
   ·rw[if_neg (by omega),if_neg e2]
    exact h2 hy
theorem I0{n:Nat}{H:Hp}{S:Nat→Prop}{w:Nw}(h:dO n H S w)(a b:Int):ag Tryz.prog kw [ptr n,i64 a,i64 b] H fun v H'=>ap (
  (¬ (w.has a∧w.has b∧a≠b)∧v= .bool false∧bq (dO n) S H H' w)∨((w.has a∧w.has b∧a≠b)∧v= .bool true∧bq (dO n) S H H' (w.join a b))):=by
 obtain⟨B,C,N,P,L,tops,ch,ay,am,rfl,m,l,hS⟩:=id h
 have hC:∀z,C z→S z:=fun z h=>(hS z).2 (.inl h)
 have X3:S B.nb:=(hS _).2 (.inr (.inr (.inr (.inl rfl))))
 have JQ:S B.pb:=(hS _).2 (.inr (.inr (.inr (.inr (.inl rfl)))))
 have tb4:S B.tp:=(hS _).2 (.inr (.inr (.inr (.inr (.inr (.inr rfl))))))
 obtain⟨tv,o0,_⟩:=m.own
 refine aU ui ?_
 refine v1 (ae o0) ?_
 refine(jN m.cells a b).mono ?_
 rintro _ H1 (⟨bU,rfl,rfl⟩| ⟨fX,rfl,c1,e1⟩)
 ·refine vs ?_
  exact .inl ⟨bU,rfl,bq.same h (ah.refl _ _)⟩
 obtain⟨⟨ha,Q3⟩,⟨hb,Oy⟩,eJ⟩:=id fX
 have m1:=m.aC c1 e1 (by simp[Nw.join])
 have hj:=oJ (w:=w) (a:=a) (b:=b) (by omega)
 have al:a<tops.length:=by
  have:=(aoj.1 Q3).1
  have:=l.tl
  omega
 have bl:b<tops.length:=by
  have:=(aoj.1 Oy).1
  have:=l.tl
  omega
 have ls:=aw w
 have Ul:ah S H H1:=e1.mono fun z _ h=>hC z h
 obtain⟨cc,lt,o1,q1,AA,yO,KO⟩:=m1.dZ
 have qb:=m1.cT q1 (cf (tops:=tops) (h:=b) (by omega) bl)
 refine v1 (ae o1) ?_
 refine⟨⟨by omega,by omega⟩,?_⟩
 refine v4 (ae q1) aoi aok qb ?_
 have hTb:aM tops b≠ -1→aF w (aM tops b)=b:=fun h=>by
  obtain⟨B',hB⟩:=l.head h
  exact(l.f.rm b _ (by rw[hB];simp)).1
 have hTa:aM tops a≠ -1→aF w (aM tops a)=a:=fun h=>by
  obtain⟨B',hB⟩:=l.head h
  exact(l.f.rm a _ (by rw[hB];simp)).1
 have emp:∀g,aM tops g= -1→am g=[]:=fun g h=>by
  have h1:=l.tp g
  rw[h]at h1
  cases hc:am g with
  |nil=>rfl
  |cons c r=>rw[hc]at h1;exact absurd h1.symm (l.f.rne (h:=g) (by rw[hc];simp))
 have fin:∀ (H2:Hp) (N2 P2:List Int) (PW:List Int) (r:Int) (lr:List Int),bV H2 B C (w.join a b) N2 P2 L PW→ah S H H2→PW.length=tops.length→aM PW=cR (aM tops) a r→(∀me,aM me=cR (cR (aM tops) a r) b (-1)→me.length=tops.length→KX (w.join a b) N2 L me ch ay (az (az am a lr) b []))→
   ∀K:Hp→Prop,(∀H',bq (dO B.n) S H H' (w.join a b)→K H')→∃cc l2,H2.own B.n=some [ptr B.c,ptr B.r,.slice (some ⟨B.tb,0,none⟩) L.length L.length,.slice (some ⟨B.tp,0,none⟩) tops.length cc]∧H2.own B.tp=some l2∧b.toNat<l2.length∧K (H2.wr B.tp (l2.set b.toNat (i64 (-1)))):=fun H2 N2 P2 PW r lr m2 e2 uG yR hL K hK=>by
  obtain⟨cc,l2,o2,q2,Zw,rX,_⟩:=m2.dZ
  obtain⟨m3,e3⟩:=m2.fR q2 b.toNat (-1)
  rw[uG]at o2 Zw
  refine⟨cc,l2,o2,q2,by omega,hK _ (bq.same ⟨B,C,N2,P2,L,_,ch,ay,_,rfl,m3,hL _ (by rw[cX (by omega) (by rw[uG];exact bl),yR]) (by rw[aom];exact uG),hS⟩ (e2.trans (e3.mono fun z _ h=>h▸tb4)))⟩
 refine ar.dec (fun h0=>?_) (fun h0=>?_)<;>refine v1 (ae o1) ?_
 ·obtain⟨cc2,l2,o2,q2,hd,hk⟩:=fin H1 N P tops (aM tops a) (am a) m1 Ul rfl (by funext z;unfold cR;split;rename_i e;rw[e];rfl) (fun me Sf Pz=>l.yP eJ (by omega) (by omega) (fun c=>by rw[emp b h0];simp) (l.f.rc a) (l.f.rn a) (fun _ _ _=>rfl) (l.tp a).symm (fun g hg bN=>by rcases hg with rfl|rfl;exact⟨bN,fun h=>absurd rfl h⟩;exact absurd h0 bN) Sf Pz) _ (fun H' hn=>(.inr ⟨fX,rfl,hn⟩:(¬ (w.has a∧w.has b∧a≠b)∧Value.bool true= .bool false∧bq (dO B.n) S H H' w)∨((w.has a∧w.has b∧a≠b)∧Value.bool true= .bool true∧bq (dO B.n) S H H' (w.join a b))))
  refine⟨⟨by omega,by omega⟩,?_⟩
  rw[q1]at q2
  injection q2 with q2
  subst q2
  refine v3 q1 aoi aok ?_
  refine⟨by omega,?_⟩
  refine vs ?_
  exact hk
 ·have abS:=hTb h0
  have RZ:aM tops a≠aM tops b:=fun e=>eJ (by rw[←hTa (by rw[e];exact h0),e,abS])
  refine⟨⟨by omega,by omega⟩,?_⟩
  refine v4 (ae q1) aoi aok qb ?_
  refine(Ri m1 (x:=aM tops b) (g:=a) (t:=aM tops a) (by rw[hj,abS,if_pos rfl];omega) (by omega) al rfl (by
   by_cases h:aM tops a= -1
   ·exact .inl h
   ·refine .inr ?_
    rw[hj,hTa h,if_neg eJ]
    omega) RZ).mono ?_
  rintro _ H2 ⟨N2,P2,r,m2,n2,hr,e2⟩
  rw[jb]at hr
  obtain⟨lr,k1,k2,k3,k4,k5,k6⟩:∃lr:List Int,(∀c,c∈lr↔c∈am a∨c∈am b)∧oW (cd N2) lr∧lr.Nodup∧(∀c,c∉am a→c∉am b→cd N2 c=cd N c)∧lr.headD (-1)=r∧
    (∀g,g=a∨g=b→aM tops g≠ -1→r≠ -1∧(aM tops g≠r→aP w r (aM tops g)=true)):=by
   obtain⟨Bq,hB⟩:=l.head h0
   by_cases hA:aM tops a= -1
   ·rw[if_pos hA]at n2
    rw[if_pos (.inl hA)]at hr
    refine⟨am b,fun c=>by rw[emp a hA];simp,by rw[n2];exact l.f.rc b,l.f.rn b,fun _ _ _=>by rw[n2],by rw[hr];exact(l.tp b).symm,fun g hg bN=>?_⟩
    rcases hg with rfl|rfl
    ·exact absurd hA bN
    ·rw[hr];exact⟨h0,fun h=>absurd rfl h⟩
   ·rw[if_neg hA]at n2
    obtain⟨Aq,hAq⟩:=l.head hA
    have c1:=l.f.rc a
    have c2:=l.f.rc b
    have d1:=l.f.rn a
    have d2:=l.f.rn b
    have mY:∀c,c∈am a→c∈am b→False:=fun c h1 h2=>eJ (by rw[← (l.f.rm a c h1).1,(l.f.rm b c h2).1])
    rw[hAq]at c1 d1 mY
    rw[hB]at c2 d2 mY
    have nd:((aM tops a::Aq)++(aM tops b::Bq)).Nodup:=aoS.2 ⟨d1,d2,fun u hu v hv e=>mY u hu (e▸hv)⟩
    have cj:=oW.join c1 c2 nd
    rw[←n2]at cj
    have pm:(aM tops a::Bq++aM tops b::Aq).Perm ((aM tops a::Aq)++(aM tops b::Bq)):=by
     refine List.Perm.cons _ ?_
     exact aoY.trans ((List.Perm.cons _ aoY).trans (by
      have:=@apv _ (aM tops b) Bq Aq
      exact(List.Perm.cons _ aoY).trans apv.symm))
    have fr:∀c,c∉am a→c∉am b→cd N2 c=cd N c:=fun c h1 h2=>by
     rw[n2]
     exact qu (fun e=>h1 (by rw[hAq,e];simp)) (fun e=>h2 (by rw[hB,e];simp))
    have WR:=ls.WR (aM tops a) (aM tops b) RZ
    by_cases bf:aP w (aM tops b) (aM tops a)=true
    ·rw[if_pos (.inr bf)]at hr
     have cr:=oW.Zj (l1:=aM tops a::Bq) (l2:=aM tops b::Aq) cj
     refine⟨_,fun c=>?_,cr,?_,fr,hr.symm,fun g hg bN=>?_⟩
     ·rw[(aoY.trans pm).mem_iff,hAq,hB,aoD]
     ·exact(aoY.trans pm).nodup_iff.2 nd
     ·rcases hg with rfl|rfl
      ·rw[hr];exact⟨h0,fun _=>bf⟩
      ·rw[hr];exact⟨h0,fun h=>absurd rfl h⟩
    ·rw[if_neg (by rintro(h|h);exact hA h;exact bf h)]at hr
     refine⟨_,fun c=>?_,cj,?_,fr,hr.symm,fun g hg bN=>?_⟩
     ·rw[pm.mem_iff,hAq,hB,aoD]
     ·exact pm.nodup_iff.2 nd
     ·rcases hg with rfl|rfl
      ·rw[hr];exact⟨hA,fun h=>absurd rfl h⟩
      ·rw[hr];exact⟨hA,fun _=>WR.resolve_right bf⟩
  obtain⟨cc2,l2,o2,q2,hd,hk⟩:=fin H2 N2 P2 _ r lr m2 (Ul.trans (e2.mono fun z _ h=>by rcases h with h|rfl|rfl|rfl;exact hC z h;exact X3;exact JQ;exact tb4)) (aom ..) (cX (by omega) al r) (fun me Sf Pz=>l.yP eJ (by omega) (by omega) k1 k2 k3 k4 k5 k6 Sf Pz) _ (fun H' hn=>(.inr ⟨fX,rfl,hn⟩:(¬ (w.has a∧w.has b∧a≠b)∧Value.bool true= .bool false∧bq (dO B.n) S H H' w)∨((w.has a∧w.has b∧a≠b)∧Value.bool true= .bool true∧bq (dO B.n) S H H' (w.join a b))))
  refine v1 (ae o2) ?_
  refine⟨⟨by omega,by omega⟩,?_⟩
  refine v3 q2 aoi aok ?_
  refine⟨by omega,?_⟩
  refine vs ?_
  exact hk
theorem Vu(k:Nat):dE [Value.int .i64 0,Value.int .i64 0,Value.int .i64 0,Value.bool false] k=aK (List.replicate k ⟨0,0,0,false⟩):=by
 unfold dE aK
 induction k with
 |zero=>rfl
 |succ k ih=>rw[ao2,ao2,aps,List.flatMap_cons,ih];rfl
theorem KY(cap:Int)(H:Hp):ag Tryz.prog Eu [i64 cap] H fun v H'=>ap (
  ai H H'∧((¬ (0≤cap∧cap≤65536)∧v= .tuple [.pointer none,i64 31].toArray)∨
   ((0≤cap∧cap≤65536)∧∃n S,v= .tuple [ptr n,i64 0].toArray∧dO n H' S (yd cap)∧∀x,S x→H.size≤x))):=by
 refine aU EA ?_
 refine vs ?_
 refine(lZ cap H).mono ?_
 rintro _ H1 ⟨f1,⟨hb,rfl⟩| ⟨hb,c,C,rfl,c1,hC⟩⟩
 ·refine vs ?_
  exact⟨f1,.inl ⟨hb,rfl⟩⟩
 refine vs ?_
 refine(IZ H1 hb).mono ?_
 rintro _ H2 ⟨r,nb,pb,N,P,rfl,r2,hN,hid,hinv,f2,hr,HR,QV⟩
 have c2:=c1.fresh f2
 refine v1 aoE ?_
 refine⟨by omega,?_⟩
 refine vs ?_
 rw[Vu]
 have GF:=c1.slt
 have z1:=f1.size
 have z2:=f2.size
 have hrs:r<H2.size∧nb<H2.size∧pb<H2.size:=⟨aE r2.own,aE r2.PU,aE r2.Ww⟩
 obtain⟨rn1,rn2,rn3⟩:=r2.ne
 have f3:ai H2 (((H2.new 229 (aK (List.replicate cap.toNat ⟨0,0,0,false⟩))).new 3 [Value.int .i64 (-1)]).new 227 [ptr c,ptr r,.slice (some ⟨H2.size,0,none⟩) cap.toNat cap.toNat,.slice (some ⟨H2.size+1,0,none⟩) 1 1]):=(((ah.refl _ _).new _ _).new _ _).new _ _
 have e1:ah (fun _=>False) (H2.new 229 (aK (List.replicate cap.toNat ⟨0,0,0,false⟩))) (((H2.new 229 (aK (List.replicate cap.toNat ⟨0,0,0,false⟩))).new 3 [Value.int .i64 (-1)]).new 227 [ptr c,ptr r,.slice (some ⟨H2.size,0,none⟩) cap.toNat cap.toNat,.slice (some ⟨H2.size+1,0,none⟩) 1 1]):=((ah.refl _ _).new _ _).new _ _
 have e2:ah (fun _=>False) ((H2.new 229 (aK (List.replicate cap.toNat ⟨0,0,0,false⟩))).new 3 [Value.int .i64 (-1)]) (((H2.new 229 (aK (List.replicate cap.toNat ⟨0,0,0,false⟩))).new 3 [Value.int .i64 (-1)]).new 227 [ptr c,ptr r,.slice (some ⟨H2.size,0,none⟩) cap.toNat cap.toNat,.slice (some ⟨H2.size+1,0,none⟩) 1 1]):=(ah.refl _ _).new _ _
 obtain⟨B,hB⟩:∃B:FB,B=⟨H2.size+1+1,c,r,nb,pb,H2.size,H2.size+1⟩:=⟨_,rfl⟩
 have m0:bV (((H2.new 229 (aK (List.replicate cap.toNat ⟨0,0,0,false⟩))).new 3 [Value.int .i64 (-1)]).new 227 [ptr c,ptr r,.slice (some ⟨H2.size,0,none⟩) cap.toNat cap.toNat,.slice (some ⟨H2.size+1,0,none⟩) 1 1]) B C (yd cap) N P (List.replicate cap.toNat ⟨0,0,0,false⟩) [-1]:=by
  subst hB
  refine⟨⟨.slice (some ⟨H2.size+1,0,none⟩) 1 1,?_,?_⟩,c2.fresh f3,r2.ext f3 (fun h=>h) (fun h=>h) (fun h=>h),hinv,?_,?_,?_,?_⟩
  ·grind [aR,ak]
  ·exact(Sl.dM (size:=1) (n:=1) (xs:=[i64 (-1)]) rfl (by simp only[ak])).ext e2 (fun _ _ h=>h)
  ·exact e1.own (aA _ _ _) (fun h=>h)
  ·simp[yd,hN]
  ·grind
  ·grind
 have MM:B.n=H2.size+1+1:=by rw[hB]
 have hBs:∀z,B.S C z→H1.size≤z∨C z:=fun z hz=>by
  rcases hz with hz|rfl|rfl|rfl|rfl|rfl|rfl
  ·grind
  all_goals rw[hB];left;first|omega| (simp only;omega)
 have hBt:B.tb=H2.size:=by rw[hB]
 have ft:=(f1.trans f2).trans f3
 generalize ((H2.new 229 (aK (List.replicate cap.toNat ⟨0,0,0,false⟩))).new 3 [Value.int .i64 (-1)]).new 227 [ptr c,ptr r,.slice (some ⟨H2.size,0,none⟩) cap.toNat cap.toNat,.slice (some ⟨H2.size+1,0,none⟩) 1 1]=H3 at*
 have rV:(yd cap).cs.length=cap.toNat:=by simp[yd]
 rw[←MM]
 refine bX.intro (fun m env H'=>∃ (j:Nat) (L':List Pc),m=cap.toNat - j∧j≤cap.toNat∧ah (fun z=>z=B.tb) H3 H'∧bV H' B C (yd cap) N P L' [-1]∧(∀z:Int,0≤z→z<j→fu L' z=oS)∧
  env=[(5,i64 0),(7,ptr B.n),(33,i64 (cap.toNat:Nat)),(34,i64 j)]) cap.toNat ⟨0,_,by omega,by omega,ah.refl _ _,m0,by omega,rfl⟩ ?_
 rintro m env H4 ⟨j,L4,rfl,hj,e4,m4,g4,rfl⟩
 obtain⟨cc,lt4,o4,_⟩:=m4.dZ
 have Vr:=m4.len
 refine vs ?_
 refine ar.dec (fun bf=>?_) (fun bf=>?_)<;>refine vs ?_
 ·refine fV.intro (fun H'=>H'.own B.n=some [ptr B.c,ptr B.r,.slice (some ⟨B.tb,0,none⟩) L4.length L4.length,.slice (some ⟨B.tp,0,none⟩) [(-1:Int)].length cc]) o4 ?_
  refine vs ?_
  refine dV.intro (.slice (some ⟨B.tb,0,none⟩) L4.length L4.length) (fun H' hI=>by refine v1 (ae hI) ?_;trivial) ?_
  refine vs ?_
  refine(we H4).mono ?_
  rintro _ H5 ⟨rfl,e5⟩
  have o5:=e5.own o4 (fun h=>h)
  refine And.intro o5 ?_
  have m5:=m4.fresh e5
  refine vs ?_
  refine⟨by omega,?_⟩
  obtain⟨b0,_⟩:=m5.rd (x:=(j:Int)) (by omega)
  obtain⟨L6,k6,m6,e6⟩:=m5.O1 (x:=(j:Int)) (by omega) oS
  refine v2 m5.places aoi ?_
  refine⟨by omega,?_⟩
  rw[show aX (aK L4) ((j:Int).toNat*4) (aI (Value.agg #[i64 (-1),i64 (-1),i64 0,Value.bool false]))=aX (aK L4) ((j:Int).toNat*4) [i64 oS.u,i64 oS.k,i64 oS.d,.bool oS.m]from rfl]
  have oX:=m5.mY.1.2.2.2.1
  generalize H5.wr B.tb (aX (aK L4) ((j:Int).toNat*4) [i64 oS.u,i64 oS.k,i64 oS.d,.bool oS.m])=H6 at*
  refine vs ?_
  refine And.intro (e6.own o5 oX) ?_
  refine vs ?_
  refine⟨cap.toNat - (j+1),by omega,j+1,L6,rfl,by omega,(e4.trans (e5.mono fun _ _ h=>h.elim)).trans e6,m6,fun z h0 h1=>?_,?_⟩
  ·rw[k6]
   unfold mD
   grind
  grind [wrap64]
 ·obtain rfl:j=cap.toNat:=by omega
  have hpc:∀z,fu L4 z=oS:=by grind [oS,fu]
  refine⟨ft.then e4 (by omega),.inr ⟨hb,B.n,B.S C,rfl,⟨B,C,N,P,L4,[-1],fun _=>[],fun _=> -1,fun _=>[],rfl,m4,⟨⟨⟨rfl,by grind,by omega,by grind⟩,
   fun x=>trivial,fun h=>trivial,by grind,by grind,apJ,by grind,fun c hc=>absurd hc (oP cap c),fun c _=>hid c⟩,fun x=>by rw[hpc];exact⟨rfl,rfl,rfl⟩,
   fun g=>Dx g,fun g y hg hy=>absurd (by omega) (oP cap y),rfl⟩,fun z=>Iff.rfl⟩,fun z hz=>?_⟩⟩
  grind
theorem Tk(n:Nat):tN (.iface 156 (ptr n)) (dO n) where
 slt h:=h.slt
 ext h e hd:=h.ext e hd
 cells:=by
  rintro H S w ⟨B,C,N,P,L,tops,ch,ay,am,rfl,m,l,hS⟩
  exact⟨B.c,C,m.cells⟩
 has:=by
  rintro H S w g ⟨B,C,N,P,L,tops,ch,ay,am,rfl,m,l,hS⟩
  obtain⟨tv,ho,_⟩:=m.own
  exact⟨_,_,bJ,ptr B.c,rfl,cD (off:=0) (by kernel_rfl) (ae ho) rfl,(iZ m.cells g).mono fun v H' hp=>hp⟩
 make:=by
  intro H S w h
  exact⟨_,_,kr,ptr n,rfl,aS (by kernel_rfl),(IY h).mono fun v H' hp=>hp⟩
 insert:=by
  intro H S w g x k s h
  exact⟨_,_,iU,ptr n,rfl,aS (by kernel_rfl),(E6 h g x k s).mono fun v H' hp=>hp⟩
 min:=by
  intro H S w g h
  refine⟨_,_,lK,ptr n,rfl,aS (by kernel_rfl),(Cg h g).mono ?_⟩
  rintro v H' ⟨⟨h1,rfl⟩| ⟨x,h1,rfl⟩,rfl⟩
  ·exact .inl ⟨h1,rfl,bq.same h (ah.refl _ _)⟩
  ·exact .inr ⟨x,h1,rfl,bq.same h (ah.refl _ _)⟩
 extract:=by
  intro H S w g h
  exact⟨_,_,hZ,ptr n,rfl,aS (by kernel_rfl),(rK h g).mono fun v H' hp=>hp⟩
 mc:=by
  intro H S w x k s h
  exact⟨_,_,gP,ptr n,rfl,aS (by kernel_rfl),(Ch h x k s).mono fun v H' hp=>hp⟩
 entry:=by
  rintro H S w x ⟨B,C,N,P,L,tops,ch,ay,am,rfl,m,l,hS⟩
  obtain⟨tv,ho,_⟩:=m.own
  refine⟨_,_,bj,ptr B.c,rfl,cD (off:=0) (by kernel_rfl) (ae ho) rfl,(ic m.cells x).mono ?_⟩
  rintro v H' ⟨c1,f,hv⟩
  exact⟨⟨B,C,N,P,L,tops,ch,ay,am,rfl,m.fresh f,l,hS⟩,f,hv⟩
 len:=by
  rintro H S w g ⟨B,C,N,P,L,tops,ch,ay,am,rfl,m,l,hS⟩
  obtain⟨tv,ho,_⟩:=m.own
  exact⟨_,_,bK,ptr B.c,rfl,cD (off:=0) (by kernel_rfl) (ae ho) rfl,(fe m.cells g).mono fun v H' hp=>hp⟩
 home:=by
  rintro H S w x h
  obtain⟨B,C,N,P,L,tops,ch,ay,am,rfl,m,l,hS⟩:=id h
  obtain⟨tv,ho,_⟩:=m.own
  refine⟨_,_,bC,ptr B.c,rfl,cD (off:=0) (by kernel_rfl) (ae ho) rfl,(bI m.cells x).mono ?_⟩
  rintro v H' (⟨h1,rfl,rfl⟩| ⟨h1,rfl,c1,e1⟩)
  ·exact .inl ⟨h1,rfl,bq.same h (ah.refl _ _)⟩
  ·exact .inr ⟨h1,rfl,bq.same ⟨B,C,N,P,L,tops,ch,ay,am,rfl,m.aC c1 e1 rfl,l,hS⟩ (e1.mono fun z _ hz=>(hS z).2 (.inl hz))⟩
 delete:=by
  intro H S w x h
  exact⟨_,_,iS,ptr n,rfl,aS (by kernel_rfl),(E7 h x).mono fun v H' hp=>hp⟩
 yP:=by
  intro H S w a b h
  exact⟨_,_,kw,ptr n,rfl,aS (by kernel_rfl),(I0 h a b).mono fun v H' hp=>hp⟩
theorem wh(n:Nat)(H:Hp):ag Tryz.prog wX [ptr n,i64 0] H fun v H'=>ap (v= .tuple [.iface 144 (ptr n),i64 0].toArray∧H'=H):=by
 refine aU xo ?_
 refine v1 aoE ?_
 exact⟨rfl,rfl⟩
theorem yg(n:Nat)(H:Hp):ag Tryz.prog pS [ptr n,i64 0] H fun v H'=>ap (v= .tuple [.iface 156 (ptr n),i64 0].toArray∧H'=H):=by
 refine aU pU ?_
 refine v1 aoE ?_
 exact⟨rfl,rfl⟩
def WA(kd dd:Int):Prop:=∀ (cap:Int),(0≤cap∧cap≤65536)→∀H:Hp,ag Tryz.prog Jy [IQ kd dd,i64 cap] H fun v H'=>ap (∃t vv I Sn,v= .tuple [.iface t vv,i64 0].toArray∧tN (.iface t vv) I∧I H' Sn (yd cap)∧ai H H'∧∀z,Sn z→H.size≤z)
structure SB where
 n:Nat
 c:Nat
 t:Nat
 tl:Nat
 mp:Nat
def I1(T:Int→Int):Int→Option Value:=fun h=>if T h= -1 then none else some (i64 (T h))
structure eK(H:Hp)(B:SB)(C:Nat→Prop)(w:Nw)(L:List Lk)(T:Int→Int):Prop where
 own:H.own B.n=some [ptr B.c,ptr B.t,.map (some B.mp)]
 cells:CQ H B.c C w
 ck:bW H B.t B.tl L
 HW:mi H B.mp (I1 T)
 len:L.length=w.cs.length
 mY:(B.n≠B.t∧B.n≠B.tl∧B.n≠B.mp)∧(B.t≠B.tl∧B.t≠B.mp)∧B.tl≠B.mp
 out:¬C B.n∧¬C B.t∧¬C B.tl∧¬C B.mp
def SB.S(B:SB)(C:Nat→Prop)(z:Nat):Prop:=C z∨z=B.n∨z=B.t∨z=B.tl∨z=B.mp
section
variable {H H' : Hp} {B : SB} {C V : Nat → Prop} {w w' : Nw} {L L' : List Lk} {T : Int → Int}
theorem eK.slt(h:eK H B C w L T):∀z,B.S C z→z<H.size:=by
 rintro z (hz|rfl|rfl|rfl|rfl)
 ·exact h.cells.slt z hz
 ·exact aE h.own
 ·exact aE h.ck.own
 ·exact aE h.ck.l9
 ·exact h.HW.lt
theorem eK.ext(h:eK H B C w L T)(e:ah V H H')(hd:∀z,B.S C z→¬V z):eK H' B C w L T:=
 ⟨e.own h.own (hd _ (.inr (.inl rfl))),h.cells.ext e (fun x hx=>hd x (.inl hx)),h.ck.ext e (hd _ (.inr (.inr (.inl rfl)))) (hd _ (.inr (by omega))),
  h.HW.ext e (hd _ (.inr (by omega))),h.len,h.mY,h.out⟩
theorem eK.fresh(h:eK H B C w L T)(e:ai H H'):eK H' B C w L T:=h.ext e fun _ _ h=>h
theorem eK.aC(h:eK H B C w L T)(c1:CQ H' B.c C w')(e:ah C H H')(hl:w'.cs.length=w.cs.length):eK H' B C w' L T:=by
 obtain⟨o1,o2,o3,o4⟩:=h.out
 exact⟨e.own h.own o1,c1,h.ck.ext e o2 o3,h.HW.ext e o4,by rw[hl];exact h.len,h.mY,h.out⟩
theorem eK.dS(h:eK H B C w L T)(t1:bW H' B.t B.tl L')(e:ah (fun z=>z=B.tl) H H')(hl:L'.length=L.length):eK H' B C w L' T:=by
 obtain⟨o1,o2,o3,o4⟩:=h.out
 obtain⟨⟨d1,d2,d3⟩,⟨d4,d5⟩,d6⟩:=h.mY
 exact⟨e.own h.own d2,h.cells.ext e (by grind),t1,h.HW.ext e (Ne.symm d6),by rw[hl];exact h.len,h.mY,h.out⟩
theorem eK.fR(h:eK H B C w L T){T':Int→Int}(t1:mi H' B.mp (I1 T'))(e:ah (fun z=>z=B.mp) H H'):eK H' B C w L T':=by
 obtain⟨o1,o2,o3,o4⟩:=h.out
 obtain⟨⟨d1,d2,d3⟩,⟨d4,d5⟩,d6⟩:=h.mY
 exact⟨e.own h.own d3,h.cells.ext e (by grind),h.ck.ext e d5 d6,t1,h.len,h.mY,h.out⟩
theorem Tl(T:Int→Int)(h x:Int):(x= -1→I1 (cR T h x)=NU (I1 T) h)∧(x≠ -1→I1 (cR T h x)=Kh (I1 T) h (i64 x)):=by
 constructor
 ·rintro rfl
  funext y
  unfold I1 cR NU
  grind
 ·intro hx
  funext y
  unfold I1 cR Kh
  grind
theorem fC(h:eK H B C w L T)(g:Int):ag Tryz.prog Bj [ptr B.n,i64 g] H fun v H'=>ap (v=i64 (T g)∧H'=H):=by
 refine aU BK ?_
 refine v2 (ae h.own) h.HW.look ?_
 unfold I1
 by_cases hg:T g= -1
 ·rw[if_pos hg,hg]
  refine vs ?_
  exact⟨rfl,rfl⟩
 ·rw[if_neg hg]
  refine vs ?_
  exact⟨rfl,rfl⟩
theorem fD(h:eK H B C w L T)(g x:Int):ag Tryz.prog Bh [ptr B.n,i64 g,i64 x] H fun v H'=>ap (eK H' B C w L (cR T g x)∧ah (fun z=>z=B.mp) H H'):=by
 obtain⟨h1,h2⟩:=Tl T g x
 refine aU BI ?_
 refine vs ?_
 refine ar.dec (fun hx=>?_) (fun hx=>?_)<;>refine v1 (ae h.own) ?_
 ·refine h.HW.del fun H1 t1 e1=>?_
  rw[←h1 hx]at t1
  refine vs ?_
  exact⟨h.fR t1 e1,e1⟩
 ·refine h.HW.upd fun H1 t1 e1=>?_
  rw[←h2 hx]at t1
  refine vs ?_
  exact⟨h.fR t1 e1,e1⟩
theorem MY{x a:Int}{b:Bool}(he:gQ x= .tuple [i64 a,.bool b].toArray):(b=false∧x= -1)∨(b=true∧a=x∧x≠ -1):=by
 have h2:∀ {p q:Int} {r s:Bool},Value.tuple [i64 p,Value.bool r].toArray=Value.tuple [i64 q,Value.bool s].toArray→p=q∧r=s:=by grind
 unfold gQ at he
 grind
theorem mE(h:eK H B C w L T)(hb:Bt (aF w) (aP w) (bh L) (br L)){x a:Int}{b:Bool}(he:gQ x= .tuple [i64 a,.bool b].toArray):
  ag Tryz.prog Bl [ptr B.n,i64 a,.bool b] H fun v H'=>ap (v=i64 x∧∃L',eK H' B C w L' T∧bh L'=jm (bh L) (br L) x∧br L'=dh (br L) x∧ah (fun z=>z=B.tl) H H'):=by
 refine aU BL ?_
 refine vs ?_
 rcases MY he with ⟨rfl,rfl⟩| ⟨rfl,rfl,hx⟩
 ·refine vs ?_
  obtain⟨h1,h2⟩:=AC hb
  exact⟨rfl,L,h,h1.symm,h2.symm,ah.refl _ _⟩
 ·refine v1 (ae h.own) ?_
  refine(cK h.ck (x:=a) (fun hu=>by have:=BV.up hb hu;have:=h.len;omega)).mono ?_
  rintro _ H1 ⟨rfl,L1,t1,l1,k1,u1,e1⟩
  refine vs ?_
  exact⟨rfl,L1,h.dS t1 e1 l1,k1,u1,e1⟩
theorem iz(h:eK H B C w L T){g a0 b0:Int}{R:Int→Prop}(m:Mg (aF w) (aP w) g R (bh L) (br L) [] a0 b0):
  ag Tryz.prog Bi [ptr B.n,i64 a0,i64 b0] H fun v H'=>ap (∃r L',v=i64 r∧eK H' B C w L' T∧Mg (aF w) (aP w) g R (bh L') (br L') [] r (-1)∧
   (∀x0,rR (aP w) (bh L) (br L) x0 (bh L) (br L) [] a0 b0→rR (aP w) (bh L) (br L) x0 (bh L') (br L') [] r (-1))∧ah (fun z=>C z∨z=B.tl) H H'):=by
 refine aU BJ ?_
 refine vs ?_
 have sT:=h.cells.CI
 refine bX.intro (fun mm env H'=>∃ (a b:Int) (dY:List Int) (wv:Value) (fp:Option Nat) (L':List Lk),mm=w.cs.length - dY.length∧eK H' B C w L' T∧Mg (aF w) (aP w) g R (bh L') (br L') dY a b∧
  (∀x0,rR (aP w) (bh L) (br L) x0 (bh L) (br L) [] a0 b0→rR (aP w) (bh L) (br L) x0 (bh L') (br L') dY a b)∧
  (∀z,fp=some z→H.size≤z)∧Sl H' 1 wv dY.length (dY.map i64) fp∧ah (fun z=>C z∨z=B.tl∨H.size≤z) H H'∧
  env=[(0,ptr B.n),(1,i64 a),(2,i64 b),(7,wv)]) _ ⟨a0,b0,[],_,none,L,rfl,h,m,(fun _ h=>h),by grind,Sl.nil _ _,ah.refl _ _,rfl⟩ ?_
 rintro mm env H1 ⟨a,b,dY,wv,fp,L1,rfl,l1,m1,f1,jg,s1,e1,rfl⟩
 have z1:=e1.size
 clear m
 refine vs ?_
 refine ar.dec (fun ga=>?A) (fun ga=>?_)<;>refine vs ?_
 rotate_left
 refine ar.dec (fun gb=>?B) (fun gb=>?_)<;>refine vs ?_
 rotate_left
 ·have o1:=l1.own
  refine v1 (ae o1) ?_
  refine(cA l1.cells b a).mono ?_
  rintro _ H2 ⟨rfl,c2,e2⟩
  have l2:=l1.aC c2 e2 rfl
  have s2:=s1.ext e2 (fun z hz jH=>by have:=jg z hz;have:=h.slt z (.inl jH);omega)
  have z2:=e2.size
  have ha:=m1.wa.resolve_left ga
  have hb:=m1.wb.resolve_left gb
  have eJ:=gw (w:=w) (a:=b) (b:=a) (by rw[hb.1];exact m1.pos) (by rw[ha.1];exact m1.pos)
  have bN:a≠b:=fun e=>ga (m1.ab e)
  rw[eJ]
  obtain⟨p,q,T6,hl,gp,gq,mm,fm⟩:∃p q,(if aP w b a=true then(p=b∧q=a)else(p=a∧q=b))∧aP w p q=true∧p≠ -1∧q≠ -1∧Mg (aF w) (aP w) g R (bh L1) (br L1) dY p q∧
    (∀x0,rR (aP w) (bh L) (br L) x0 (bh L) (br L) [] a0 b0→rR (aP w) (bh L) (br L) x0 (bh L1) (br L1) dY p q):=by
   cases bf:aP w b a
   ·exact⟨a,b,by simp,by grind [aP,Nw.key,Nw.seq],ga,gb,m1,f1⟩
   ·exact⟨b,a,by simp,bf,gb,ga,m1.swap,fun x0 h0=>(f1 x0 h0).swap⟩
  have Qg:0<aF w p:=by rw[(mm.wa.resolve_left gp).1];exact mm.pos
  obtain⟨p0,p1,_⟩:=aG Qg
  have m3:=mm.RX (aw w) gp gq hl
  have f3:=fun x0 h0=>(fm x0 h0).down (aw w) mm.bt gp
  have wl:(dY++[p]).length≤w.cs.length:=cu (m3.nodup (aw w)) fun x hx=>by
   have PN:=(m3.wy x hx).2.1
   have Uf:=m3.pos
   obtain⟨x0,x1,_⟩:=aG (w:=w) (x:=x) (by omega)
   omega
  rw[aos,aoV]at wl
  cases bf:aP w b a<;>simp only[bf,if_true,if_false,ao6]at T6<;>obtain⟨rfl,rfl⟩:=T6<;>refine vs ?_
  all_goals
   refine Ee (B:=H.size) jg (by omega) s2 p (by omega) fun w' H3 di mC s3 e3=>?_
   refine vs ?_
   have l3:=l2.ext e3 (fun z hz jH=>by have:=h.slt z hz;omega)
   have o3:=l3.own
   refine v1 (ae o3) ?_
   refine(cG l3.ck p).mono ?_
   rintro _ H' ⟨rfl,e⟩
   obtain rfl:=e.symm
   obtain⟨k1,k2,ek⟩:=cM (bh L1 p true)
   rw[ek]
   refine vs ?_
   refine(mE l3 mm.bt ek).mono ?_
   rintro _ H4 ⟨rfl,L4,l4,kk4,uu4,e4⟩
   have s4:=s3.ext e4 (fun z hz jH=>by have:=mC z hz;have:=h.slt B.tl (.inr (by omega));omega)
   refine vs ?_
   refine⟨w.cs.length - (dY.length+1),by omega,bh L1 p true,q,dY++[p],w',di,L4,by simp,l4,?_,?_,mC,s4,((e1.trans (e2.mono (by grind))).trans (e3.mono (by omega))).trans (e4.mono (by omega)),rfl⟩
   ·grind
   grind
 case' A=>
  have m2:Mg (aF w) (aP w) g R (bh L1) (br L1) dY b (-1):=ga▸m1.swap
  have f2:=fun x0 (h0:rR (aP w) (bh L) (br L) x0 (bh L) (br L) [] a0 b0)=>(f1 x0 h0).swap
  rw[ga]at f2
  have hr:(if b>a then b else a)=b:=by
   rcases m1.wb with h|h
   ·omega
   ·have hp:=m1.pos
    obtain⟨_,_⟩:=aG (w:=w) (x:=b) (by omega)
    omega
  rw[hr]
  clear hr
  generalize b=r at m2 f2
 case' B=>
  have m2:Mg (aF w) (aP w) g R (bh L1) (br L1) dY a (-1):=gb▸m1
  have f2:=f1
  rw[gb]at f2
  have hr:(if b>a then b else a)=a:=by
   rcases m1.wa with h|h
   ·omega
   ·have hp:=m1.pos
    obtain⟨_,_⟩:=aG (w:=w) (x:=a) (by omega)
    omega
  rw[hr]
  clear hr
  generalize a=r at m2 f2
 all_goals
  obtain⟨wa,wc,rfl⟩:=Sl.shape s1
  refine vs ?_
  have wl:dY.length≤w.cs.length:=cu (m2.nodup (aw w)) fun x hx=>by
   have PN:=(m2.wy x hx).2.1
   have Uf:=m2.pos
   obtain⟨x0,x1,_⟩:=aG (w:=w) (x:=x) (by omega)
   omega
  refine bX.intro (fun mm env H'=>∃ (i:Nat) (r:Int) (L':List Lk),mm=i∧i≤dY.length∧eK H' B C w L' T∧Mg (aF w) (aP w) g R (bh L') (br L') (dY.take i) r (-1)∧
   (∀x0,rR (aP w) (bh L) (br L) x0 (bh L) (br L) [] a0 b0→rR (aP w) (bh L) (br L) x0 (bh L') (br L') (dY.take i) r (-1))∧
   Sl H' 1 (.slice wa dY.length wc) dY.length (dY.map i64) fp∧ah (fun z=>C z∨z=B.tl∨H.size≤z) H H'∧
   env=[(0,ptr B.n),(7,.slice wa dY.length wc),(8,i64 r),(9,i64 ((i:Int) - 1))]) _ ⟨dY.length,r,L1,rfl,aox _,l1,by grind,by grind,s1,e1,?_⟩ ?_
  ·grind [wrap64]
  rintro mm env H2 ⟨i,r2,L2,hmi,hi,l2,m3,f3,s2,e2,rfl⟩
  obtain rfl:=hmi.symm
  refine vs ?_
  refine ar.dec (fun gi=>?_) (fun gi=>?_)<;>refine vs ?_
  rotate_left
  ·obtain rfl:i=0:=by omega
   exact⟨r2,L2,rfl,l2,by grind,by grind,e2.mono (by grind)⟩
  obtain⟨j,rfl⟩:∃j,i=j+1:=⟨i - 1,by omega⟩
  obtain⟨v,hv⟩:∃v,dY[j]? =some v:=⟨_,aol (by omega)⟩
  have tk:dY.take (j+1)=dY.take j++[v]:=by rw[aoL,hv];rfl
  rw[tk]at m3 f3
  have m4:=m3.back (aw w)
  have f4:=fun x0 h0=>(f3 x0 h0).back
  obtain⟨v1,v2,v3,v4,v5,v6⟩:=m3.wy v (by simp)
  obtain⟨q1,vb,lb,rfl,q2,q3⟩:=Sl.Ab s2 hv
  have hvb:∃b',fp=some b'∧b'=vb:=by
   cases fp with
   |none=>have:=s2.2.2;grind
   |some b'=>obtain⟨_,_,h1,_⟩:=s2.2;grind
  obtain⟨b',rfl,rfl⟩:=hvb
  have hvb:=jg b' rfl
  have XA:0<aF w v:=by rw[v2];exact m3.pos
  obtain⟨ZA,vv1,_⟩:=aG XA
  have ji:((((j+1:Nat):Int) - 1)).toNat=j:=by omega
  refine⟨by omega,?_⟩
  simp(disch:=(first|omega| (simp only[Zs]<;>omega)|fail)) only[go_sem, ↓reduceIte,Zv,ae q2,aoi,aok,ji,q3]
  refine ar.dec (fun gr=>?_) (fun gr=>?_)<;>refine vs ?_
  ·rw[if_pos gr,if_pos gr]at m4
   simp only[if_pos gr]at f4
   have f5:=f4
   have l3:=l2
   have m5:=m4
   have s3:=s2
   have e3:=e2
   simp(disch:=(first|omega| (simp only[Zs]<;>omega)|fail)) only[go_sem, ↓reduceIte,Zv,ae l3.own]
   refine(mB l3.ck (p:=v) ⟨ZA,by have:=l3.len;omega⟩).mono ?_
   rintro _ H4 ⟨rfl,L4,t4,Xz,k4,u4,e4⟩
   have l4:=l3.dS t4 e4 Xz
   refine vs ?_
   refine⟨j,by omega,j,v,L4,rfl,by omega,l4,?_,?_,s3.ext e4 (fun z hz jH=>by injection hz with hz;have:=h.slt B.tl (.inr (by omega));omega),e3.trans (e4.mono (by omega)),?_⟩
   ·rw[k4,u4];exact m5.wT (aw w)
   ·grind [rR.wT]
   grind [wrap64]
  ·rw[if_neg gr,if_neg gr]at m4
   simp only[if_neg gr]at f4
   have JK:=m3.wa.resolve_left gr
   obtain⟨r0,r1,_⟩:=aG (w:=w) (x:=r2) (by omega)
   have bu:=l2.len
   have hvr:v≠r2:=fun e=>by have:=v5 gr;rw[e,(aw w).Lp]at this;grind
   simp(disch:=(first|omega| (simp only[Zs]<;>omega)|fail)) only[go_sem, ↓reduceIte,Zv,ae l2.own]
   refine(fA l2.ck (p:=v) (x:=r2) (c:=true) ⟨ZA,by omega⟩ ⟨r0,by omega⟩ hvr JK.2 v4).mono ?_
   rintro _ H3 ⟨rfl,L3,t3,ll3,kk3,uu3,CJ⟩
   have l3:=l2.dS t3 CJ ll3
   have m5:Mg (aF w) (aP w) g R (bh L3) (br L3) (dY.take j) v (-1):=by rw[kk3,uu3];exact m4
   have f5:=f4
   rw[←kk3,←uu3]at f5
   have nb:b'≠B.tl:=fun e=>by have:=h.slt B.tl (.inr (by omega));omega
   have s3:=s2.ext CJ (by grind)
   have e3:=e2.trans (CJ.mono (by omega))
   refine vs ?_
   simp(disch:=(first|omega| (simp only[Zs]<;>omega)|fail)) only[go_sem, ↓reduceIte,Zv,ae l3.own]
   refine(mB l3.ck (p:=v) (by omega)).mono ?_
   rintro _ H4 ⟨rfl,L4,t4,Xz,k4,u4,e4⟩
   have l4:=l3.dS t4 e4 Xz
   refine vs ?_
   refine⟨j,by omega,j,v,L4,rfl,by omega,l4,?_,?_,s3.ext e4 (by grind),e3.trans (e4.mono (by omega)),?_⟩
   ·rw[k4,u4];exact m5.wT (aw w)
   ·grind [rR.wT]
   grind [wrap64]
end
end Go.Proofs.YtjkkkibiegfecaaGreatDoor
