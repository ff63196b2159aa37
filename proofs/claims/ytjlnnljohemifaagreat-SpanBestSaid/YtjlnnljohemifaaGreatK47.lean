/- Texts put behind each other. -/
import Derived.Test.YtjlnnljohemifaaGreatK98
import Derived.Test.YtjlnnljohemifaaGreatK43
import Derived.Test.YtjlnnljohemifaaGreatK44
import Derived.Test.YtjlnnljohemifaaGreatK46
set_option maxRecDepth 100000
set_option maxHeartbeats 8000000
set_option linter.unusedVariables false
set_option linter.unusedSimpArgs false
namespace Go.Proofs.YtjlnnljohemifaaGreat
open Go Go.Vc
theorem Ux{k s k' s':Int}(h:¬ep k' s' k s):DW k s k' s'≤0:=by
 unfold ep at h
 unfold DW Wo uA
 by_cases h1:k<k'
 ·simp[h1]
 ·by_cases h2:k'<k
  ·exfalso;omega
  ·by_cases h3:s<s'
   ·simp[h1,h2,h3]
   ·by_cases h4:s'<s
    ·exfalso;omega
    ·simp[h1,h2,h3,h4]
theorem Uy{s t:Int}(h:s≤t):DW (mG s).1 (mG s).2 (mG t).1 (mG t).2≤0:=Ux (by unfold ep mG;simp only;omega)
def vE(es:List Ed)(l:List Int):List Int:=l.filter fun i=>decide (0≤i∧i<es.length)
theorem NH{es:List Ed}{l:List Int}{i:Int}:i∈vE es l↔i∈l∧PP es i:=by
 unfold vE
 rw[aop]
 simp only[anU]
 exact Iff.rfl
theorem Uz{es:List Ed}{l:List Int}{k:Nat}{i:Int}(h:l[k]? =some i):vE es (l.take (k+1))=vE es (l.take k)++if 0≤i∧i<es.length then[i]else[]:=by
 unfold vE
 rw[aoa,h,apd]
 simp only[Option.toList_some,aoC,List.filter_nil,anU]
theorem xm{Hh:Hp}{v0 v1 v2:Value}(h0:Cm Hh (true,[.k (.i .i64),.k (.i .i64)]) v0)(h1:Cm Hh (true,[.k (.i .i64),.sl [.i .i64,.i .i64,.i .i64]]) v1)(h2:Cm Hh (false,[.sl [.i .i64]]) v2):af Tryz.prog BS [v0,v1,v2] Hh fun v H'=>aw (v= .bool true∧ai Hh H'):=by
 obtain⟨kd,dd,rfl⟩:=NE h0
 obtain⟨n,es,a,c,rfl,hr,Yt,XA,hn,Tz⟩:=ND h1
 obtain⟨od,oa,oc,rfl,ho,hom,_⟩:=LS h2
 clear h0 h1 h2
 have hw:∀e∈es, -9223372036854775808≤e.w∧e.w≤9223372036854775807:=fun e he=>(Tz e he).2.2
 refine bm B4 ?_
 simp(disch:=(first|omega| (simp only[Zs]<;>omega)|fail)) only[go_sem, ↓reduceIte,Zv,F8]
 have f0:ai Hh (Hh.new 23 [i64 kd,i64 dd]):=(ag.refl _ _).new _ _
 have a0:(Hh.new 23 [i64 kd,i64 dd]).own Hh.size=some [i64 kd,i64 dd]:=aB _ _ _
 have z0:(Hh.new 23 [i64 kd,i64 dd]).size=Hh.size+1:=aq _ _ _
 generalize Hh.new 23 [i64 kd,i64 dd]=H0 at*
 have f1:ai H0 (H0.new 52 [i64 n,.slice a es.length c]):=(ag.refl _ _).new _ _
 have b1:(H0.new 52 [i64 n,.slice a es.length c]).own H0.size=some [i64 n,.slice a es.length c]:=aB _ _ _
 have a1:=f1.own a0 (fun h=>h)
 rw[z0]at b1
 generalize H0.new 52 [i64 n,.slice a es.length c]=H1 at*
 refine(uV H1).mono ?_
 rintro _ H2 ⟨rfl,f2⟩
 have g2:=(f0.trans f1).trans f2
 have a2:=f2.own a1 (fun h=>h)
 have b2:=f2.own b1 (fun h=>h)
 refine v1 (ae b2) ?_
 refine(C2 H2 n a es.length c).mono ?_
 rintro _ H3 ⟨rfl,f3⟩
 have g3:=g2.trans f3
 have a3:=f3.own a2 (fun h=>h)
 have b3:=f3.own b2 (fun h=>h)
 refine vs ?_
 refine am.dec (fun c1=>?_) (fun c1=>?_)<;>refine v2 (ae a3) (ae b3) ?_
 ·exact⟨rfl,g3⟩
 refine(FO kd dd H3).mono ?_
 rintro _ H4 ⟨rfl,f4⟩
 have g4:=g3.trans f4
 have a4:=f4.own a3 (fun h=>h)
 have b4:=f4.own b3 (fun h=>h)
 refine vs ?_
 refine am.dec (fun c2=>?_) (fun c2=>?_)<;>refine v1 (ae b4) ?_
 rotate_left
 ·exact⟨rfl,g4⟩
 have hK:=Lu.1 c2
 refine(CN (n:=n) (hr.fresh g4) (by omega)).mono ?_
 rintro _ H5 ⟨rfl,f5⟩
 have g5:=g4.trans f5
 have a5:=f5.own a4 (fun h=>h)
 have b5:=f5.own b4 (fun h=>h)
 by_cases hR:dJ n es=true
 rotate_left
 ·rw[show dJ n es=false by simpa using hR]
  refine v1 ao8 ?_
  exact⟨rfl,g5⟩
 rw[hR]
 have qB:=(fQ n es).1 hR
 have L0:=qB.n0
 have xM:=qB.n1
 refine v1 api ?_
 refine am.dec (fun c3=>?_) (fun c3=>?_)<;>refine v2 (ae a5) (ae b5) ?_
 ·exact⟨rfl,g5⟩
 refine(uU kd dd (fun h=>LP h) (n:=n) (hr.fresh g5) (by omega)).mono ?_
 rintro v4 H6 ⟨f6,⟨bK,_⟩| ⟨_,bK,_⟩| ⟨_,_,T,sv,fp,rfl,s6,gu,Gw,NF,hpw⟩⟩
 ·exact absurd hK bK
 ·rw[hR]at bK;cases bK
 have g6:=g5.trans f6
 have b6:=f6.own b5 (fun h=>h)
 obtain⟨sa,sc,rfl,hsc⟩:=dD s6
 refine v1 aoi ?_
 have hT6:∀b,fp=some b→b<H6.size:=fun b hb=>by rw[hb]at s6;exact Sl.lt s6
 have amb:=aA b6
 have fo:ai H6 (H6.new 3 []):=(ag.refl _ _).new _ _
 have so:Sl (H6.new 3 []) 1 (.slice (some ⟨H6.size,0,none⟩) 0 0) (([]:List Int)).length (([]:List Int).map i64) (some H6.size):=Sl.cf (size:=1) (n:=0) (xs:=[]) rfl rfl
 have b7:=fo.own b6 (fun h=>h)
 have s7:=s6.ext fo (fun _ _ h=>h)
 have g7:=g6.trans fo
 have zo:(H6.new 3 []).size=H6.size+1:=aq _ _ _
 generalize hob:H6.size=ob at*
 generalize H6.new 3 []=H7 at*
 have hgb:=aA b7
 have hz6:=g6.size
 refine jX.intro (fun H'=>H'.own (Hh.size+1)=some [i64 n,.slice a es.length c]) b7 ?_
 refine vs ?_
 refine fV.intro (F8 n (.slice a es.length c)) (fun H' hI=>by refine v1 (ae hI) ?_;exact⟨rfl,trivial⟩) ?_
 refine vs ?_
 have fl:ai H7 (H7.new 3 []):=(ag.refl _ _).new _ _
 have l8:Sl (H7.new 3 []) 1 (.slice (some ⟨H7.size,0,none⟩) 0 0) (([]:List Int)).length (([]:List Int).map i64) (some H7.size):=Sl.cf (size:=1) (n:=0) (xs:=[]) rfl rfl
 have b8:=fl.own b7 (fun h=>h)
 have z8:(H7.new 3 []).size=H7.size+1:=aq _ _ _
 have g8:=g7.trans fl
 generalize Dc:H7.size=lb at*
 generalize H7.new 3 []=H8 at*
 refine And.intro b7 ?_
 refine vs ?_
 refine UZ (B:=lb) (fun b hb=>by injection hb with hb;omega) (by omega) l8 (ho.fresh g8) (by simp;omega) ?_
 intro w9 H9 fp9 hf9 s9 e9
 rw[aoB]at s9
 have b9:=e9.own b8 (fun h=>by omega)
 have g9:=g8.then e9 (fun z hz=>by omega)
 have so9:=(so.ext fl (fun _ _ h=>h)).ext e9 (fun b hb h=>by injection hb with hb;omega)
 have t9:=(s7.ext fl (fun _ _ h=>h)).ext e9 (fun b hb h=>by have:=s7;rw[hb]at this;have:=Sl.lt this;omega)
 obtain⟨wa,wc,rfl,_⟩:=dD s9
 refine And.intro b9 ?_
 refine vs ?_
 refine(Gj (n:=n) (a:=a) (c:=c) (k:=es.length) (by omega)).mono ?_
 rintro _ H10 ⟨f10,ab,zI,s10⟩
 obtain⟨qa,qc,rfl,_⟩:=dD s10
 have b10:=f10.own b9 (fun h=>h)
 have g10:=g9.trans f10
 refine And.intro b10 ?_
 refine vs ?_
 refine UZ (B:=lb) hf9 (by have:=e9.size;have:=f10.size;omega) (s9.ext f10 (fun _ _ h=>h)) s10.rd (by rw[Bj];omega) ?_
 intro w11 H11 XG agK s11 Vs
 have Zb:=Vs.own b10 (fun h=>by omega)
 have g11:=g10.then Vs (fun z hz=>by omega)
 have abY:=(so9.ext f10 (fun _ _ h=>h)).ext Vs (fun b hb h=>by injection hb with hb;omega)
 have t11:=(t9.ext f10 (fun _ _ h=>h)).ext Vs (fun b hb h=>by have:=s7;rw[hb]at this;have:=Sl.lt this;omega)
 obtain⟨ua,uc,rfl,_⟩:=dD s11
 refine And.intro Zb ?_
 refine vs ?_
 obtain⟨LL,hLL⟩:∃LL,LL=od++allI es.length:=⟨_,rfl⟩
 rw[←hLL]at s11 ⊢
 have hLl:LL.length≤1000:=by rw[hLL,anD,Bj];omega
 have Uj:∀k,(∀i∈c7 (fE es) (vE es (LL.take k)),PP es i):=fun k i hi=>(NH.1 ((BH (e:=fE es) _).2.1 i hi)).2
 have hks:∀k,(c7 (fE es) (vE es (LL.take k))).length≤n.toNat:=fun k=>nM qB (BH (e:=fE es) _).1 (fun i hi=>oS.2 (Uj k i hi))
 refine bk.intro (fun mm env H'=>ai Hh H'∧H'.own (Hh.size+1)=some [i64 n,.slice a es.length c]∧∃ (k:Nat) (w:Value) (b:Nat),mm=LL.length - k∧k≤LL.length∧ob≤b∧XG≠some b∧Sl H' 1 w (c7 (fE es) (vE es (LL.take k))).length ((c7 (fE es) (vE es (LL.take k))).map i64) (some b)∧Sl H' 1 (.slice ua LL.length uc) LL.length (LL.map i64) XG∧Sl H' 1 (.slice sa T.length sc) T.length (T.map i64) fp∧
  env=[(4,ptr (Hh.size+1)),(7,.slice sa T.length sc),(9,w),(50,.slice ua LL.length uc),(51,i64 LL.length),(52,i64 k)]) LL.length ⟨g11,Zb,0,_,ob,rfl,ao2 _,anG _,(fun h=>by have:=agK _ h;omega),abY,s11,t11,rfl⟩ ?_
 clear Zb abY s11 t11 g11 Vs b10 g10 s10 f10 b9 g9 so9 t9 s9 e9 b8 g8 l8 fl b7 so s7 g7 fo b6 g6 s6 f6
 rintro mm env XC ⟨g12,QF,k,w,b,rfl,hk,XH,SS,HQ,XI,t12,rfl⟩
 have hgz:=aA QF
 refine vs ?_
 refine am.dec (fun aO=>?_) (fun aO=>?_)<;>refine vs ?_
 ·obtain⟨i,hi⟩:∃i,LL[k]? =some i:=⟨_,ans (by omega)⟩
  obtain⟨_,Ve,lo',ll,rfl,fA,Tr⟩:=dc.num XI.rd hi
  have hvt:=Uz (es:=es) hi
  have stay:¬ (0≤i∧i<es.length)→c7 (fE es) (vE es (LL.take (k+1)))=c7 (fE es) (vE es (LL.take k)):=fun h=>by rw[hvt,if_neg h,aon]
  refine⟨⟨by omega,by omega⟩,?_⟩
  refine v4 fA Int.toNat_natCast anw Tr ?_
  refine am.dec (fun i1=>?_) (fun i1=>?_)<;>refine v1 (ae QF) ?_
  ·rw[wrap64 (n:=(k:Int)+1) (by omega) (by omega)]
   exact⟨LL.length - (k+1),by omega,g12,QF,k+1,w,b,rfl,by omega,XH,SS,by rw[stay (by omega)];exact HQ,XI,t12,rfl⟩
  refine am.dec (fun i2=>?_) (fun i2=>?_)<;>refine v1 (ae QF) ?_
  ·rw[wrap64 (n:=(k:Int)+1) (by omega) (by omega)]
   exact⟨LL.length - (k+1),by omega,g12,QF,k+1,w,b,rfl,by omega,XH,SS,by rw[stay (by omega)];exact HQ,XI,t12,rfl⟩
  have bJ:PP es i:=⟨by omega,by omega⟩
  obtain⟨ik,e,rfl,he,oZ⟩:=bJ.get
  obtain⟨ef0,ef1,et0,et1⟩:=qB.ends e (anz he)
  obtain⟨wa2,wc2,rfl,_⟩:=dD HQ
  refine(C0 (n:=n) (hr.fresh g12) HQ.rd qB (Uj k) (by have:=hks k;omega)).mono ?_
  rintro pv H13 ⟨f13,pb,Og,s13⟩
  have Uv:=f13.own QF (fun h=>h)
  have g13:=g12.trans f13
  obtain⟨_,be,oe,le,rfl,Sw,oY,fR,hd0,QR,jv⟩:=dc.Cz (hr.fresh g13) he
  obtain⟨pa,pc,rfl,_⟩:=dD s13
  obtain⟨_,rfl,lw,Ul,hw1⟩:=Sl.num s13 (vy ((c7 (fE es) (vE es (LL.take k))).map (fE es)) (v:=e.f.toNat) (by omega))
  obtain⟨_,_,lw',JO,Er⟩:=Sl.num s13 (vy ((c7 (fE es) (vE es (LL.take k))).map (fE es)) (v:=e.t.toNat) (by omega))
  rw[Ul]at JO
  injection JO with JO
  subst JO
  refine v1 (ae Uv) ?_
  refine⟨⟨by omega,by omega⟩,?_⟩
  refine v4 Sw Int.toNat_natCast Nat.add_zero hd0 ?_
  refine⟨⟨by omega,by omega⟩,?_⟩
  refine v5 (ae Ul) anw ant hw1 (ae Uv) ?_
  refine⟨⟨by omega,by omega⟩,?_⟩
  refine v3 Sw Int.toNat_natCast QR ?_
  refine⟨⟨by omega,by omega⟩,?_⟩
  refine v4 (ae Ul) anw ant Er ?_
  have Vf:=C5 (e:=fE es) (vE es (LL.take k)) (ik:Int)
  rw[if_pos (by omega)]at hvt
  rw[←hvt,F9 he]at Vf
  refine am.dec (fun hh=>?_) (fun hh=>?_)<;>refine vs ?_
  ·rw[wrap64 (n:=(k:Int)+1) (by omega) (by omega)]
   have hH:bH ((c7 (fE es) (vE es (LL.take k))).map (fE es)) e.f.toNat e.t.toNat:=by
    show aF _ _=aF _ _
    omega
   rw[if_pos hH]at Vf
   exact⟨LL.length - (k+1),by omega,g13,Uv,k+1,_,b,rfl,by omega,XH,SS,by rw[Vf];exact HQ.ext f13 (fun _ _ h=>h),XI.ext f13 (fun _ _ h=>h),t12.ext f13 (fun _ _ h=>h),rfl⟩
  ·have hH:¬bH ((c7 (fE es) (vE es (LL.take k))).map (fE es)) e.f.toNat e.t.toNat:=fun hH=>hh (by
    have:aF _ _=aF _ _:=hH
    omega)
   rw[if_neg hH]at Vf
   have U5:=HQ.lt
   have amf:=f13.size
   refine Of (HQ.ext f13 (fun _ _ h=>h)) _ (by have:=hks k;omega) ?_
   intro w' H' b' jy s' e'
   have n1:XG≠some b':=fun h=>by
    rcases jy with rfl|jy
    ·exact SS h
    ·rw[h]at XI;have:=Sl.lt XI;omega
   refine vs ?_
   rw[wrap64 (n:=(k:Int)+1) (by omega) (by omega)]
   refine⟨LL.length - (k+1),by omega,g13.then e' (fun z hz=>by omega),e'.own Uv (fun h=>by omega),k+1,w',b',rfl,by omega,by omega,n1,by rw[Vf];exact s',(XI.ext f13 (fun _ _ h=>h)).ext e' (fun z hz h=>SS (by rw[hz,h])),(t12.ext f13 (fun _ _ h=>h)).ext e' (fun z hz h=>by have:=hT6 z hz;omega),rfl⟩
 have C6:k=LL.length:=by omega
 subst C6
 rw[an4]at HQ
 have hG:=LJ n (es:=es) (L:=vE es LL) (fun i hi=>(NH.1 hi).2) (fun i hi=>NH.2 ⟨by rw[hLL];exact aoq _ hi,oS.1 hi⟩)
 have hGl:=nM qB hG.xV hG.sub
 have hTl:=nM qB Gw.xV Gw.sub
 obtain⟨wa2,wc2,rfl,_⟩:=dD HQ
 refine v1 (ae QF) ?_
 refine(qv (n:=n) (hr.fresh g12) t12.rd hR Gw.ins (by omega) hw (by omega)).mono ?_
 rintro _ H13 ⟨rfl,f13⟩
 have Uv:=f13.own QF (fun h=>h)
 have g13:=g12.trans f13
 simp(disch:=(first|omega| (simp only[Zs]<;>omega)|fail)) only[go_sem, ↓reduceIte,Zv,LR]
 obtain⟨f14,r14,z14⟩:=Lq H13 36 [i64 0,u64 0] [i64 (mG (T.map (wE es)).sum).1,u64 ((mG (T.map (wE es)).sum).2:Int)]
 generalize Vv:H13.size=rb at*
 generalize (H13.new 36 [i64 0,u64 0]).wr rb [i64 (mG (T.map (wE es)).sum).1,u64 ((mG (T.map (wE es)).sum).2:Int)]=Zd at*
 have b14:=f14.own Uv (fun h=>h)
 have g14:=g13.trans f14
 refine v1 (ae b14) ?_
 refine(qv (n:=n) (hr.fresh g14) ((HQ.ext f13 (fun _ _ h=>h)).ext f14 (fun _ _ h=>h)).rd hR hG.ins (by omega) hw (by omega)).mono ?_
 rintro _ H15 ⟨rfl,f15⟩
 have r15:=f15.own r14 (fun h=>h)
 have g15:=g14.trans f15
 simp(disch:=(first|omega| (simp only[Zs]<;>omega)|fail)) only[go_sem, ↓reduceIte,Zv,LR]
 obtain⟨f16,q16,z16⟩:=Lq H15 36 [i64 0,u64 0] [i64 (mG ((c7 (fE es) (vE es LL)).map (wE es)).sum).1,u64 ((mG ((c7 (fE es) (vE es LL)).map (wE es)).sum).2:Int)]
 generalize hqb:H15.size=qb at*
 generalize (H15.new 36 [i64 0,u64 0]).wr qb [i64 (mG ((c7 (fE es) (vE es LL)).map (wE es)).sum).1,u64 ((mG ((c7 (fE es) (vE es LL)).map (wE es)).sum).2:Int)]=H16 at*
 have r16:=f16.own r15 (fun h=>h)
 have g16:=g15.trans f16
 refine am.cF (anI (anP _ (Gw.Sa qB hG))) ?_
 refine v2 (ae r16) (ae q16) ?_
 refine(zy (mG (T.map (wE es)).sum) (mG ((c7 (fE es) (vE es LL)).map (wE es)).sum) H16).mono ?_
 rintro _ H17 ⟨rfl,f17⟩
 have hc:=Uy (Gw.bQ qB NF hG)
 refine vs ?_
 exact⟨anP Value.bool (anI hc),g16.trans f17⟩
end Go.Proofs.YtjlnnljohemifaaGreat
