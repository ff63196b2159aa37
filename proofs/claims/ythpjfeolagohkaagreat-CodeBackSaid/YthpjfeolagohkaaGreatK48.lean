/- Texts put behind each other. -/
import Derived.Test.YthpjfeolagohkaaGreatK98
import Derived.Test.YthpjfeolagohkaaGreatK0
import Derived.Test.YthpjfeolagohkaaGreatK19
import Derived.Test.YthpjfeolagohkaaGreatK37
import Derived.Test.YthpjfeolagohkaaGreatK43
import Derived.Test.YthpjfeolagohkaaGreatK45
import Derived.Test.YthpjfeolagohkaaGreatK46
import Derived.Test.YthpjfeolagohkaaGreatK47
set_option maxRecDepth 100000
set_option maxHeartbeats 8000000
set_option linter.unusedVariables false
set_option linter.unusedSimpArgs false
namespace Go.Proofs.YthpjfeolagohkaaGreat
open Go Go.Vc
theorem Mw{ws:List Int}(h:gG ws)(hl:ws.length≤128):∀x∈kQ ws,1≤x∧x≤128:=by
 have h1:=h.n1
 intro x hx
 refine⟨(VA h x hx).1,?_⟩
 unfold kQ at hx
 split at hx
 ·have:x=1:=by simpa using hx
  omega
 ·obtain⟨n,hn,rfl⟩:=ao8.1 hx
  have:=Jc h1 n hn
  omega
theorem I6{ws:List Int}(h:gG ws)(hl:ws.length≤128):ve (kQ ws):=
 ⟨Mw h hl,by rw[Bu];exact⟨h.n1,h.n2⟩,(VC h (Pg (Mw h hl))).1⟩
theorem TH{ws:List (List Bool)}:∀ (out:List Nat) (Y3:List Bool),MC ws out→Y3.length+(bitsOf ws out).length≤1048576→JP ws (nK out) Y3=some (Y3++bitsOf ws out):=by
 intro out
 induction out with
 |nil=>intro Y3 _ _;show some Y3=_;simp[bitsOf]
 |cons s r ih=>
  intro Y3 bE hl
  have hs:s<ws.length:=bE s (by simp)
  rw[dQ]at hl ⊢
  rw[aoy]at hl
  show JP ws ((s:Int)::nK r) Y3=_
  rw[Do,if_neg (by rw[Int.toNat_natCast];omega),Int.toNat_natCast,ih _ (fun t ht=>bE t (apd _ ht)) (by rw[aoy];omega),apk]
theorem GN{H:Hp}{kd dd:Int}(hK:kM kd dd)(BQ:kM kd dd→Pb kd dd){a:Option Addr}{c:Nat}{ws:List Int}(h:cK H 1 (.slice a ws.length c) ws.length (ws.map i64))(hb:∀x∈ws,x≤9223372036854775807)(hF:gG ws)(hl:ws.length≤128):
  af Tryz.prog Ln [Mb kd dd,.slice a ws.length c] H fun v H'=>ar (am H H'∧∃x S,v= .tuple [ptr x,i64 0].toArray∧sf H' x S (lB (kQ ws))∧∀z,S z→H.size≤z):=by
 refine aZ Lt ?_
 refine vs ?_
 have f0:am H (H.new 23 [i64 kd,i64 dd]):=(ag.refl _ _).new _ _
 have o0:(H.new 23 [i64 kd,i64 dd]).own H.size=some [i64 kd,i64 dd]:=aD _ _ _
 generalize H.new 23 [i64 kd,i64 dd]=H0 at*
 have hA:Ie kd dd ws=(0,kQ ws):=by unfold Ie;rw[if_neg (by have:=Qv hK;omega),if_pos hF]
 have jx:=Bu ws
 refine v1 (ae o0) ?_
 refine(uY kd dd BQ (h.fresh f0) hb).mono ?_
 rw[hA]
 rintro _ H1 ⟨sv,rfl,⟨a1,c1,rfl,r1⟩,f1⟩
 dsimp only at r1
 refine v1 aoW ?_
 refine(xD r1 (by rw[jx];omega)).mono ?_
 rintro v3 H3 ⟨f3,⟨hn,_⟩| ⟨_,x,S,rfl,cw,hS⟩⟩
 ·exact absurd (I6 hF hl) hn
 have g3:=(f0.trans f1).trans f3
 have hz:=(f0.trans f1).size
 refine vs ?_
 exact⟨g3,x,S,rfl,cw,fun z dP=>by have:=hS z dP;omega⟩
theorem XQ.ahF{ws:List (List Bool)}{bits:List UInt8}{H:Hp}{v:Value}(h:XQ ws bits H v):∃ (ks:List Int) (e:Int) (a:Option Addr) (c:Nat),v= .tuple [.slice a ks.length c,i64 e].toArray∧cK H 1 (.slice a ks.length c) ks.length (ks.map i64)∧
  ((e=0∧∃out:List Nat,ks=nK out∧MC ws out∧(bitsOf ws out).map bt=bits∧bits.length≤1048576)∨(e=201∧ks=[]∧∀out,MC ws out→(bitsOf ws out).map bt=bits→1048576<bits.length)):=by
 rcases h with ⟨out,h1,h2,h3,a,c,rfl,hr⟩| ⟨hn,rfl⟩
 ·refine⟨nK out,0,a,c,?_,?_,.inl ⟨rfl,out,rfl,h1,h2,h3⟩⟩
  ·rw[aoA]
  ·rw[aoA];exact hr
 ·exact⟨[],201,none,0,rfl,⟨rfl,.inl ⟨rfl,_,_,rfl⟩⟩,.inr ⟨rfl,rfl,hn⟩⟩
def BI(n:Nat)(l:List Int):List Nat:=(l.filter fun i:Int=>decide (0≤i∧i< (n:Int))).map Int.toNat
theorem QZ{n:Nat}{l:List Int}{k:Nat}{i:Int}(h:l[k]? =some i):BI n (l.take (k+1))=BI n (l.take k)++if 0≤i∧i<n then[i.toNat]else[]:=by
 unfold BI
 rw[aoM,h,aqo,ao5]
 congr 1
 simp only[Option.toList_some,List.filter_cons,List.filter_nil,ao0]
 split<;>rfl
theorem TI(n:Nat)(l:List Int):(BI n l).length≤l.length:=by
 unfold BI
 rw[aoA]
 exact List.length_filter_le _ _
theorem VD{n:Nat}{l:List Int}:∀s∈BI n l,s<n:=by
 intro s hs
 obtain⟨i,hi,rfl⟩:=ao8.1 hs
 have:=(ap3.1 hi).2
 simp only[ao0]at this
 omega
theorem Ou{ws:List (List Bool)}{m:Nat}(zb:∀w∈ws,w.length≤m):∀out:List Nat,MC ws out→(bitsOf ws out).length≤out.length*m:=by
 intro out
 induction out with
 |nil=>intro _;simp[bitsOf]
 |cons s r ih=>
  intro h
  have h1:=ih fun t ht=>h t (apd _ ht)
  have hs:=h s (by simp)
  have h2:=zb _ (aow (Dr hs))
  rw[dQ,aoy,aoI,apy]
  omega
theorem vD{Hh:Hp}{v0 v1 v2:Value}(h0:DR Hh (true,[.k (.i .i64),.k (.i .i64)]) v0)(h1:DR Hh (false,[.sl [.i .i64]]) v1)(h2:DR Hh (false,[.sl [.i .i64]]) v2):
  af Tryz.prog B7 [v0,v1,v2] Hh fun v H'=>ar (v= .bool true∧am Hh H'):=by
 obtain⟨kd,dd,rfl⟩:=Oe h0
 obtain⟨ws,a,c,rfl,hr,hm,hw⟩:=DK h1
 obtain⟨xs,xa,xc,rfl,hx,UD,_⟩:=DK h2
 clear h0 h1 h2
 have hb:∀x∈ws,x≤9223372036854775807:=fun x hx=>(hw x hx).2
 refine aZ Ck ?_
 refine vs ?_
 have f0:am Hh (Hh.new 23 [i64 kd,i64 dd]):=(ag.refl _ _).new _ _
 have o0:(Hh.new 23 [i64 kd,i64 dd]).own Hh.size=some [i64 kd,i64 dd]:=aD _ _ _
 generalize Hh.new 23 [i64 kd,i64 dd]=H0 at*
 refine(vg H0).mono ?_
 rintro _ H1 ⟨rfl,f1⟩
 have g1:=f0.trans f1
 have o1:=f1.own o0 (fun h=>h)
 refine vs ?_
 refine ai.dec (fun c1=>?_) (fun c1=>?_)<;>refine vs ?_
 ·exact⟨rfl,g1⟩
 refine ai.dec (fun c2=>?_) (fun c2=>?_)<;>refine v1 (ae o1) ?_
 ·exact⟨rfl,g1⟩
 refine(Gd kd dd H1).mono ?_
 rintro _ H2 ⟨rfl,f2⟩
 have g2:=g1.trans f2
 have o2:=f2.own o1 (fun h=>h)
 refine vs ?_
 refine ai.dec (fun c4=>?_) (fun c4=>?_)<;>refine vs ?_
 rotate_left
 ·exact⟨rfl,g2⟩
 have hK:=Mc.1 c4
 refine(Db (hr.fresh g2) hb (by omega)).mono ?_
 rintro _ H2' ⟨rfl,e⟩
 obtain rfl:=e.symm
 refine vs ?_
 by_cases hF:gG ws
 rotate_left
 ·rw[aoK hF]
  refine v1 aoW ?_
  exact⟨rfl,g2⟩
 rw[aoE hF]
 refine v2 aoW (ae o2) ?_
 refine(GN hK (fun h=>Ty h) (hr.fresh g2) hb hF (by omega)).mono ?_
 rintro _ H3 ⟨f3,x,S,rfl,cw,hS⟩
 have g3:=g2.trans f3
 have hR:=I6 hF (by omega)
 obtain⟨TT,hwo,lT⟩:=I5 hR
 have zb:=Ko hR
 rw[Bu]at TT
 generalize lB (kQ ws)=W at*
 simp(disch:=(first|omega| (simp only[Zs]<;>omega)|fail)) only[go_sem, ↓reduceIte,Zv,Option.isNone_some,aoW]
 refine(HN cw).mono ?_
 rintro _ H3' ⟨rfl,e⟩
 obtain rfl:=e.symm
 refine vs ?_
 refine ai.bI (aoE (by omega)) ?_
 refine vs ?_
 have fo:am H3 (H3.new 3 []):=(ag.refl _ _).new _ _
 have so:Sl (H3.new 3 []) 1 (.slice (some ⟨H3.size,0,none⟩) 0 0) (([]:List Int)).length (([]:List Int).map i64) (some H3.size):=Sl.cB (size:=1) (n:=0) (xs:=[]) rfl rfl
 generalize H3.new 3 []=H3' at*
 refine aS.intro (fun mm env H'=>∃ (k:Nat) (w:Value) (b:Nat),mm=xs.length - k∧k≤xs.length∧H3.size≤b∧am H3 H'∧Sl H' 1 w (nK (BI ws.length (xs.take k))).length ((nK (BI ws.length (xs.take k))).map i64) (some b)∧
  env=[(1,.slice a ws.length c),(7,ptr x),(9,w),(65,.slice xa xs.length xc),(66,i64 xs.length),(67,i64 k)]) xs.length ⟨0,_,H3.size,rfl,apG _,aoB _,fo,so,rfl⟩ ?_
 clear so fo
 rintro mm env H4 ⟨k,w,b,rfl,hk,qv,f4,s4,rfl⟩
 have g4:=g3.trans f4
 have cw4:=cw.fresh f4
 have Yd:=TI ws.length (xs.take k)
 have VS:(nK (BI ws.length (xs.take k))).length=(BI ws.length (xs.take k)).length:=aoA _
 rw[aoS]at Yd
 refine vs ?_
 refine ai.dec (fun aK=>?_) (fun aK=>?_)<;>refine vs ?_
 ·obtain⟨i,hi⟩:∃i,xs[k]? =some i:=⟨_,aop (by omega)⟩
  obtain⟨_,xb,xo,xl,rfl,fw,R0⟩:=cK.num (hx.fresh g4) hi
  have ma:=QZ (n:=ws.length) hi
  refine⟨⟨by omega,by omega⟩,?_⟩
  refine v4 fw Int.toNat_natCast aos R0 ?_
  have skip:¬ (0≤i∧i<ws.length)→JP W [i] []=none:=fun h=>by rw[Do,if_pos (by omega)]
  refine ai.dec (fun i1=>?_) (fun i1=>?_)<;>refine vs ?_
  case' refine_1=>
   refine ai.dec (fun i2=>?_) (fun i2=>?_)<;>refine vs ?_
   ·rw[if_pos (by omega)]at ma
    have e1:nK (BI ws.length (xs.take (k+1)))=nK (BI ws.length (xs.take k))++[i]:=by
     rw[ma]
     unfold nK
     rw[ao5,aqm,Int.toNat_of_nonneg (by omega)]
    refine Wc (B:=H3.size) qv f4.size s4 _ (by omega) ?_
    intro w' H' b' mU s' e'
    refine vs ?_
    rw[wrap64 (n:=(k:Int)+1) (by omega) (by omega)]
    exact⟨xs.length - (k+1),by omega,k+1,w',b',rfl,by omega,mU,f4.then e' (fun z hz=>hz),by rw[e1];exact s',rfl⟩
  all_goals
   have hsk:=skip (by omega)
   rw[if_neg (by omega),ao3]at ma
   have fl:am H4 (H4.new 3 [i64 i]):=(ag.refl _ _).new _ _
   refine(qq (cw4.fresh fl) (xs:=[i]) (Sl.lit H4 3 1 1 [i64 i] rfl).rd (by simp)).mono ?_
   rintro _ H5 ⟨rfl,f5⟩
   rw[hsk]
   simp(disch:=(first|omega| (simp only[Zs]<;>omega)|fail)) only[go_sem, ↓reduceIte,Zv,XO,aoW]
   rw[wrap64 (n:=(k:Int)+1) (by omega) (by omega)]
   exact⟨xs.length - (k+1),by omega,k+1,w,b,rfl,by omega,qv,f4.trans (fl.trans f5),by rw[ma];exact s4.ext (fl.trans f5) (fun _ _ h=>h),rfl⟩
 have MJ:k=xs.length:=by omega
 subst MJ
 rw[aoQ]at s4 VS Yd
 have bE:MC W (BI ws.length xs):=fun s hs=>by rw[TT];exact VD s hs
 generalize BI ws.length xs=out at*
 have hBl:=Ou (m:=128) zb out bE
 have hB2:out.length*128≤200*128:=apI _ (by omega)
 obtain⟨wa,wc,rfl,_⟩:=OT s4
 refine(qq cw4 s4.rd (by omega)).mono ?_
 rintro _ H5 ⟨rfl,f5⟩
 rw[TH out [] bE (by simp only[apo];omega),apD]
 have aR:(bitsOf W out).length≤25600:=by omega
 have g5:=g4.trans f5
 simp(disch:=(first|omega| (simp only[Zs]<;>omega)|fail)) only[go_sem, ↓reduceIte,Zv,XO]
 refine(sz (bits:=(bitsOf W out).map bt) (by simp;omega)).mono ?_
 rintro v6 H6 ⟨f6,hp,ahG⟩
 rcases hp with ⟨bS,_⟩| ⟨w6,pa,pc,ZW,_,rfl,r6⟩
 ·exact absurd ⟨FX _,by simp;omega⟩ bS
 obtain rfl:=jF ZW
 have hc6:=ahG _ _ _ _ rfl
 have g6:=g5.trans f6
 refine vs ?_
 refine(Dn r6 hc6 (RI _) (by rw[Iy];omega)).mono ?_
 rintro v7 H7 ⟨hu,f7⟩
 have Qg:=pj (bitsOf W out)
 have ZB:=BU (bitsOf W out)
 have hU:∃k b,nS (bitsOf W out)=k::b∧Ja k b∧(aM b).drop ((aM b).length - k)=List.replicate k false:=by
  refine⟨_,_,rfl,⟨by unfold eG;omega,?_,by rw[nQ];omega⟩,?_⟩
  ·by_cases h0:eG (bitsOf W out).length=0
   ·exact .inl h0
   ·refine .inr fun h=>?_
    have:=aoD List.length h
    rw[nQ,apo]at this
    omega
  ·rw[kV _ _ Qg,ZB,aql]
   unfold cN
   rw[List.drop_left]
 rcases hu with ⟨k',b',h1,_,_,rfl⟩| ⟨bS,_⟩
 rotate_left
 ·exact absurd hU bS
 have NK:=Ps (bitsOf W out)
 unfold nS at h1
 injection h1 with h1 h2
 subst h1 h2
 rw[NK]
 have g7:=g6.trans f7
 have F7:=(f5.trans f6).trans f7
 refine vs ?_
 refine(CK (cw4.fresh F7) (bits:=(bitsOf W out).map bt) (by simp;omega)).mono ?_
 rintro v8 H8 ⟨f8,hD⟩
 obtain⟨ks,er,da,dc,rfl,hks,adb⟩:=hD.ahF
 rcases adb with ⟨rfl,du,rfl,J1,ahH,_⟩| ⟨_,_,bS⟩
 rotate_left
 ·have:=bS out bE rfl
  simp at this
  omega
 obtain rfl:=lT.one J1 bE (jF ahH)
 have g8:=g7.trans f8
 have F8:=F7.trans f8
 refine vs ?_
 have s8:=s4.rd.fresh F8
 have Ud:∀k,(bitsOf W (du.take k)).length≤(bitsOf W du).length:=fun k=>by
  have e1:bitsOf W du=bitsOf W (du.take k)++bitsOf W (du.drop k):=by rw[←xG,apt]
  rw[e1,aoy]
  omega
 refine aS.intro (fun mm env H'=>∃k:Nat,mm=du.length - k∧k≤du.length∧H'=H8∧
  env=[(7,ptr x),(9,.slice wa (nK du).length wc),(14,jc (bitsOf W du)),(15,i64 0),(17,i64 0),(18,jc (bitsOf W du)),(19,i64 0),(20,.slice da (nK du).length dc),(21,i64 0),
   (22,i64 ((bitsOf W (du.take k)).length:Nat)),(115,.slice wa (nK du).length wc),(116,i64 ((nK du).length:Nat)),(117,i64 k)]) du.length ⟨0,rfl,apG _,rfl,rfl⟩ ?_
 rintro mm env H9 ⟨k,rfl,hk,rfl,rfl⟩
 have UT:=Ud k
 refine vs ?_
 refine ai.dec (fun aK=>?_) (fun aK=>?_)<;>refine vs ?_
 ·obtain⟨t,ht⟩:∃t,du[k]? =some t:=⟨_,aop (by omega)⟩
  have htI:(nK du)[k]? =some (t:Int):=by unfold nK;rw[aoG,ht];rfl
  obtain⟨_,xb,xo,xl,rfl,fw,R0⟩:=cK.num s8 htI
  have HF:t<W.length:=bE t (aow ht)
  refine⟨⟨by omega,by omega⟩,?_⟩
  refine v4 fw Int.toNat_natCast aos R0 ?_
  refine(fM (cw4.fresh F8) (t:Int)).mono ?_
  rintro _ H10 ⟨rfl,rfl⟩
  have ew:pX W (t:Int)=W.getD t []:=by unfold pX;rw[if_neg (by omega),Int.toNat_natCast]
  have ma:bitsOf W (du.take (k+1))=bitsOf W (du.take k)++W.getD t []:=by
   rw[aoM,ht,Option.toList_some,LN]
  have HH:=Ud (k+1)
  rw[ma,aoy]at HH
  rw[ew]
  simp(disch:=(first|omega| (simp only[Zs]<;>omega)|fail)) only[go_sem, ↓reduceIte,Zv,apP,aoA]
  rw[wrap64 (n:=((bitsOf W (du.take k)).length:Int)+((W.getD t []).length:Nat)) (by omega) (by omega),wrap64 (n:=(k:Int)+1) (by omega) (by omega)]
  refine⟨du.length - (k+1),by omega,k+1,rfl,by omega,trivial,?_⟩
  rw[ma,aoy]
  rfl
 have MJ:k=du.length:=by omega
 subst MJ
 rw[aoQ]
 refine v2 aoW Vz ?_
 refine(EL (hks.fresh (ag.refl _ _)) s8 (by omega)).mono ?_
 rintro _ H10 ⟨rfl,rfl⟩
 refine v1 aoW ?_
 rw[apP,aoA,aoE rfl]
 exact⟨rfl,g8⟩
end Go.Proofs.YthpjfeolagohkaaGreat
