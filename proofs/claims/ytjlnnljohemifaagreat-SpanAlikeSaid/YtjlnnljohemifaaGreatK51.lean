/- Texts put behind each other. -/
import Derived.Test.YtjlnnljohemifaaGreatK98
import Derived.Test.YtjlnnljohemifaaGreatK0
import Derived.Test.YtjlnnljohemifaaGreatK2
import Derived.Test.YtjlnnljohemifaaGreatK3
import Derived.Test.YtjlnnljohemifaaGreatK4
import Derived.Test.YtjlnnljohemifaaGreatK5
import Derived.Test.YtjlnnljohemifaaGreatK6
import Derived.Test.YtjlnnljohemifaaGreatK8
import Derived.Test.YtjlnnljohemifaaGreatK9
import Derived.Test.YtjlnnljohemifaaGreatK10
import Derived.Test.YtjlnnljohemifaaGreatK11
import Derived.Test.YtjlnnljohemifaaGreatK12
import Derived.Test.YtjlnnljohemifaaGreatK13
import Derived.Test.YtjlnnljohemifaaGreatK14
import Derived.Test.YtjlnnljohemifaaGreatK15
import Derived.Test.YtjlnnljohemifaaGreatK16
import Derived.Test.YtjlnnljohemifaaGreatK17
import Derived.Test.YtjlnnljohemifaaGreatK18
import Derived.Test.YtjlnnljohemifaaGreatK19
import Derived.Test.YtjlnnljohemifaaGreatK20
import Derived.Test.YtjlnnljohemifaaGreatK21
import Derived.Test.YtjlnnljohemifaaGreatK22
import Derived.Test.YtjlnnljohemifaaGreatK24
import Derived.Test.YtjlnnljohemifaaGreatK25
import Derived.Test.YtjlnnljohemifaaGreatK26
import Derived.Test.YtjlnnljohemifaaGreatK27
import Derived.Test.YtjlnnljohemifaaGreatK28
import Derived.Test.YtjlnnljohemifaaGreatK29
import Derived.Test.YtjlnnljohemifaaGreatK37
import Derived.Test.YtjlnnljohemifaaGreatK38
import Derived.Test.YtjlnnljohemifaaGreatK43
import Derived.Test.YtjlnnljohemifaaGreatK48
import Derived.Test.YtjlnnljohemifaaGreatK49
import Derived.Test.YtjlnnljohemifaaGreatK50
set_option maxRecDepth 100000
set_option maxHeartbeats 8000000
set_option linter.unusedVariables false
set_option linter.unusedSimpArgs false
namespace Go.Proofs.YtjlnnljohemifaaGreat
open Go Go.Vc
theorem aaI(a b:List Ed):eF (a++b)=eF a++eF b:=List.flatMap_append ..
theorem aaG(es:List Ed):gz (eF es):=fun v hv=>by
 obtain⟨r,_,h⟩:=List.mem_flatMap.1 hv
 simp only[gG,anF,apy,or_false]at h
 rcases h with rfl|rfl|rfl<;>rfl
section
variable {n : Int} {es : List Ed} {K T : List Int}
theorem jR.alike(hr:gF n es)(hK:jR n es K)(hl:PR es K)(hT:jR n es T)(ht:PR es T):(K.map (wE es)).sum=(T.map (wE es)).sum:=by
 have h1:=hK.bQ hr hl hT
 have h2:=hT.bQ hr ht hK
 omega
theorem aaE(es:List Ed)(m:Ed){i:Int}(h:PP es i):fE (es++[m]) i=fE es i∧wE (es++[m]) i=wE es i:=by
 obtain⟨k,e,rfl,he,hk⟩:=h.get
 have he2:(es++[m])[k]? =some e:=by rw[anJ hk];exact he
 exact⟨by rw[F9 he,F9 he2],by rw[Oy he,Oy he2]⟩
theorem aaJ{m:Ed}(h:jR n es T)(hm:bH ((allI es.length).map (fE es)) m.f.toNat m.t.toNat):jR n (es++[m]) T∧(T.map (wE (es++[m]))).sum=(T.map (wE es)).sum:=by
 have e1:T.map (fE (es++[m]))=T.map (fE es):=apn fun i hi=>(aaE es m (h.ins i hi)).1
 have e2:T.map (wE (es++[m]))=T.map (wE es):=apn fun i hi=>(aaE es m (h.ins i hi)).2
 refine⟨⟨fun i hi=>?_,by rw[e1];exact h.xV,fun u v hh=>?_⟩,by rw[e2]⟩
 ·have:=h.ins i hi
  exact⟨this.1,by have:=this.2;rw[anD];simp;omega⟩
 ·rw[e1]
  refine pk (fun x hx=>?_) hh
  obtain⟨i,hi,rfl⟩:=anS.1 hx
  rw[LG,anD,anM]at hi
  by_cases aO:i<es.length
  ·have bJ:PP es i:=⟨hi.1,aO⟩
   rw[(aaE es m bJ).1]
   exact h.all _ _ (mO (anS.2 ⟨i,oS.2 bJ,rfl⟩))
  ·have mI:i=(es.length:Int):=by omega
   subst mI
   rw[F9 (e:=m) (by simp)]
   exact h.all _ _ hm
theorem aaF{m:Ed}(hr:gF n es)(h1:0≤m.f∧m.f<n)(h2:0≤m.t∧m.t<n)(hl:es.length<65536):gF n (es++[m]):=by
 refine⟨hr.n0,hr.n1,by rw[anD];simp;omega,fun e he=>?_⟩
 rcases anH.1 he with he|he
 ·exact hr.ends e he
 ·rw[anC]at he
  subst he
  exact⟨h1.1,h1.2,h2.1,h2.2⟩
end
end Go.Proofs.YtjlnnljohemifaaGreat

namespace Go.Proofs.YtjlnnljohemifaaGreat
open Go Go.Vc
theorem aaN(a:Int)(b:Nat):D5 [(0,(none,.int)),(1,(none,.int))] [i64 a,u64 (b:Int)] [i64 a,u64 (b:Int)]=some true:=by
 simp[D5,Vc.eU,qA,bB]
theorem eJ.low{H:Hp}{b s len:Nat}{rt:Nat→Nat}{fJ:Int}(h:eJ H b s len rt fJ){i:Nat}(hi:i<len):rt (rt i)=rt i∧rt i<len∧(0<i→0<rt i):=by
 obtain⟨sv,cB,sj,a1,a2,⟨d,a4⟩,a5⟩:=h.TE
 refine⟨a4.K6 i (by omega),by have:=a4.low i (by omega);omega,fun h0=>?_⟩
 rcases apc (rt i)with h|h
 ·have:=a4.nz i (by omega) h;omega
 ·exact h
theorem eJ.lts{H:Hp}{b s len:Nat}{rt:Nat→Nat}{fJ:Int}(h:eJ H b s len rt fJ):b<H.size∧s<H.size:=by
 obtain⟨sv,cB,sj,a1,a2,_⟩:=h.TE
 exact⟨aA a1,Sl.lt a2⟩
theorem adw{H:Hp}{T:Nat}{w:Value}{xs:List Int}{fp:Option Nat}{K:Value→Hp→Prop}(s:Sl H 1 w xs.length (xs.map i64) fp)(x:Int)(hl:xs.length≤1000000000000)
  (hk:∀w' H' cO,Sl H' 1 w' (xs++[x]).length ((xs++[x]).map i64) cO→ag (fun z=>fp=some z) H H'→(cO=fp∨∃p,cO=some p∧H.size≤p)→K w' H'):
  fW T 1 8 [i64 0] w (.slice (some ⟨H.size,0,none⟩) 1 1) (H.new T [i64 x]) K:=by
 have fl:ai H (H.new T [i64 x]):=(ag.refl _ _).new _ _
 refine Sl.append (s.ext fl (fun _ _ h=>h)) (Sl.cf (size:=1) (n:=1) (xs:=[i64 x]) rfl rfl).rd rfl (rP [x]) (by omega) ?_
 intro v' H' cO s' e' Oe
 refine hk v' H' cO (by rw[anD,an8];exact s') ((fl.mono fun _ _ h=>h.elim).oJ e' (fun _ _ h=>h)) (Oe.imp_right fun⟨p,h1,h2,_⟩=>⟨p,h1,aor fl.size h2⟩)
def bP(n:Nat)(rt:Nat→Nat)(ks:List E2):Prop:=∀u v,u<n→v<n→(rt (u+1)=rt (v+1)↔bH ks u v)
theorem bP.join{n:Nat}{rt rt':Nat→Nat}{ks:List E2}{e:E2}(h:bP n rt ks)(h1:e.1<n)(h2:e.2<n)(hr:∀i,rt' i=if rt i=max (rt (e.1+1)) (rt (e.2+1))then min (rt (e.1+1)) (rt (e.2+1))else rt i):bP n rt' (ks++[e]):=by
 intro u v hu hv
 rw[ve,←h u v hu hv,←h u e.1 hu h1,←h v e.2 hv h2,←h u e.2 hu h2,←h v e.1 hv h1,hr,hr]
 split<;>split<;>omega
theorem aaB{H:Hp}{n:Int}{a:Option Addr}{c:Nat}{es:List Ed}(h:dc H 3 (.slice a es.length c) es.length (eF es))(hR:dJ n es=true):
  af Tryz.prog aaC [F8 n (.slice a es.length c)] H fun v H'=>aw (ai H H'∧∃ (P:List Int) (fp:Option Nat),P.length=n.toNat∧Sl H' 1 v P.length (P.map i64) fp∧∀u w:Nat,u<n.toNat→w<n.toNat→(P[u]? =P[w]? ↔bH ((allI es.length).map (fE es)) u w)):=by
 have hr:=(fQ n es).1 hR
 have L0:=hr.n0
 have xM:=hr.n1
 have Wh:=hr.len
 refine bm aaD ?_
 have f0:ai H (H.new 52 [i64 n,.slice a es.length c]):=(ag.refl _ _).new _ _
 have b0:=aB H 52 [i64 n,.slice a es.length c]
 have Ib:(H.new 52 [i64 n,.slice a es.length c]).size=H.size+1:=by rw[aq]
 simp(disch:=(first|omega| (simp only[Zs]<;>omega)|fail)) only[go_sem, ↓reduceIte,Zv,F8]
 generalize H.new 52 [i64 n,.slice a es.length c]=H0 at*
 refine v1 (ae b0) ?_
 refine(j6 (n:=n) (h.fresh f0) (by omega)).mono ?_
 rintro _ H1 ⟨rfl,f1⟩
 rw[if_pos hR]
 have b1:=f1.own b0 (fun h=>h)
 have g1:=f0.trans f1
 refine v2 aoi (ae b1) ?_
 refine(Ft n H1).mono ?_
 rintro _ H2 ⟨f2,⟨aa7,_⟩| ⟨_,b,s,rfl,hN,hb,hs,_,_⟩⟩
 ·omega
 have b2:=f2.own b1 (fun h=>h)
 have g2:=g1.trans f2
 have Ol:=f1.size
 refine v1 (ae b2) ?_
 refine bk.intro (fun m env H'=>ai H H'∧H'.own H.size=some [i64 n,.slice a es.length c]∧∃ (k s':Nat) (rt:Nat→Nat),m=n.toNat - k∧k≤n.toNat∧H.size+1≤s'∧eJ H' b s' (k+1) rt n∧(∀i,i<k+1→rt i=i)∧
  env=[(1,ptr H.size),(3,ptr b),(25,i64 n),(26,i64 k)]) n.toNat ⟨g2,b2,0,s,id,by omega,by omega,by omega,hN,fun i _=>rfl,rfl⟩ ?_
 clear hN b2 f2 g2 b1 f1 g1 b0 f0
 rintro m env H3 ⟨g3,b3,k,s',rt,hm,hk,Dz,hN,hid,rfl⟩
 have QB:=aA b3
 refine vs ?_
 refine am.dec (fun aO=>?_) (fun aO=>?_)<;>refine vs ?_
 ·refine(DU hN).mono ?_
  rintro _ H4 (⟨ajJ,_⟩| ⟨_,rfl,s4,hN4,e4,WB⟩)
  ·omega
  refine vs ?_
  rw[wrap64 (n:=(k:Int)+1) (by omega) (by omega)]
  refine⟨n.toNat - (k+1),by omega,g3.then e4 (fun z hz=>by omega),e4.own b3 (fun h=>by omega),k+1,s4,_,rfl,by omega,by omega,hN4,fun i hi=>?_,rfl⟩
  split
  ·omega
  ·exact hid i (by omega)
 have hkn:k=n.toNat:=by omega
 subst hkn
 have hT0:bP n.toNat rt ((allI 0).map (fE es)):=fun u v hu hv=>by
  rw[hid _ (by omega),hid _ (by omega)]
  show _↔(u=v)
  omega
 refine v1 (ae b3) ?_
 refine bk.intro (fun m env H'=>ai H H'∧H'.own H.size=some [i64 n,.slice a es.length c]∧∃ (j:Nat) (rt:Nat→Nat),m=es.length - j∧j≤es.length∧eJ H' b s' (n.toNat+1) rt n∧bP n.toNat rt ((allI j).map (fE es))∧
  env=[(1,ptr H.size),(3,ptr b),(32,.slice a es.length c),(33,i64 es.length),(34,i64 j)]) es.length ⟨g3,b3,0,rt,by omega,by omega,hN,hT0,rfl⟩ ?_
 clear hN b3 g3 hT0 hid hm hk aO QB
 rintro m env H4 ⟨g4,b4,j,rt,hm,hj,hN,hT,rfl⟩
 have hz4:=aA b4
 have h4:=h.fresh g4
 refine vs ?_
 refine am.dec (fun aO=>?_) (fun aO=>?_)<;>refine vs ?_
 ·obtain⟨e,he⟩:∃e,es[j]? =some e:=⟨_,ans (by omega)⟩
  obtain⟨ef0,ef1,et0,et1⟩:=hr.ends e (anz he)
  obtain⟨_,be,oe,le,rfl,fA,oY,fR,lu,xF,tF⟩:=dc.Cz h4 he
  refine⟨⟨by omega,by omega⟩,?_⟩
  simp(disch:=(first|omega| (simp only[Zs]<;>omega)|fail)) only[go_sem, ↓reduceIte,Zv,fA,Int.toNat_natCast,fR,gG]
  refine⟨by omega,?_⟩
  simp(disch:=(first|omega| (simp only[Zs]<;>omega)|fail)) only[go_sem, ↓reduceIte,Zv,fR,gG]
  obtain⟨f5,q5,z5⟩:=Lq H4 61 [i64 0,i64 0,i64 0] [i64 e.f,i64 e.t,i64 e.w]
  generalize Gz:H4.size=cb at*
  generalize (H4.new 61 [i64 0,i64 0,i64 0]).wr cb [i64 e.f,i64 e.t,i64 e.w]=H5 at*
  have hN5:=hN.ext f5 (fun h=>h) (fun h=>h)
  have ahK:=hN.lts
  have b5:=f5.own b4 (fun h=>h)
  have g5:=g4.trans f5
  have hw1:IntKind.i64.wrap (e.f+1)=e.f+1:=wrap64 (by omega) (by omega)
  have Er:IntKind.i64.wrap (e.t+1)=e.t+1:=wrap64 (by omega) (by omega)
  refine v1 (ae q5) ?_
  rw[hw1]
  refine(DV hN5 (e.f+1)).mono ?_
  rintro _ H6 (⟨aa7,_⟩| ⟨_,rfl,hN6,e6⟩)
  ·omega
  have q6:=e6.own q5 (fun h=>by omega)
  have b6:=e6.own b5 (fun h=>by omega)
  have g6:ai H H6:=g5.then e6 (fun z hz=>by omega)
  refine v1 (ae q6) ?_
  rw[Er]
  refine(DV hN6 (e.t+1)).mono ?_
  rintro _ H7 (⟨aa7,_⟩| ⟨_,rfl,hN7,e7⟩)
  ·omega
  have b7:=e7.own b6 (fun h=>by omega)
  have g7:ai H H7:=g6.then e7 (fun z hz=>by omega)
  have ef:(e.f+1).toNat=e.f.toNat+1:=by omega
  have et:(e.t+1).toNat=e.t.toNat+1:=by omega
  rw[ef,et]
  have r1:=hN7.low (i:=e.f.toNat+1) (by omega)
  have r2:=hN7.low (i:=e.t.toNat+1) (by omega)
  have hks:(allI (j+1)).map (fE es)=(allI j).map (fE es)++[(e.f.toNat,e.t.toNat)]:=by rw[Ix,an8,apb,F9 he]
  refine vs ?_
  generalize hpf:rt (e.f.toNat+1)=pf at*
  generalize hpt:rt (e.t.toNat+1)=pt at*
  have agi:(if(pt:Int)< (pf:Int)then(pt:Int)else(pf:Int))=((min pf pt:Nat):Int):=by split<;>omega
  have agj:(if(pt:Int)> (pf:Int)then(pt:Int)else(pf:Int))=((max pf pt:Nat):Int):=by split<;>omega
  rw[agi,agj]
  refine(aay hN7 _ _).mono ?_
  rintro _ H8 (⟨bK,rfl,rfl⟩| ⟨tS,rfl,hN8,e8⟩)
  ·have Ia:pf=pt:=by
    apply anW
    intro aP
    refine bK ⟨⟨by omega,by omega,?_⟩,⟨by omega,by omega,?_⟩,by omega⟩
    ·rw[Int.toNat_natCast]
     rcases Nat.le_total pf pt with hh|hh
     ·rw[aoQ hh];exact r1.1
     ·rw[Nat.min_eq_right hh];exact r2.1
    ·rw[Int.toNat_natCast]
     rcases Nat.le_total pf pt with hh|hh
     ·rw[Nat.max_eq_right hh];exact r2.1
     ·rw[Nat.max_eq_left hh];exact r1.1
   refine vs ?_
   rw[wrap64 (n:=(j:Int)+1) (by omega) (by omega)]
   refine⟨es.length - (j+1),by omega,g7,b7,j+1,rt,rfl,by omega,hN7,?_,rfl⟩
   rw[hks]
   refine hT.join (by show e.f.toNat<_;omega) (by show e.t.toNat<_;omega) fun i=>?_
   simp only[hpf,hpt]
   split<;>omega
  ·refine vs ?_
   rw[wrap64 (n:=(j:Int)+1) (by omega) (by omega)]
   rw[Int.toNat_natCast,Int.toNat_natCast]at hN8
   refine⟨es.length - (j+1),by omega,g7.then e8 (fun z hz=>by omega),e8.own b7 (fun h=>by omega),j+1,_,rfl,by omega,hN8,?_,rfl⟩
   rw[hks]
   refine hT.join (by show e.f.toNat<_;omega) (by show e.t.toNat<_;omega) fun i=>?_
   simp only[hpf,hpt]
 have gD:j=es.length:=by omega
 subst gD
 refine v1 (ae b4) ?_
 have ahK:=hN.lts
 refine bk.intro (fun m env H'=>ai H H'∧∃ (k:Nat) (w:Value) (fp:Option Nat),m=n.toNat - k∧k≤n.toNat∧eJ H' b s' (n.toNat+1) rt n∧(∀p,fp=some p→H.size≤p∧p≠b∧p≠s')∧Sl H' 1 w ((List.range k).map fun v=>(rt (v+1):Int) - 1).length (((List.range k).map fun v=>(rt (v+1):Int) - 1).map i64) fp∧
  env=[(3,ptr b),(11,w),(64,i64 n),(65,i64 k)]) n.toNat ⟨g4,0,_,none,by omega,by omega,hN,(fun p hp=>by cases hp),Sl.nil _ _,rfl⟩ ?_
 clear hN b4 g4 h4
 rintro m env H5 ⟨g5,k,w,fp,hm,hk,hN,gu,s5,rfl⟩
 have am4:=hN.lts
 have hz5:=g5.size
 refine vs ?_
 refine am.dec (fun aO=>?_) (fun aO=>?_)<;>refine vs ?_
 rotate_left
 ·have C6:k=n.toNat:=by omega
  subst C6
  refine⟨g5,_,fp,by simp,s5,fun u v hu hv=>?_⟩
  rw[←hT u v hu hv,anR,anR,List.getElem?_range hu,List.getElem?_range hv]
  simp only[Option.map_some,anE]
  omega
 rw[wrap64 (n:=(k:Int)+1) (by omega) (by omega)]
 refine(DV hN ((k:Int)+1)).mono ?_
 rintro _ H6 (⟨aa7,_⟩| ⟨_,rfl,hN6,e6⟩)
 ·omega
 have r1:=hN6.low (i:=k+1) (by omega)
 rw[show((k:Int)+1).toNat=k+1 by omega]
 have s6:=s5.ext e6 (fun p hp h=>by have:=gu p hp;omega)
 have g6:ai H H6:=g5.then e6 (fun z hz=>by omega)
 refine vs ?_
 rw[wrap64 (n:=((rt (k+1):Nat):Int) - 1) (by omega) (by omega)]
 refine adw s6 _ (by simp;omega) ?_
 intro w' H' cO s' e' Oe
 have hz6:=e6.size
 have agw:=hN6.lts
 refine vs ?_
 rw[wrap64 (n:=(k:Int)+1) (by omega) (by omega)]
 refine⟨n.toNat - (k+1),by omega,g6.then e' (fun z hz=>(gu z hz).1),k+1,w',cO,rfl,by omega,hN6.ext e' (fun h=>(gu b h).2.1 rfl) (fun h=>(gu _ h).2.2 rfl),fun p hp=>?_,?_,rfl⟩
 ·rcases Oe with h| ⟨q,h1,h2⟩
  ·exact gu p (by rw[←h];exact hp)
  ·rw[hp]at h1
   injection h1 with h1
   omega
 ·rw[apA,an8,apb]
  exact s'
structure Jr(H Hc:Hp)(xs:List Ed)(m:Ed)(o1 o2 o3:Option Value)(o4:Option Nat):Prop where
 f:ai H Hc
 p1:∀v,o1=some v→∃b,Sl Hc 3 v 0 [] (some b)∧H.size≤b∧o4≠some b∧∀w,o3=some w→w≠ .slice (some ⟨b,0,none⟩) 1 1
 p2:∀v,o2=some v→∃fp,Sl Hc 3 v xs.length (eF xs) fp∧∀b,fp=some b→H.size≤b∧o4≠some b∧∀w,o3=some w→w≠ .slice (some ⟨b,0,none⟩) 1 1
 p3:∀v,o3=some v→∃b,v= .slice (some ⟨b,0,none⟩) 1 1∧Hc.own b=some (gG m)
 p4:∀b,o4=some b→Hc.own b=some [i64 0,.slice none 0 0]∧H.size≤b
section
variable {P : Program} {Inv : Hp → Prop} {K : Env → Hp → Prop} {t : sn} {env : Env} {H Hc : Hp} {xs es : List Ed} {m : Ed} {o1 o2 o3 : Option Value} {o4 : Option Nat} {T : TypeId}
theorem Jr.zero(H:Hp)(xs:List Ed)(m:Ed):Jr H H xs m none none none none:=⟨ag.refl _ _,by simp,by simp,by simp,by simp⟩
theorem Jr.new(h:Jr H Hc xs m o1 o2 o3 o4)(l:List Value):Jr H (Hc.new T l) xs m o1 o2 o3 o4:=by
 have fl:ai Hc (Hc.new T l):=(ag.refl _ _).new _ _
 refine⟨h.f.trans fl,fun v hv=>?_,fun v hv=>?_,fun v hv=>?_,fun b hb=>?_⟩
 ·obtain⟨b,s,k⟩:=h.p1 v hv
  exact⟨b,s.ext fl (fun _ _ h=>h),k⟩
 ·obtain⟨fp,s,k⟩:=h.p2 v hv
  exact⟨fp,s.ext fl (fun _ _ h=>h),k⟩
 ·obtain⟨b,h1,h2⟩:=h.p3 v hv
  exact⟨b,h1,fl.own h2 (fun h=>h)⟩
 ·obtain⟨h1,h2⟩:=h.p4 b hb
  exact⟨fl.own h1 (fun h=>h),h2⟩
theorem Jr.lt3(h:Jr H Hc xs m o1 o2 o3 o4){v:Value}(hv:o3=some v):v≠ .slice (some ⟨Hc.size,0,none⟩) 1 1:=fun e=>by
 obtain⟨b,h1,h2⟩:=h.p3 v hv
 have:=aA h2
 rw[e]at h1
 injection h1 with h1
 injection h1 with h1
 injection h1 with h1
 omega
theorem Jr.lt4(h:Jr H Hc xs m o1 o2 o3 o4):o4≠some Hc.size:=fun e=>by
 have:=aA (h.p4 _ e).1
 omega
theorem Jr.s1(h:Jr H Hc xs m none none o3 o4)(k:∀H',Jr H H' xs m (some (.slice (some ⟨Hc.size,0,none⟩) 0 0)) none o3 o4→ai Hc H'→BO P Inv K t env H'):BO P Inv K t env (Hc.new T []):=by
 refine k _ ?_ ((ag.refl _ _).new _ _)
 have h1:=h.new (T:=T) []
 exact⟨h1.f,fun v hv=>by
  injection hv with hv
  subst hv
  exact⟨Hc.size,Sl.cf (size:=3) (n:=0) (xs:=[]) rfl rfl,h.f.size,h.lt4,fun w hw=>h.lt3 hw⟩,by simp,h1.p3,h1.p4⟩
theorem Jr.s3(h:Jr H Hc xs m o1 o2 none o4)(k:∀H',Jr H H' xs m o1 o2 (some (.slice (some ⟨Hc.size,0,none⟩) 1 1)) o4→ai Hc H'→BO P Inv K t env H'):BO P Inv K t env (Hc.new T [i64 m.f,i64 m.t,i64 m.w]):=by
 refine k _ ?_ ((ag.refl _ _).new _ _)
 have h1:=h.new (T:=T) [i64 m.f,i64 m.t,i64 m.w]
 have ne:∀b,b<Hc.size→(.slice (some ⟨Hc.size,0,none⟩) 1 1:Value)≠ .slice (some ⟨b,0,none⟩) 1 1:=fun b hb e=>by
  injection e with e
  injection e with e
  injection e with e
  omega
 refine⟨h1.f,fun v hv=>?_,fun v hv=>?_,fun v hv=>?_,h1.p4⟩
 ·obtain⟨b,s,k1,k2,_⟩:=h1.p1 v hv
  obtain⟨b',s',k1',k2',_⟩:=h.p1 v hv
  have:b'=b:=by
   obtain⟨_,l,c,e1,_⟩:=s
   obtain⟨_,l',c',e2,_⟩:=s'
   rw[e1]at e2
   injection e2 with e2
   injection e2 with e2
   injection e2 with e2
   exact e2.symm
  subst this
  exact⟨b',s,k1,k2,fun w hw e=>by injection hw with hw;rw[←hw]at e;exact ne b' (Sl.lt s') e⟩
 ·obtain⟨fp,s',k⟩:=h.p2 v hv
  refine⟨fp,s'.ext ((ag.refl (fun _=>False) _).new _ _) (fun _ _ h=>h),fun b hb=>⟨(k b hb).1,(k b hb).2.1,fun w hw e=>?_⟩⟩
  injection hw with hw
  rw[←hw]at e
  rw[hb]at s'
  exact ne b (Sl.lt s') e
 ·injection hv with hv
  exact⟨Hc.size,hv.symm,aB _ _ _⟩
theorem Jr.s5(h:Jr H Hc xs m o1 o2 o3 none)(k:∀H',Jr H H' xs m o1 o2 o3 (some Hc.size)→ai Hc H'→BO P Inv K t env H'):BO P Inv K t env (Hc.new T [i64 0,.slice none 0 0]):=by
 refine k _ ?_ ((ag.refl _ _).new _ _)
 have h1:=h.new (T:=T) [i64 0,.slice none 0 0]
 refine⟨h1.f,fun v hv=>?_,fun v hv=>?_,h1.p3,fun b hb=>?_⟩
 ·obtain⟨b,s,k1,_,k3⟩:=h.p1 v hv
  refine⟨b,s.ext ((ag.refl (fun _=>False) _).new _ _) (fun _ _ h=>h),k1,fun e=>?_,k3⟩
  injection e with e
  have:=Sl.lt s
  omega
 ·obtain⟨fp,s,k⟩:=h.p2 v hv
  refine⟨fp,s.ext ((ag.refl (fun _=>False) _).new _ _) (fun _ _ h=>h),fun b hb=>⟨(k b hb).1,fun e=>?_,(k b hb).2.2⟩⟩
  injection e with e
  rw[hb]at s
  have:=Sl.lt s
  omega
 ·injection hb with hb
  subst hb
  exact⟨aB _ _ _,h.f.size⟩
theorem Jr.s2{v:Value}{a:Option Addr}{c:Nat}{F:Value→Hp→Prop}(h:Jr H Hc xs m (some v) none o3 o4)(hr:dc H 3 (.slice a es.length c) es.length (eF es))(hm:es.length≤1000000)(k:∀a' c' H',Jr H H' es m none (some (.slice a' es.length c')) o3 o4→(∀b l,b<H.size→Hc.own b=some l→H'.own b=some l)→F (.slice a' es.length c') H'):fW T 3 24 [i64 0,i64 0,i64 0] v (.slice a es.length c) Hc F:=by
 obtain⟨b,s,hb,k1,k2⟩:=h.p1 v rfl
 refine Sl.append s (hr.fresh h.f) rfl (aaG es) (by omega) ?_
 intro v' H' cO s' e' Oe
 rw[ant,aoB]at s'
 obtain⟨a',c',rfl,_⟩:=dD s'
 refine k a' c' H' ⟨h.f.then e' (fun z hz=>by injection hz with hz;omega),by simp,fun w hw=>?_,fun w hw=>?_,fun q hq=>?_⟩ (fun q l hq hl=>e'.own hl (fun hz=>by injection hz with hz;omega))
 ·injection hw with hw
  subst hw
  refine⟨cO,s',fun q hq=>?_⟩
  rcases Oe with h1| ⟨p,h1,h2,_⟩
  ·rw[h1]at hq
   injection hq with hq
   subst hq
   exact⟨hb,k1,k2⟩
  ·rw[hq]at h1
   injection h1 with h1
   subst h1
   have hz:=h.f.size
   refine⟨by omega,fun e=>?_,fun w hw e=>?_⟩
   ·have:=aA (h.p4 _ e).1;omega
   ·obtain⟨b3,e3,o3'⟩:=h.p3 w hw
    have:=aA o3'
    rw[e]at e3
    injection e3 with e3
    injection e3 with e3
    injection e3 with e3
    omega
 ·obtain⟨b3,e3,o3'⟩:=h.p3 w hw
  exact⟨b3,e3,e'.own o3' (fun hz=>by injection hz with hz;exact k2 w hw (by rw[e3,hz]))⟩
 ·obtain⟨q1,q2⟩:=h.p4 q hq
  exact⟨e'.own q1 (fun hz=>by injection hz with hz;exact k1 (by rw[hq,hz])),q2⟩
theorem Jr.s4{v w:Value}{F:Value→Hp→Prop}(h:Jr H Hc es m none (some v) (some w) o4)(hm:es.length≤1000000)(k:∀a' c' H',Jr H H' (es++[m]) m none (some (.slice a' (es++[m]).length c')) none o4→(∀b l,b<H.size→Hc.own b=some l→H'.own b=some l)→F (.slice a' (es++[m]).length c') H'):fW T 3 24 [i64 0,i64 0,i64 0] v w Hc F:=by
 obtain⟨fp,s,gu⟩:=h.p2 v rfl
 obtain⟨b3,rfl,q3⟩:=h.p3 w rfl
 have r3:dc Hc 3 (.slice (some ⟨b3,0,none⟩) 1 1) 1 (gG m):=⟨rfl,.inr ⟨b3,0,1,_,rfl,ae q3,anG _,rfl⟩⟩
 refine Sl.append s r3 rfl (by have:=aaG [m];exact this) (by omega) ?_
 intro v' H' cO s' e' Oe
 have hl:es.length+1=(es++[m]).length:=by rw[anD];rfl
 have hc:eF es++gG m=eF (es++[m]):=by rw[aaI];simp[eF]
 rw[hl,hc]at s'
 obtain⟨a',c',rfl,_⟩:=dD s'
 refine k a' c' H' ⟨h.f.then e' (fun z hz=>(gu z hz).1),by simp,fun w hw=>?_,by simp,fun q hq=>?_⟩ (fun q l hq hl=>e'.own hl (fun hz=>by have:=(gu q hz).1;omega))
 ·injection hw with hw
  subst hw
  refine⟨cO,s',fun q hq=>?_⟩
  rcases Oe with h1| ⟨p,h1,h2,_⟩
  ·exact⟨(gu q (by rw[←h1];exact hq)).1,(gu q (by rw[←h1];exact hq)).2.1,by simp⟩
  ·rw[hq]at h1
   injection h1 with h1
   subst h1
   have hz:=h.f.size
   exact⟨by omega,fun e=>by have:=aA (h.p4 _ e).1;omega,by simp⟩
 ·obtain⟨q1,q2⟩:=h.p4 q hq
  exact⟨e'.own q1 (fun hz=>(gu q hz).2.1 hq),q2⟩
theorem ahN(M:Env→Hp→Prop){G:Env→Hp→Prop}{H:Hp}(g:jX H fun Inv=>BO P Inv M t env H)(h:∀e H,M e H→G e H):jX H fun Inv=>BO P Inv G t env H:=by
 obtain⟨Inv,h1,h2⟩:=g
 exact⟨Inv,h1,Q7 h t env H h2⟩
end
end Go.Proofs.YtjlnnljohemifaaGreat

namespace Go.Proofs.YtjlnnljohemifaaGreat
open Go Go.Vc
theorem aaK{H:Hp}{v:Value}(h:Cm H (true,[.k (.i .i64),.k (.i .i64),.k (.i .i64),.k (.i .i64)]) v):∃x y z u:Int,v= .agg #[i64 x,i64 y,i64 z,i64 u]:=by
 obtain⟨cs,rfl,_,_,rfl,⟨x,rfl,hx⟩,_,_,rfl,⟨y,rfl,hy⟩,_,_,rfl,⟨z,rfl,hz⟩,_,_,rfl,⟨u,rfl,hu⟩,rfl⟩:=h
 exact⟨x,y,z,u,rfl⟩
end Go.Proofs.YtjlnnljohemifaaGreat
