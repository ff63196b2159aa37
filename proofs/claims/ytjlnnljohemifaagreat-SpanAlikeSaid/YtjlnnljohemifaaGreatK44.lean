/- Texts put behind each other. -/
import Derived.Test.YtjlnnljohemifaaGreatK98
import Derived.Test.YtjlnnljohemifaaGreatK22
import Derived.Test.YtjlnnljohemifaaGreatK24
import Derived.Test.YtjlnnljohemifaaGreatK37
import Derived.Test.YtjlnnljohemifaaGreatK43
import Derived.Shelf.Spec.BitsCarry
set_option maxRecDepth 100000
set_option maxHeartbeats 8000000
set_option linter.unusedVariables false
set_option linter.unusedSimpArgs false
namespace Go.Proofs.YtjlnnljohemifaaGreat
open Go Go.Vc
theorem Qe(x y c:Nat)(hc:c≤1)(hx:x<18446744073709551616)(hy:y<18446744073709551616)(w:World):
  (callFunc 58 [u64 (x:Int),u64 (y:Int),u64 (c:Int)].toArray).run Tryz.prog w=
   .ok (.value (.tuple [u64 (((x+y+c)%18446744073709551616:Nat):Int),u64 (((x+y+c) / 18446744073709551616:Nat):Int)].toArray)) w:=by
 show(callFunc 58 #[.int .u64 x,.int .u64 y,.int .u64 c]).run Tryz.prog w=_
 rw[run_callFunc_extern Tryz.func58 (by kernel_rfl) (by kernel_rfl) (by kernel_rfl) (e:=add64Entry) (by kernel_rfl),run_add64 x y c (by omega) (by omega) (by omega) (by omega)]
 simp only[Result.andThen]
 congr 5<;>omega
theorem C1{H:Hp}{a:Option Addr}{n c:Nat}{l:List Int}(h:dc H 1 (.slice a n c) n (l.map i64))(hn:n≤1000000)(hl:∀x∈l, -9223372036854775808≤x∧x≤9223372036854775807):
  af Tryz.prog GR [.slice a n c] H fun v H'=>aw (v=LR (CZ l)∧ai H H'):=by
 have aX:l.length=n:=by have:=h.1;simpa using this
 refine bm Ha ?_
 refine vs ?_
 have f0:ai H ((H.new 36 [i64 0,u64 0]).new 36 [i64 0,u64 0]):=((ag.refl _ _).new _ _).new _ _
 have b0:((H.new 36 [i64 0,u64 0]).new 36 [i64 0,u64 0]).own H.size=some [i64 0,u64 0]:=ag.own (((ag.refl (fun _=>False) _).new _ _):ai (H.new 36 [i64 0,u64 0]) _) (aB _ _ _) (fun h=>h)
 have d0:((H.new 36 [i64 0,u64 0]).new 36 [i64 0,u64 0]).own (H.size+1)=some [i64 0,u64 0]:=aV (by simp only[aq])
 generalize (H.new 36 [i64 0,u64 0]).new 36 [i64 0,u64 0]=H0 at*
 have hk:=h.fresh f0
 refine bk.intro (fun m env H'=>ai H H'∧ag (fun z=>z=H.size+1) H0 H'∧∃ (j:Nat),m=n - j∧j≤n∧(CZ (l.take j)).2<18446744073709551616∧H'.own (H.size+1)=some [i64 (CZ (l.take j)).1,u64 (CZ (l.take j)).2]∧
  env=[(2,ptr H.size),(3,ptr (H.size+1)),(8,.slice a n c),(9,i64 n),(10,i64 j)]) n ⟨f0,ag.refl _ _,0,by omega,by omega,by simp[CZ],d0,rfl⟩ ?_
 rintro m env H1 ⟨f1,e1,j,hm,hj,NF,d1,rfl⟩
 have h1:=h.fresh f1
 have b1:H1.own H.size=some [i64 0,u64 0]:=e1.own b0 (fun h=>by omega)
 refine vs ?_
 refine am.dec (fun aO=>?_) (fun aO=>?_)<;>refine vs ?_
 ·have gD:j<n:=by omega
  obtain⟨y,hy⟩:∃y,l[j]? =some y:=⟨_,ans (by omega)⟩
  obtain⟨b,o,c',lb,zH,fA,hjn,Dc⟩:=dc.get h1 (i:=j) (j:=0) (x:=i64 y) (by omega) (by rw[anw,Nat.add_zero,anR,hy];rfl)
  injection zH with zH _ _
  subst zH
  obtain⟨Wp,MV⟩:=hl y (anz hy)
  refine⟨⟨by omega,by omega⟩,?_⟩
  rw[Nat.add_zero,anw]at Dc
  refine v6 fA Int.toNat_natCast anw Dc (ae d1) St ?_
  have hly:=Uk y
  refine Um.mk (fun w=>Qe _ (Gi y) 0 (by omega) NF hly w) ?_
  have e63:=abC Wp MV
  have agl:¬ ((63:Int)<0):=by omega
  generalize OA:CZ (l.take j)=t at*
  have ew:IntKind.i64.wrap (IntKind.i64.wrap (t.1+y.fdiv (2^min (Int.toNat 63) 64))+IntKind.i64.wrap (((t.2+Gi y+0) / 18446744073709551616:Nat):Int))=(LQ t y).1:=by
   rw[e63,wrap_add,Nat.add_zero,wrap64 (n:=(((t.2+Gi y) / 18446744073709551616:Nat):Int)) (by omega) (by omega)]
   rfl
  have ew2:(t.2+Gi y+0)%18446744073709551616=(LQ t y).2:=rfl
  simp(disch:=(first|omega| (simp only[Zs]<;>omega)|fail)) only[go_sem, ↓reduceIte,Zv,ae d1,if_neg agl,ew,ew2,d1]
  rw[wrap64 (n:=(j:Int)+1) (by omega) (by omega)]
  have abE:CZ (l.take (j+1))=LQ t y:=by
   rw[aoa,hy,←OA]
   exact Qc _ _
  refine⟨n - (j+1),by omega,f1.then ((ag.refl (fun z=>z=H.size+1) _).wr (fun _=>rfl) _) (fun z hz=>by omega),e1.wr (fun _=>rfl) _,j+1,rfl,by omega,?_,?_,rfl⟩
  ·rw[abE];exact Nat.mod_lt _ (by omega)
  ·rw[abE];exact ah d1
 ·have gD:j=n:=by omega
  subst gD
  rw[List.take_of_length_le (by omega)]at d1
  have b2:=ah (l:=[i64 (CZ l).1,u64 (CZ l).2]) b1
  refine v3 (ae d1) b1 (ae b2) ?_
  exact⟨rfl,f1.then ((ag.refl (fun z=>z=H.size) _).wr (fun _=>rfl) _) (fun z hz=>by omega)⟩
theorem qv{H:Hp}{n:Int}{a a':Option Addr}{c c':Nat}{es:List Ed}{ks:List Int}(h:dc H 3 (.slice a es.length c) es.length (eF es))(h':dc H 1 (.slice a' ks.length c') ks.length (ks.map i64))(hr:dJ n es=true)
  (hk:∀i∈ks,PP es i)(hl:ks.length≤1000000)(hw:∀e∈es, -9223372036854775808≤e.w∧e.w≤9223372036854775807)(Wh:es.length≤1000000000):
  af Tryz.prog GO [F8 n (.slice a es.length c),.slice a' ks.length c'] H fun v H'=>aw (v= .tuple [LR (mG (ks.map (wE es)).sum),.bool true].toArray∧ai H H'):=by
 refine bm G5 ?_
 have f0:ai H (H.new 52 [i64 n,.slice a es.length c]):=(ag.refl _ _).new _ _
 have b0:=aB H 52 [i64 n,.slice a es.length c]
 have Ib:(H.new 52 [i64 n,.slice a es.length c]).size=H.size+1:=by rw[aq]
 simp(disch:=(first|omega| (simp only[Zs]<;>omega)|fail)) only[go_sem, ↓reduceIte,Zv,F8]
 generalize H.new 52 [i64 n,.slice a es.length c]=H0 at*
 have fr:ai H0 (H0.new 36 [i64 0,u64 0]):=(ag.refl _ _).new _ _
 have r1:(H0.new 36 [i64 0,u64 0]).own (H.size+1)=some [i64 0,u64 0]:=aV Ib.symm
 have b1:=fr.own b0 (fun h=>h)
 generalize H0.new 36 [i64 0,u64 0]=H1 at*
 have f1:=f0.trans fr
 refine v1 (ae b1) ?_
 refine(j6 (n:=n) (h.fresh f1) Wh).mono ?_
 rintro _ H2 ⟨rfl,f2⟩
 rw[if_pos hr]
 have b2:=f2.own b1 (fun h=>h)
 have r2:=f2.own r1 (fun h=>h)
 have Y0:=f1.trans f2
 refine v1 aoi ?_
 have s0:Sl H2 1 (.slice none 0 0) ([]:List Int).length (([]:List Int).map i64) none:=Sl.nil _ _
 have hzr:=aA r2
 refine bk.intro (fun m env H'=>ai H H'∧H'.own H.size=some [i64 n,.slice a es.length c]∧H'.own (H.size+1)=some [i64 0,u64 0]∧∃ (j:Nat) (w:Value) (fp:Option Nat),m=ks.length - j∧j≤ks.length∧(∀b,fp=some b→H.size+2≤b)∧Sl H' 1 w ((ks.take j).map (wE es)).length (((ks.take j).map (wE es)).map i64) fp∧
  env=[(2,ptr H.size),(4,ptr (H.size+1)),(6,w),(13,.slice a' ks.length c'),(14,i64 ks.length),(15,i64 j)]) ks.length ⟨Y0,b2,r2,0,_,none,by omega,by omega,(fun b hb=>by cases hb),s0,rfl⟩ ?_
 clear s0 b1 b0 f0 b2 r2 r1 f1 f2 Y0 hzr
 rintro m env H3 ⟨f3,b3,r3,j,w,fp,hm,hj,hb,s3,rfl⟩
 have QB:=aA r3
 have h3:=h.fresh f3
 have QD:=h'.fresh f3
 refine vs ?_
 refine am.dec (fun aO=>?_) (fun aO=>?_)<;>refine vs ?_
 ·obtain⟨x,hx⟩:∃x,ks[j]? =some x:=⟨_,ans (by omega)⟩
  obtain⟨ix,ex,rfl,hex,alz⟩:=(hk x (anz hx)).get
  obtain⟨_,bx,ox,lx,rfl,agm,fS⟩:=dc.num QD hx
  obtain⟨_,be,oe,le,rfl,Jq,alA,adU,hd0,QR,jv⟩:=dc.Cz h3 hex
  refine⟨⟨by omega,by omega⟩,?_⟩
  refine v5 agm Int.toNat_natCast anw fS (ae b3) ?_
  refine am.dec (fun h=>by omega) (fun _=>?_)
  refine v1 (ae b3) ?_
  refine am.dec (fun h=>by omega) (fun _=>?_)
  refine v1 (ae b3) ?_
  refine⟨⟨by omega,by omega⟩,?_⟩
  refine v3 Jq Int.toNat_natCast jv ?_
  have OA:(ks.take (j+1)).map (wE es)=(ks.take j).map (wE es)++[ex.w]:=by rw[aoa,hx,an8];simp[Oy hex]
  refine AO (B:=H.size+2) hb (by omega) s3 _ (by simp;omega) ?_
  intro w' H' b' jy s' e'
  rw[←OA]at s'
  refine vs ?_
  rw[wrap64 (n:=(j:Int)+1) (by omega) (by omega)]
  exact⟨ks.length - (j+1),by omega,f3.then e' (fun z hz=>by omega),e'.own b3 (fun h=>by omega),e'.own r3 (fun h=>by omega),j+1,w',b',rfl,by omega,jy,s',rfl⟩
 ·have gD:j=ks.length:=by omega
  subst gD
  rw[an4]at s3
  obtain⟨wa,wc,rfl,_⟩:=dD s3
  have Sy:∀x∈ks.map (wE es), -9223372036854775808≤x∧x≤9223372036854775807:=fun x hx=>by
   obtain⟨i,hi,rfl⟩:=anS.1 hx
   obtain⟨ik,e,rfl,he,_⟩:=(hk i hi).get
   rw[Oy he]
   exact hw e (anz he)
  refine(C1 s3.rd (by simp;omega) Sy).mono ?_
  rintro _ H4 ⟨rfl,f4⟩
  rw[Sv Sy (by simp;omega)]
  have r4:=f4.own r3 (fun h=>h)
  have r5:=ah (l:=[i64 (mG (ks.map (wE es)).sum).1,u64 (mG (ks.map (wE es)).sum).2]) r4
  simp(disch:=(first|omega| (simp only[Zs]<;>omega)|fail)) only[go_sem, ↓reduceIte,Zv,LR,r4,ae r5]
  exact⟨rfl,(f3.trans f4).then ((ag.refl (fun z=>z=H.size+1) _).wr (fun _=>rfl) _) (fun z hz=>by omega)⟩
theorem zy(s t:Int×Nat)(H:Hp):af Tryz.prog DB [LR s,LR t] H fun v H'=>aw (v=i64 (DW s.1 s.2 t.1 t.2)∧ai H H'):=by
 refine bm DG ?_
 simp(disch:=(first|omega| (simp only[Zs]<;>omega)|fail)) only[go_sem, ↓reduceIte,Zv,LR]
 refine⟨_,(ja s.1 t.1 _).mono fun _ _ h=>⟨h.out.1,h.out.2.symm⟩,?_⟩
 refine(iC s.2 t.2 _).mono ?_
 rintro _ _ ⟨rfl,rfl⟩
 refine vs ?_
 refine(sF (n:=2) (xs:=[uA s.1 t.1,uA s.2 t.2]) (Sl.cf (size:=1) rfl (by simp only[aq])).rd (by omega) ⟨_,_,rfl⟩).mono ?_
 rintro _ _ ⟨rfl,rfl⟩
 exact⟨rfl,(((ag.refl _ _).new _ _).new _ _).new _ _⟩
end Go.Proofs.YtjlnnljohemifaaGreat
