/- Texts put behind each other. -/
import Derived.Test.YtjlnnljohemifaaGreatK98
import Derived.Test.YtjlnnljohemifaaGreatK0
import Derived.Test.YtjlnnljohemifaaGreatK2
import Derived.Test.YtjlnnljohemifaaGreatK3
import Derived.Test.YtjlnnljohemifaaGreatK4
import Derived.Test.YtjlnnljohemifaaGreatK5
import Derived.Test.YtjlnnljohemifaaGreatK6
import Derived.Test.YtjlnnljohemifaaGreatK8
import Derived.Test.YtjlnnljohemifaaGreatK9
import Derived.Test.YtjlnnljohemifaaGreatK10
import Derived.Test.YtjlnnljohemifaaGreatK11
import Derived.Test.YtjlnnljohemifaaGreatK12
import Derived.Test.YtjlnnljohemifaaGreatK13
import Derived.Test.YtjlnnljohemifaaGreatK14
import Derived.Test.YtjlnnljohemifaaGreatK15
import Derived.Test.YtjlnnljohemifaaGreatK16
import Derived.Test.YtjlnnljohemifaaGreatK17
import Derived.Test.YtjlnnljohemifaaGreatK18
import Derived.Test.YtjlnnljohemifaaGreatK19
import Derived.Test.YtjlnnljohemifaaGreatK20
import Derived.Test.YtjlnnljohemifaaGreatK21
import Derived.Test.YtjlnnljohemifaaGreatK22
import Derived.Test.YtjlnnljohemifaaGreatK24
import Derived.Test.YtjlnnljohemifaaGreatK25
import Derived.Test.YtjlnnljohemifaaGreatK26
import Derived.Test.YtjlnnljohemifaaGreatK27
import Derived.Test.YtjlnnljohemifaaGreatK28
import Derived.Test.YtjlnnljohemifaaGreatK29
import Derived.Test.YtjlnnljohemifaaGreatK30
import Derived.Test.YtjlnnljohemifaaGreatK31
import Derived.Test.YtjlnnljohemifaaGreatK32
import Derived.Test.YtjlnnljohemifaaGreatK33
import Derived.Test.YtjlnnljohemifaaGreatK34
import Derived.Test.YtjlnnljohemifaaGreatK35
import Derived.Test.YtjlnnljohemifaaGreatK36
import Derived.Test.YtjlnnljohemifaaGreatK48
import Derived.Test.YtjlnnljohemifaaGreatK50
import Derived.Test.YtjlnnljohemifaaGreatK51
import Derived.Test.YtjlnnljohemifaaGreatK52
import Derived.Test.YtjlnnljohemifaaGreatK53
import Derived.Test.YtjlnnljohemifaaGreatK54
import Derived.Test.YtjlnnljohemifaaGreatK55
set_option maxRecDepth 100000
set_option maxHeartbeats 8000000
set_option linter.unusedVariables false
set_option linter.unusedSimpArgs false
namespace Go.Proofs.YtjlnnljohemifaaGreat
open Go Go.Vc
def afH(ws:List (List Bool)):List Int→List Bool→Option (List Bool)
 | [],out=>some out
 |s::r,out=>if s<0∨(ws.length:Int)≤s∨1048576<out.length+(ws.getD s.toNat []).length then none else afH ws r (out++ws.getD s.toNat [])
def ake:Option (List Bool)→Value
 |some o=>.tuple [aav o,i64 0].toArray
 |none=>.tuple [abl [],i64 201].toArray
theorem ahW{ws:List (List Bool)}{s:Nat}(h:s<ws.length):(ws.map aav)[s]? =some (aav (ws.getD s [])):=by
 rw[anR,adT h]
 rfl
theorem aio{α:Type}{l:List α}{i:Nat}{x:α}(h:l[i]? =some x):l.drop i=x::l.drop (i+1):=by
 obtain⟨h1,h2⟩:=anu.1 h
 rw[aoK h1,h2]
theorem aip{ws:List (List Bool)}{n:Nat}(h:∀w∈ws,w.length≤n)(s:Nat):(ws.getD s []).length≤n:=by
 by_cases hs:s<ws.length
 ·exact h _ (anz (adT hs))
 ·rw[anx,anK (by omega)]
  exact ao2 _
theorem aiY{a b:Bool}(h:bt a=bt b):a=b:=by cases a<;>cases b<;>first|rfl| (exact absurd h (by decide))
theorem abb{a b:List Bool}(h:a.map bt=b.map bt):a=b:=by
 induction a generalizing b with
 |nil=>
  cases b with
  |nil=>rfl
  |cons y b=>simp at h
 |cons x a ih=>
  cases b with
  |nil=>simp at h
  |cons y b=>
   rw[aom,aom,List.cons.injEq]at h
   rw[aiY h.1,ih h.2]
abbrev ad2(out:List Nat):List Int:=out.map fun(s:Nat)=>(s:Int)
def aiZ(ws:List (List Bool))(bits:List UInt8)(H':Hp)(v:Value):Prop:=
 (∃out:List Nat,InW ws out∧(bitsOf ws out).map bt=bits∧bits.length≤1048576∧∃a c,v= .tuple [.slice a out.length c,i64 0].toArray∧dc H' 1 (.slice a out.length c) out.length ((ad2 out).map i64))∨
 ((∀out,InW ws out→(bitsOf ws out).map bt=bits→1048576<bits.length)∧v= .tuple [.slice none 0 0,i64 201].toArray)
theorem adK{H:Hp}{a:Option Addr}{c:Nat}{xs:List Nat}(f:FuncId)(q:Nat→Bool)(h1:dc H 1 (.slice a xs.length c) xs.length (u8s xs))(Dx:ef Tryz.prog f=true)
  (hf:∀x,x∈xs→af Tryz.prog f [.int .u8 (x:Int)] H fun v Gu=>aw (v= .bool (q x)∧Gu=H))(hm:xs.length≤1000000000):
  af Tryz.prog aat [.slice a xs.length c,.func (.func f) #[] #[]] H fun v H'=>aw (∃i:Int,v=i64 i∧(0≤i↔xs.any q=true)∧H'=H):=by
 refine bm aau ?_
 refine vs ?_
 refine bk.intro (fun m env H'=>H'=H∧∃j:Nat,m=xs.length - j∧j≤xs.length∧(∀e∈xs.take j,q e=false)∧env=[(0,.slice a xs.length c),(1,.func (.func f) #[] #[]),(7,i64 xs.length),(8,i64 j)]) xs.length ⟨rfl,0,by omega,by omega,by simp,rfl⟩ ?_
 rintro m env H1 ⟨rfl,j,Va,hj,db,rfl⟩
 refine vs ?_
 refine am.dec (fun aO=>?_) (fun aO=>?_)<;>refine vs ?_
 ·have gD:j<xs.length:=by omega
  obtain⟨e,he⟩:∃e,xs[j]? =some e:=⟨_,ans gD⟩
  obtain⟨_,b,o,lb,rfl,Jq,bX⟩:=dc.byte h1 he
  refine⟨⟨by omega,by omega⟩,?_⟩
  have bL:=anz he
  refine v4 Jq Int.toNat_natCast anw bX ?_
  refine⟨Dx,?_⟩
  refine af.mono (by simpa using hf e bL) ?_
  rintro _ H2 ⟨rfl,rfl⟩
  refine vs ?_
  cases hx:q e
  ·refine vs ?_
   rw[wrap64 (n:=(j:Int)+1) (by omega) (by omega)]
   refine⟨xs.length - (j+1),by omega,trivial,j+1,rfl,by omega,?_,rfl⟩
   intro e' ir
   rw[aoa,he]at ir
   rcases anH.1 ir with ir|ir
   ·exact db e' ir
   ·have:e'=e:=by simpa using ir
    rw[this];exact hx
  ·refine vs ?_
   exact⟨j,rfl,⟨fun _=>List.any_eq_true.2 ⟨e,bL,hx⟩,fun _=>by omega⟩,rfl⟩
 ·refine⟨-1,rfl,?_,rfl⟩
  have gD:j=xs.length:=by omega
  subst gD
  rw[an4]at db
  have:xs.any q=false:=List.any_eq_false.2 fun e he=>by rw[db e he];simp
  rw[this]
  simp
theorem acK{H:Hp}{a:Option Addr}{c:Nat}{xs:List Nat}(f:FuncId)(q:Nat→Bool)(h1:dc H 1 (.slice a xs.length c) xs.length (u8s xs))(Dx:ef Tryz.prog f=true)
  (hf:∀x,x∈xs→af Tryz.prog f [.int .u8 (x:Int)] H fun v Gu=>aw (v= .bool (q x)∧Gu=H))(hm:xs.length≤1000000000):
  af Tryz.prog T0 [.slice a xs.length c,.func (.func f) #[] #[]] H fun v H'=>aw (v= .bool (xs.any q)∧H'=H):=by
 refine bm T8 ?_
 refine vs ?_
 refine(adK f q h1 Dx hf hm).mono ?_
 rintro _ H1 ⟨i,rfl,hi,rfl⟩
 refine vs ?_
 refine⟨anP Value.bool ?_,rfl⟩
 cases hx:xs.any q
 ·exact anV fun h=>by have:=hi.1 h;rw[hx]at this;cases this
 ·exact anI (hi.2 hx)
theorem adh(H:Hp)(x:Nat):af Tryz.prog aaT [.int .u8 (x:Int)] H fun v H'=>aw (v= .bool (!decide (x=48) && !decide (x=49))∧H'=H):=by
 refine bm ad0 ?_
 refine vs ?_
 refine am.dec (fun h=>?_) (fun h=>?_)<;>refine vs ?_
 ·rw[anI (show x=48 by omega)]
  exact⟨rfl,rfl⟩
 ·rw[anV (show¬x=48 by omega)]
  refine⟨anP Value.bool ?_,rfl⟩
  simp
  omega
theorem ahq(l:List UInt8):((⟨l.toArray⟩:ByteArray).data.toList.map fun b=>Value.int .u8 b.toNat)=u8s (l.map UInt8.toNat):=by
 unfold u8s
 simp only[List.map_map]
 rfl
theorem ahr(l:List UInt8):(!(l.map UInt8.toNat).any fun x=> !decide (x=48) && !decide (x=49))=l.all LL:=by
 rw[List.any_map]
 induction l with
 |nil=>rfl
 |cons c l ih=>
  rw[List.any_cons,List.all_cons,←ih,Bool.not_or]
  congr 1
  unfold LL
  have e1:decide (c.toNat=48)=decide (c=48):=by rw[decide_eq_decide];exact⟨fun h=>UInt8.toNat_inj.1 h,fun h=>by rw[h];rfl⟩
  have e2:decide (c.toNat=49)=decide (c=49):=by rw[decide_eq_decide];exact⟨fun h=>UInt8.toNat_inj.1 h,fun h=>by rw[h];rfl⟩
  simp only[Function.comp_apply,e1,e2]
  simp
theorem aaJ(H:Hp){bits:List UInt8}(hl:bits.length≤1000000000):
  af Tryz.prog ae2 [abl bits] H fun v H'=>aw (v= .bool (decide (bits.length≤1048576) && bits.all LL)∧ai H H'):=by
 refine bm ae6 ?_
 refine vs ?_
 rw[E2]
 refine am.dec (fun h=>?_) (fun h=>?_)<;>refine vs ?_
 rotate_left
 ·rw[anV (show¬bits.length≤1048576 by omega)]
  exact⟨rfl,ag.refl _ _⟩
 intro cc Ht
 rw[E2]at Ht
 rw[E2,ahq]
 have e1:ai H (H.Mt 5 (u8s (bits.map UInt8.toNat)++List.replicate (cc - bits.length) (.int .u8 0))):=(ag.refl _ _).Mt _ _
 have r1:dc (H.Mt 5 (u8s (bits.map UInt8.toNat)++List.replicate (cc - bits.length) (.int .u8 0))) 1 (.slice (some ⟨H.size,0,none⟩) (bits.map UInt8.toNat).length cc) (bits.map UInt8.toNat).length (u8s (bits.map UInt8.toNat)):=
  ⟨by simp[adP],.inr ⟨H.size,0,cc,_,rfl,Qn (ac7 _ _ _),by simp[adP],by rw[List.drop_zero,anw];exact List.take_left' (by rw[adP])⟩⟩
 have oK:(bits.map UInt8.toNat).length=bits.length:=anQ ..
 rw[oK]at r1
 generalize H.Mt 5 (u8s (bits.map UInt8.toNat)++List.replicate (cc - bits.length) (.int .u8 0))=H1 at*
 refine vs ?_
 have Gz:=acK (H:=H1) (a:=some ⟨H.size,0,none⟩) (c:=cc) (xs:=bits.map UInt8.toNat) aaT _ (by rw[oK];exact r1) (by kernel_rfl) (fun x _=>adh H1 x) (by omega)
 rw[oK]at Gz
 refine Gz.mono ?_
 rintro _ _ ⟨rfl,rfl⟩
 refine vs ?_
 rw[ahr,anI (show bits.length≤1048576 by omega)]
 exact⟨rfl,e1⟩
theorem afd{bits:List UInt8}(h:bits.all LL=true):∃w:List Bool,bits=w.map bt:=by
 refine⟨bits.map fun c=>decide (c=49),?_⟩
 rw[List.map_map]
 symm
 refine(apn fun c hc=>?_).trans (List.map_id _)
 have:=aoA.1 h c hc
 unfold LL at this
 simp only[ape,anU]at this
 simp only[Function.comp_apply,id_eq]
 rcases this with rfl|rfl<;>rfl
theorem ahX(w:List Bool):(w.map bt).all LL=true:=by
 rw[aoA]
 intro c hc
 obtain⟨b,_,rfl⟩:=anS.1 hc
 cases b<;>decide
def aiH(bits:List UInt8)(H':Hp)(v:Value):Prop:=
 (¬ (bits.all LL=true∧bits.length≤1048576)∧v= .tuple [.slice none 0 0,i64 201].toArray)∨
 ∃w a c,bits=w.map bt∧w.length≤1048576∧v= .tuple [.slice a (adW w).length c,i64 0].toArray∧dc H' 1 (.slice a (adW w).length c) (adW w).length (u8s (adW w))
theorem ahs{f:List Bool}{s k:Nat}{b:Bool}(h:f[s+k]? =some b):wE ((f.drop s).take (k+1))=2*wE ((f.drop s).take k)+b.toNat:=by
 rw[aoa,aob,h]
 exact D8 _ _
theorem afg(f:List Bool)(s k:Nat)(hk:k≤8):wE ((f.drop s).take k)<256:=aiT (by rw[aoj];omega)
theorem Sl.byte{H:Hp}{w:Value}{ns:List Nat}{b:Nat}(s:Sl H 1 w ns.length (u8s ns) (some b)):∃lb c,w= .slice (some ⟨b,0,none⟩) ns.length c∧H.own b=some lb∧∀ (i x:Nat),ns[i]? =some x→lb[i]? =some (Value.int .u8 (x:Int)):=by
 obtain⟨_,l,c,h1,h2,h3,h4,h5⟩:=s
 refine⟨l,c,h1,h2,fun i x hx=>?_⟩
 have h7:(u8s ns)[i]? =some (Value.int .u8 (x:Int)):=by unfold u8s;rw[anR,hx];rfl
 rw[←h5,an9]at h7
 split at h7
 ·exact h7
 ·cases h7
structure aaX(H:Hp)(x:Nat)(S:Nat→Prop)(ws:List (List Bool)):Prop where
 TE:∃wb tb tr G9,S8 H x wb tb ws tr∧adA tr G9 ws∧S x∧S wb∧S tb∧tr.length≤1000000000
 slt:∀z,S z→z<H.size
 free:aaN ws
 len:ws.length≤1000000
 short:∀w∈ws,w.length≤1000
theorem aaX.ext{H H':Hp}{x:Nat}{S T:Nat→Prop}{ws:List (List Bool)}(h:aaX H x S ws)(e:ag T H H')(hd:∀z,S z→¬T z):aaX H' x S ws:=by
 obtain⟨⟨wb,tb,tr,G9,m,t,s1,s2,s3,hl⟩,h2,h3,h4,h5⟩:=h
 exact⟨⟨wb,tb,tr,G9,m.ext e (hd _ s1) (hd _ s2) (hd _ s3),t,s1,s2,s3,hl⟩,fun z hz=>anT (h2 z hz) e.size,h3,h4,h5⟩
theorem aaX.fresh{H H':Hp}{x:Nat}{S:Nat→Prop}{ws:List (List Bool)}(h:aaX H x S ws)(e:ai H H'):aaX H' x S ws:=h.ext e fun _ _ h=>h
def aaZ(ws:List (List Bool))(s:Int):List Bool:=if s<0 then[]else ws.getD s.toNat []
theorem S9{H:Hp}{x:Nat}{S:Nat→Prop}{ws:List (List Bool)}(h:aaX H x S ws)(s:Int):af Tryz.prog ado [ptr x,i64 s] H fun v H'=>aw (v=aav (aaZ ws s)∧H'=H):=by
 obtain⟨wb,tb,tr,G9,m,_⟩:=h.TE
 obtain⟨tv,h1,h2⟩:=m.TE
 refine bm adr ?_
 refine vs ?_
 refine am.dec (fun g=>?_) (fun g=>?_)<;>refine vs ?_
 ·unfold aaZ
  rw[if_pos g]
  exact⟨rfl,rfl⟩
 refine v1 (ae h1) ?_
 refine am.dec (fun g2=>?_) (fun g2=>?_)<;>refine vs ?_
 ·unfold aaZ
  rw[if_neg g,anx,anK (by omega)]
  exact⟨rfl,rfl⟩
 refine v1 (ae h1) ?_
 have Qv:=ahW (ws:=ws) (s:=s.toNat) (by omega)
 refine⟨⟨by omega,by omega⟩,?_⟩
 refine v4 (ae m.words) ant anw Qv ?_
 unfold aaZ
 rw[if_neg g]
 exact⟨rfl,rfl⟩
theorem agv(w:List Bool):u8s ((w.map bt).map UInt8.toNat)=w.map fw:=by
 unfold u8s
 simp only[List.map_map]
 rfl
theorem adu{H:Hp}{x:Nat}{S:Nat→Prop}{ws:List (List Bool)}(h:aaX H x S ws){bits:List UInt8}(hl:bits.length≤1000000000):
  af Tryz.prog abT [ptr x,abl bits] H fun v H'=>aw (ai H H'∧aiZ ws bits H' v):=by
 refine bm abV ?_
 refine vs ?_
 refine(aaJ H hl).mono ?_
 rintro _ H1 ⟨rfl,f1⟩
 refine vs ?_
 by_cases hb:bits.all LL=true∧bits.length≤1048576
 rotate_left
 ·have e:(decide (bits.length≤1048576) && bits.all LL)=false:=by
   rw[←Bool.not_eq_true,aol,anU]
   exact fun h=>hb ⟨h.2,h.1⟩
  refine am.aW e ?_
  refine vs ?_
  refine⟨f1,.inr ⟨fun out _ e=>?_,rfl⟩⟩
  apply anW
  intro oY
  exact hb ⟨by rw[←e];exact ahX _,by omega⟩
 have e:(decide (bits.length≤1048576) && bits.all LL)=true:=by
  rw[aol,anU]
  exact⟨hb.2,hb.1⟩
 refine am.cF e ?_
 obtain⟨Py,rR⟩:=hb
 obtain⟨w,rfl⟩:=afd Py
 rw[anQ]at rR
 refine vs ?_
 intro cc Ht
 rw[E2,anQ]at Ht ⊢
 rw[acJ]
 have e1:ai H1 (H1.Mt 5 (w.map fw++List.replicate (cc - w.length) (.int .u8 0))):=(ag.refl _ _).Mt _ _
 have r1:dc (H1.Mt 5 (w.map fw++List.replicate (cc - w.length) (.int .u8 0))) 1 (.slice (some ⟨H1.size,0,none⟩) w.length cc) w.length (w.map fw):=
  ⟨by simp,.inr ⟨H1.size,0,cc,_,rfl,Qn (ac7 _ _ _),by simp,by simp⟩⟩
 generalize H1.Mt 5 (w.map fw++List.replicate (cc - w.length) (.int .u8 0))=H2 at*
 have h2:=(h.fresh f1).fresh e1
 have f2:=f1.trans e1
 have z1:=f1.size
 have z2:=e1.size
 obtain⟨wb,tb,tr,G9,m2,t2,s1,s2,s3,Mc⟩:=id h2.TE
 have BA:=h.free
 refine vs ?_
 refine bk.intro (fun m env H'=>∃ (j at_:Nat) (out:List Nat) (cur:List Bool) (wv:Value) (fp:Option Nat),m=w.length - j∧j≤w.length∧ai H H'∧ac2 G9 ws out cur at_∧w.take j=bitsOf ws out++cur∧out.length≤j∧
  (∀b,fp=some b→H2.size≤b)∧Sl H' 1 wv (ad2 out).length ((ad2 out).map i64) fp∧ag (fun z=>H2.size≤z) H2 H'∧
  env=[(0,ptr x),(6,wv),(7,i64 at_),(15,.slice (some ⟨H1.size,0,none⟩) w.length cc),(16,i64 w.length),(17,i64 j)]) w.length
  ⟨0,0,[],[],_,none,by omega,by omega,f2,ac2.begin t2 BA,by rw[List.take_zero];rfl,by simp,(fun b h=>by cases h),Sl.nil _ _,ag.refl _ _,rfl⟩ ?_
 rintro m env H3 ⟨j,at_,out,cur,wv,fp,rfl,hj,f3,rb,OA,ZN,gu,s5,e3,rfl⟩
 have z3:=e3.size
 have m3:=m2.ext e3 (fun hz=>by have:=h2.slt _ s1;omega) (fun hz=>by have:=h2.slt _ s2;omega) (fun hz=>by have:=h2.slt _ s3;omega)
 have r3:=r1.ext e3 (fun b hb hz=>by omega)
 refine vs ?_
 refine am.dec (fun aO=>?_) (fun aO=>?_)<;>refine vs ?_
 rotate_left
 ·have gD:j=w.length:=by omega
  subst gD
  rw[an4]at OA
  refine am.dec (fun hz=>?_) (fun hz=>?_)<;>refine vs ?_
  ·have TH:at_=0:=by omega
   subst TH
   have lu:=rb.whole t2
   rw[lu,aon]at OA
   obtain⟨a,c,rfl⟩:=afb s5.rd
   have r5:=s5.rd
   rw[anQ]at r5
   refine⟨f3,.inl ⟨out,rb.inw,by rw[OA],by rw[anQ];exact rR,a,c,?_,r5⟩⟩
   rw[anQ]
   rfl
  ·refine⟨f3,.inr ⟨fun aaj h' e'=>?_,rfl⟩⟩
   have hm:=abb e'
   exact absurd (by rw[hm,OA]) (rb.left t2 BA (by omega) aaj h')
 obtain⟨c,l,p0,p1,p2,p3,p4⟩:=m3.adm
 obtain⟨b,hbj⟩:∃b,w[j]? =some b:=⟨_,ans (by omega)⟩
 have bX:(w.map fw)[j]? =some (fw b):=by rw[anR,hbj];rfl
 obtain⟨_,⟨h0,_⟩| ⟨b2,o2',c2',lb,aiX,fA,oY,fR⟩⟩:=id r3
 ·omega
 injection aiX with q1 q2 q3
 injection q1 with q1
 injection q1 with q1 q1' _
 subst q1;subst q1';subst q3
 have Dc:lb[j]? =some (fw b):=by
  rw[List.drop_zero]at fR
  exact aaC fR bX
 obtain⟨y,hy⟩:=t2.at rb.path
 have u0:=(anu.1 hy).1
 have JU:=aaC p4 (ae9 hy b)
 have hbt:(b.toNat:Int)<2:=by cases b<;>decide
 have am1:(0:Int)≤(b.toNat:Int):=by omega
 have oK:=aba tr
 have abE:w.take (j+1)=bitsOf ws out++(cur++[b]):=by rw[aoa,hbj,OA,apq];rfl
 refine⟨⟨by omega,by omega⟩,?_⟩
 refine v6 fA Int.toNat_natCast ant anw Dc (ae p0) ?_
 rw[ahT]
 refine⟨⟨by omega,by omega⟩,?_⟩
 refine v4 Int.toNat_natCast ant anw Nat.add_zero ?_
 refine⟨by omega,?_⟩
 refine v6 (ae p1) Int.toNat_natCast ant anw Nat.add_zero JU ?_
 refine am.dec (fun hz=>?_) (fun hz=>?_)<;>refine vs ?_
 ·refine⟨f3,.inr ⟨fun aaj h' e'=>?_,rfl⟩⟩
  have hm:=abb e'
  refine absurd ?_ (rb.fail t2 BA hy (c:=b) (by omega) (w.drop (j+1)) aaj h')
  rw[hm,←List.singleton_append,←apq cur,←apq,←abE,List.take_append_drop]
 obtain⟨y2,DO⟩:∃y2,tr[y.nx b]? =some y2:=by
  obtain⟨P,t,hP⟩:=t2.adm
  rcases t.Ov at_ y cur b hy rb.path with ⟨h1,_⟩| ⟨_,h1⟩
  ·omega
  ·exact t2.at h1
 have aev:=(anu.1 DO).1
 have hsy:=aaC p4 (ag1 DO).2.2
 refine v1 (ae p0) ?_
 refine⟨⟨by omega,by omega⟩,?_⟩
 refine v6 (ae p1) Int.toNat_natCast ant anw Nat.add_zero hsy ?_
 rcases rb.go t2 BA hy (c:=b) (by omega) DO with ⟨eM,rb2⟩| ⟨s,eM,K7,rb2,hbo⟩
 ·refine am.dec (fun OP=>absurd OP (by omega)) (fun _=>?_)
  refine vs ?_
  rw[wrap64 (n:=(j:Int)+1) (by omega) (by omega)]
  exact⟨w.length - (j+1),by omega,j+1,y.nx b,out,cur++[b],wv,fp,rfl,by omega,f3,rb2,abE,by omega,gu,s5,e3,rfl⟩
 ·refine am.dec (fun _=>?_) (fun OP=>absurd (by omega) OP)
  refine vs ?_
  rw[eM]
  refine AO (B:=H2.size) gu z3 s5 (s:Int) (by rw[anQ];omega) fun w' H' cO jj s' e'=>?_
  refine vs ?_
  rw[wrap64 (n:=(j:Int)+1) (by omega) (by omega)]
  refine⟨w.length - (j+1),by omega,j+1,0,out++[s],[],w',cO,rfl,by omega,f3.then e' (fun z hz=>by omega),rb2,?_,by simp;omega,jj,?_,e3.trans e',rfl⟩
  ·rw[abE,hbo,aon]
  ·have e2:ad2 (out++[s])=ad2 out++[(s:Int)]:=by simp[ad2]
   rw[e2]
   exact s'
theorem ahY(n:Nat):cA [abl []] n=(List.replicate n ([]:List Bool)).map aav:=by
 unfold cA
 induction n with
 |zero=>rfl
 |succ n ih=>rw[aoc,aos,ih,aoc];rfl
theorem aht(l:List Nat):∀ (o:List Nat) (st:List Bool×List (List Bool)),(o.foldl (aaB l) st).2.length=st.2.length:=by
 intro o
 induction o with
 |nil=>intro st;rfl
 |cons x o ih=>intro st;rw[List.foldl_cons,ih];unfold aaB;rw[anv]
theorem Bi.new(H:Hp):Bi H.iI H.size []:=⟨[],0,NZ H,rfl,aoG⟩
theorem W8.zero(n:Nat):W8 n (PO (n:Int) 4294967295):=⟨by simp[PO],rfl,fun x h0 h1=>by simp[PO]at h1;omega⟩
theorem W8.room{n:Nat}{A:Ar}(h:W8 n A){x:Int}(h0:0≤x∧x<n)(hl:¬A.live x)(ok:w7 A):A.pick≠none:=by
 have aX:=h.len
 have JU:=ok.nx
 unfold Ar.pick
 split
 ·simp
 ·rename_i hw
  rw[Classical.not_not]at hw
  split
  ·rename_i he
   have:=h.free x h0.1 (by omega) hl
   rw[hw]at this
   cases this
  ·simp
theorem Vm.first{n at_:Nat}{w:Nw}{A:Ar}{L:List ((Int×Nat)×Value)}{eR:List (Int×Nat)}(h:Vm n w A L eR at_){x:Int}{y:Ce}(hf:w.first 1 x)(hy:w.cs[x.toNat]? =some y):0≤x∧x<n∧∃id:Nat,y=(1,y.2.1,(id:Int)+1)∧Ys (y.2.1,id) eR∧((x,A.bz x),i64 id)∈L:=by
 obtain⟨_,f2,f3⟩:=bN.1 hf
 obtain⟨x0,x1,_⟩:=aD (w:=w) (x:=x) (by omega)
 have MV:=j0 x0 hy
 rw[f2]at MV
 have aX:w.cs.length=n:=by rw[h.lk.len];exact h.YY.len
 rcases h.c1 x y x0 hy with h0| ⟨_,id,e1,e2,e3⟩
 ·omega
 refine⟨x0,by omega,id,?_,⟨e2,fun q hq aP=>?_⟩,e3⟩
 ·obtain⟨a,b,c⟩:=y
  simp only at MV e1 ⊢
  rw[←MV,e1]
 ·obtain⟨z,z0,hz⟩:=h.c2 q hq
  have WW:z≠x:=by
   intro e
   rw[e,hy]at hz
   injection hz with hz
   rw[hz]at e1
   simp only at e1
   omega
  have aO:=f3 z (j0 z0 hz) WW
  unfold aQ at aO
  have k1:w.key x=y.2.1∧w.seq x=y.2.2:=by
   unfold Nw.key Nw.seq
   simp only[anx,hy]
   exact⟨rfl,rfl⟩
  have k2:w.key z=q.1∧w.seq z=(q.2:Int)+1:=by
   unfold Nw.key Nw.seq
   simp only[anx,hz]
   exact⟨rfl,rfl⟩
  rw[k1.1,k1.2,k2.1,k2.2]at aO
  simp only[anU]at aO
  simp only
  omega
theorem Vm.ne0{n at_:Nat}{w:Nw}{A:Ar}{L:List ((Int×Nat)×Value)}{eR:List (Int×Nat)}(h:Vm n w A L eR at_)(hp:eR≠[]):w.len 1≠0:=by
 intro h0
 cases eR with
 |nil=>exact hp rfl
 |cons p r=>
  obtain⟨x,x0,hx⟩:=h.c2 p (by simp)
  exact(uC (by omega)).1 h0 x (j0 x0 hx)
theorem Vm.zero(n:Nat):Vm n (zj (n:Int)).make (PO (n:Int) 4294967295) [] [] 0:=by
 have hgz:∀x:Int,(PO (n:Int) 4294967295).bz x=0:=by
  intro x
  unfold Ar.bz PO
  simp only[anx,Int.toNat_natCast,aoN]
  split<;>rfl
 have hlz:∀x,¬ (PO (n:Int) 4294967295).live x:=by
  rintro x ⟨_,hx⟩
  unfold PO at hx
  simp only[Int.toNat_natCast,aoN]at hx
  split at hx<;>simp at hx
 have hiz:∀x,¬cT (zj (n:Int)).make.cs x:=fun x hx=>lf (n:Int) x (bq.2 hx)
 refine⟨⟨by omega,rfl⟩,W8.zero n,⟨by simp[zj,PO,Nw.make],fun x=>⟨fun h=>absurd h (hiz x),fun h=>absurd h (hlz x)⟩⟩,⟨fun x hx=>(by cases hx),aoG,fun x _=>hlz x,?_,ao2 _⟩,fun x y x0 hy=>?_,fun p hp=>(by cases hp),fun x _=>by rw[hgz];exact anG _,fun p hp=>(by cases hp),rfl,List.Pairwise.nil,fun p hp=>(by cases hp),rfl⟩
 ·show(0:Int)=((List.replicate (n:Int).toNat ((0:Nat),false)).countP (·.2):Nat)
  rw[aoW.2]
  ·rfl
  ·intro a ha
   rw[aoF ha]
   simp
 ·have hy:(List.replicate (n:Int).toNat ((0,0,0):Ce))[x.toNat]? =some y:=hy
  exact .inl (by rw[aoF (anz hy)])
theorem Vm.room{n at_:Nat}{w:Nw}{A:Ar}{L:List ((Int×Nat)×Value)}{eR:List (Int×Nat)}(h:Vm n w A L eR at_)(hp:eR.length<n):A.pick≠none:=by
 have h1:=h.ok.ct
 have h2:=h.cn
 have h3:=h.YY.len
 have h4:∃y∈A.g,y.2=false:=by
  apply anW
  intro bK
  have:A.aR=A.g.length:=by
   unfold Ar.aR
   rw[List.countP_eq_length]
   intro y hy
   cases hb:y.2
   ·exact absurd ⟨y,hy,hb⟩ bK
   ·rfl
  omega
 obtain⟨y,hy,hb⟩:=h4
 obtain⟨i,hi⟩:=an6 hy
 have oZ:=(anu.1 hi).1
 refine h.YY.room (x:=(i:Int)) (by omega) (fun hl=>?_) h.ok
 have:=hl.2
 rw[Int.toNat_natCast,hi]at this
 simp[hb]at this
structure JnM(H:Hp)(sb mb mp s:Nat)(S:Nat→Prop)(w:Nw)(A:Ar)(q:Int)(L:List ((Int×Nat)×Value)):Prop where
 st:Ec H s S w A q
 o1:H.own sb=some [ptr s]
 o2:H.own mb=some [.map (some mp)]
 m:Bi H mp L
 n1:¬S sb∧¬S mb∧¬S mp
 n2:mp≠sb∧mp≠mb
theorem JnM.ext{H H':Hp}{sb mb mp s:Nat}{S T:Nat→Prop}{w:Nw}{A:Ar}{q:Int}{L:List ((Int×Nat)×Value)}(h:JnM H sb mb mp s S w A q L)(e:ag T H H')(hd:∀z,S z∨z=sb∨z=mb∨z=mp→¬T z):JnM H' sb mb mp s S w A q L:=
 ⟨h.st.ext e (fun z hz=>hd z (.inl hz)),e.own h.o1 (hd _ (by simp)),e.own h.o2 (hd _ (by simp)),h.m.ext e (hd _ (by simp)),h.n1,h.n2⟩
theorem JnM.lt{H:Hp}{sb mb mp s:Nat}{S:Nat→Prop}{w:Nw}{A:Ar}{q:Int}{L:List ((Int×Nat)×Value)}(h:JnM H sb mb mp s S w A q L):∀z,S z∨z=sb∨z=mb∨z=mp→z<H.size:=by
 rintro z (hz|rfl|rfl|rfl)
 ·exact h.st.slt z hz
 ·exact aA h.o1
 ·exact aA h.o2
 ·exact h.m.lt
theorem JnM.to{H H':Hp}{sb mb mp s:Nat}{S S':Nat→Prop}{w w':Nw}{A A':Ar}{q q':Int}{L:List ((Int×Nat)×Value)}(h:JnM H sb mb mp s S w A q L)(st:Ec H' s S' w' A' q')(e:ag S H H')(hs:∀z,S' z→S z∨H.size≤z):JnM H' sb mb mp s S' w' A' q' L:=by
 have h1:=aA h.o1
 have h2:=aA h.o2
 have h3:=h.m.lt
 have hn:∀z,¬S z→z<H.size→¬S' z:=fun z h1 h2 h3=>by rcases hs z h3 with h|h;exact h1 h;omega
 exact⟨st,e.own h.o1 h.n1.1,e.own h.o2 h.n1.2.1,h.m.ext e h.n1.2.2,⟨hn _ h.n1.1 h1,hn _ h.n1.2.1 h2,hn _ h.n1.2.2 h3⟩,h.n2⟩
section
variable {H : Hp} {sb mb mp s n at_ : Nat} {S : Nat → Prop} {w : Nw} {A : Ar} {q : Int} {L : List ((Int × Nat) × Value)} {eR : List (Int × Nat)}
theorem aaD(m:JnM H sb mb mp s S w A (at_:Int) L)(h:Vm n w A L eR at_)(hp:eR.length<n)(u0:at_<1000000)(k:Int):
  af Tryz.prog L8 [i64 at_,i64 k,ptr sb,ptr mb] H fun v H'=>aw (v= .tuple [].toArray∧∃S' w' A' L',JnM H' sb mb mp s S' w' A' ((at_:Int)+1) L'∧Vm n w' A' L' (eR++[(k,at_)]) (at_+1)∧ag (fun z=>S z∨z=mp) H H'∧∀z,S' z→S z∨H.size≤z):=by
 refine vl mixed (an:=acI) (by conv=>lhs;cbv) (nt:=17) (by kernel_rfl) (by simp) ?_
 refine v1 (ae m.o1) ?_
 refine(FN m.st h.hs (fun x x0 _=>by have:=h.ge x x0;omega) (by omega)).mono ?_
 rintro _ H1 (⟨bK,_⟩| ⟨x,A',YJ,rfl,S1,SQ,e1,eM⟩)
 ·exact absurd bK (h.room hp)
 obtain⟨qH,hJ⟩:=h.put YJ k
 obtain⟨hx,_⟩:=Ar.vr YJ h.ok
 have m1:=m.to SQ e1 eM
 have att:=e1.size
 refine vs ?_
 obtain⟨f2,b2,z2⟩:=Lq H1 114 [Value.int .i64 0,Value.int .u32 0] [i64 x,Value.int .u32 ((A.bz x+1:Nat):Int)]
 generalize (H1.new 114 [Value.int .i64 0,Value.int .u32 0]).wr H1.size [i64 x,Value.int .u32 ((A.bz x+1:Nat):Int)]=H2 at*
 have m2:=m1.ext f2 (fun _ _ h=>h)
 refine v2 (ae m2.o2) (ae b2) ?_
 refine⟨Iv _ _,?_⟩
 refine Bi.YA m2.m (a:=(x,A.bz x+1)) qH fun H3 mp3 e3=>?_
 refine vs ?_
 refine⟨rfl,S1,_,_,_,⟨m2.st.ext e3 (fun z hz e=>m2.n1.2.2 (by rw[←e];exact hz)),e3.own m2.o1 (Ne.symm m2.n2.1),e3.own m2.o2 (Ne.symm m2.n2.2),mp3,m2.n1,m2.n2⟩,hJ,?_,eM⟩
 exact((e1.mono fun z _ h=>.inl h).trans (f2.mono fun z _ h=>h.elim)).trans (e3.mono fun z _ h=>.inr h)
end
end Go.Proofs.YtjlnnljohemifaaGreat

namespace Go.Proofs.YtjlnnljohemifaaGreat
open Go Go.Vc
structure G0(ws:List Int):Prop where
 n1:1≤ws.length
 n2:ws.length≤4096
 pos:∀x∈ws,1≤x
 sum:ws.sum≤9223372036854775807
theorem Te.sum{ws:List Int}{k:Nat}{s:LZ}(h:Te ws k s):∀p∈s.eR,∀q∈s.eR,p.2≠q.2→p.1+q.1≤xT ws.length (fun i=>ws.getD i 0)∨∃i,i<ws.length∧ws.getD i 0<0:=by
 intro p hp q hq aP
 by_cases ahZ:∃i,i<ws.length∧ws.getD i 0<0
 ·exact .inr ahZ
 ·refine .inl ?_
  rw[←h.wt p hp,←h.wt q hq,←EL]
  have:∀n,n≤ws.length→xT n (fun i=>(if s.R i=p.2 then ws.getD i 0 else 0)+(if s.R i=q.2 then ws.getD i 0 else 0))≤xT n (fun i=>ws.getD i 0):=by
   intro n hn
   induction n with
   |zero=>exact aoX _
   |succ n ih=>
    have:=ih (by omega)
    have h0:0≤ws.getD n 0:=by
     apply anW
     intro hc
     exact ahZ ⟨n,by omega,by omega⟩
    rw[pj,pj]
    split<;>split<;>omega
  exact this _ (anG _)
theorem ahv(ws:List Int):xT ws.length (fun i=>ws.getD i 0)=ws.sum:=by
 unfold xT
 rw[aaP]
theorem ah0{H:Hp}{s:Nat}{S:Nat→Prop}{w:Nw}{A:Ar}{q:Int}(st:Ec H s S w A q)(bu ck:TypeId):
  JnM (((H.new bu [ptr s]).iI.new ck [Value.map none]).wr (Array.size H+1+1) [Value.map (some (Array.size H+1))]) H.size (H.size+1+1) (H.size+1) s S w A q []∧ai H (((H.new bu [ptr s]).iI.new ck [Value.map none]).wr (Array.size H+1+1) [Value.map (some (Array.size H+1))]):=by
 have eQ:=st.slt
 have f1:ai H (H.new bu [ptr s]):=(ag.refl _ _).new _ _
 have b1:(H.new bu [ptr s]).own H.size=some [ptr s]:=aB _ _ _
 have z1:(H.new bu [ptr s]).size=H.size+1:=aq _ _ _
 generalize H.new bu [ptr s]=H1 at*
 have f2:ai H1 H1.iI:=(ag.refl _ _).iI
 have b2:=Bi.new H1
 have z2:H1.iI.size=H1.size+1:=iA _
 generalize H1.iI=H2 at*
 have f3:ai H2 (H2.new ck [Value.map none]):=(ag.refl _ _).new _ _
 have b3:(H2.new ck [Value.map none]).own H2.size=some [Value.map none]:=aB _ _ _
 have z3:(H2.new ck [Value.map none]).size=H2.size+1:=aq _ _ _
 generalize H2.new ck [Value.map none]=H3 at*
 rw[z2,z1]at b3
 rw[z1]at b2
 have e4:ag (fun x=>x=H.size+1+1) H3 (H3.wr (H.size+1+1) [Value.map (some (H.size+1))]):=(ag.refl (fun x=>x=H.size+1+1) _).wr (fun _=>rfl) _
 have b4:=ah (l:=[Value.map (some (H.size+1))]) b3
 have hf:ai H (H3.wr (H.size+1+1) [Value.map (some (H.size+1))]):=((f1.trans f2).trans f3).then e4 (fun z hz=>by omega)
 have hn:∀k,¬S (H.size+k):=fun k h=>by have:=eQ _ h;omega
 refine⟨⟨st.ext hf (fun _ _ h=>h),e4.own (f3.own (f2.own b1 (fun h=>h)) (fun h=>h)) (by omega),b4,(b2.ext f3 (fun h=>h)).ext e4 (by omega),⟨hn 0,hn 2,hn 1⟩,by omega,by omega⟩,hf⟩
theorem map_set{N:Nat}(f:Nat→Value){i:Nat}(hi:i<N)(v:Value):((List.range N).map f).set i v=(List.range N).map fun j=>if j=i then v else f j:=by
 apply aoo
 intro j
 rw[List.getElem?_set,anR,anR]
 by_cases e:i=j
 ·subst e
  rw[List.getElem?_range hi]
  simp[hi]
 ·by_cases hj:j<N
  ·rw[List.getElem?_range hj,if_neg e]
   simp[Ne.symm e]
  ·rw[anK (by simp;omega),if_neg e]
   rfl
def aeT(ws:List Int)(i:Nat):List (Int×Nat):=(List.range i).map fun j=>(ws.getD j 0,j)
theorem agx{ws:List Int}{i:Nat}{x:Int}(hx:ws[i]? =some x):aeT ws i++[(x,i)]=aeT ws (i+1):=by
 unfold aeT
 rw[apA,an8,apb,anx,hx]
 rfl
theorem ahw(ws:List Int)(i:Nat):(aeT ws i).length=i:=by simp[aeT]
theorem abo{H:Hp}{s:Nat}{S:Nat→Prop}{ws:List Int}{a:Option Addr}{c:Nat}(st:Ec H s S (zj (ws.length:Int)) (PO (ws.length:Int) 4294967295) 0)(hr:∀H',ag S H H'→dc H' 1 (.slice a ws.length c) ws.length (ws.map i64))(hf:G0 ws)(h2:2≤ws.length):
  af Tryz.prog adp [ptr s,.slice a ws.length c] H fun v H'=>aw (∃b,v= .slice (some ⟨b,0,none⟩) (2*ws.length - 1) (2*ws.length - 1)∧H.size≤b∧Sl H' 1 v (2*ws.length - 1) ((List.range (2*ws.length - 1)).map fun i=>i64 ((OK ws).up i:Int)) (some b)∧ag S H H'):=by
 have Dg:=hf.n2
 refine bm ads ?_
 refine vs ?_
 obtain⟨m0,f0⟩:=ah0 st 81 107
 generalize ((H.new 81 [ptr s]).iI.new 107 [Value.map none]).wr (H.size+1+1) [Value.map (some (H.size+1))]=H0 at*
 refine(Ee m0.st (by simp[zj])).mono ?_
 rintro _ H1 ⟨rfl,S1,SQ,e1,eM⟩
 have m1:=m0.to SQ e1 eM
 have z0:=f0.size
 have kU:ag S H H1:=(f0.mono fun _ _ h=>h.elim).trans e1
 have eM:∀z,S1 z→S z∨H.size≤z:=fun z hz=>(eM z hz).imp_right fun h=>by omega
 refine vs ?_
 refine bk.intro (fun mm env H'=>∃ (i:Nat) (S':Nat→Prop) (w':Nw) (A':Ar) (L':List ((Int×Nat)×Value)),mm=ws.length - i∧i≤ws.length∧JnM H' H.size (H.size+1+1) (H.size+1) s S' w' A' (i:Int) L'∧Vm ws.length w' A' L' (aeT ws i) i∧ag S H H'∧(∀z,S' z→S z∨H.size≤z)∧
  env=[(1,.slice a ws.length c),(2,ptr H.size),(5,ptr (H.size+1+1)),(6,.func (.func L8) #[] #[ptr H.size,ptr (H.size+1+1)]),(22,.slice a ws.length c),(23,i64 ws.length),(24,i64 i)]) ws.length ⟨0,S1,_,_,[],by omega,by omega,m1,Vm.zero _,kU,eM,rfl⟩ ?_
 clear m1 SQ e1 kU eM
 rintro mm env H1 ⟨i,S1,w1,A1,L1,rfl,hi,m1,j1,x1,eM,rfl⟩
 refine vs ?_
 refine am.dec (fun aO=>?_) (fun aO=>?_)<;>refine vs ?_
 ·have mI:i<ws.length:=by omega
  obtain⟨x,hx⟩:∃x,ws[i]? =some x:=⟨_,ans mI⟩
  obtain⟨_,b,o,lb,rfl,Jq,bX⟩:=dc.num (hr H1 x1) hx
  refine⟨⟨by omega,by omega⟩,?_⟩
  refine v4 Jq Int.toNat_natCast anw bX ?_
  refine⟨by kernel_rfl,?_⟩
  refine af.mono (by simpa using aaD m1 j1 (by rw[ahw];exact mI) (by omega) x) ?_
  rintro _ H2 ⟨rfl,S2,w2,A2,L2,m2,j2,e2,K7⟩
  rw[agx hx]at j2
  refine vs ?_
  rw[wrap64 (n:=(i:Int)+1) (by omega) (by omega)]
  have z1:=x1.size
  refine⟨ws.length - (i+1),by omega,i+1,S2,w2,A2,L2,rfl,by omega,m2,j2,?_,fun z hz=>?_,rfl⟩
  ·exact⟨aor x1.size e2.size,fun z hz hn=>by rw[e2.aM z (by omega) (fun h=>by rcases h with h|h;exact(eM z h).elim hn (fun h=>by omega);omega),x1.aM z hz hn]⟩
  ·rcases K7 z hz with h|h
   ·exact eM z h
   ·exact .inr (by omega)
 have mI:i=ws.length:=by omega
 subst mI
 clear aO hi
 obtain⟨N,hN⟩:∃N:Nat,N=2*ws.length - 1:=⟨_,rfl⟩
 rw[←hN]
 rw[wrap64 (n:=2*(ws.length:Int)) (by omega) (by omega),show(2*(ws.length:Int) - 1)=(N:Int) by omega,wrap64 (n:=(N:Int)) (by omega) (by omega)]
 refine⟨⟨by omega,by omega,by omega,by omega⟩,?_⟩
 refine v1 Int.toNat_natCast ?_
 have fn:ai H1 (H1.new 3 (cA [i64 0] N)):=(ag.refl _ _).new _ _
 have vE:(H1.new 3 (cA [i64 0] N)).size=H1.size+1:=aq _ _ _
 have p9:Sl (H1.new 3 (cA [i64 0] N)) 1 (.slice (some ⟨H1.size,0,none⟩) N N) N ((List.range N).map fun i=>i64 ((ZG ws).up i:Int)) (some H1.size):=by
  rw[AW,apC,show((List.range N).map fun i=>i64 ((ZG ws).up i:Int))=List.replicate N (i64 0)from ?_]
  ·exact Sl.lit H1 _ 1 N _ (by simp)
  ·apply aoo
   intro j
   rw[anR,aoN]
   by_cases hj:j<N
   ·rw[List.getElem?_range hj,if_pos hj];rfl
   ·rw[anK (by simp;omega),if_neg hj];rfl
 have hub:=m1.lt
 have atv:H.size+1+1<H1.size:=hub _ (by simp)
 have m2:=m1.ext fn (fun _ _ h=>h)
 have x2:ag S H (H1.new 3 (cA [i64 0] N)):=x1.trans (fn.mono fun z _ h=>h.elim)
 have akf:¬S1 H1.size:=fun h=>by have:=hub _ (.inl h);omega
 generalize atw:H1.size=qT at*
 generalize H1.new 3 (cA [i64 0] N)=H2 at*
 refine bk.intro (fun mm env H'=>∃ (k:Nat) (S':Nat→Prop) (w':Nw) (A':Ar) (L':List ((Int×Nat)×Value)),mm=ws.length - 1 - k∧k+1≤ws.length∧JnM H' H.size (H.size+1+1) (H.size+1) s S' w' A' ((ws.length+k:Nat):Int) L'∧Vm ws.length w' A' L' (Du k (ZG ws)).eR (ws.length+k)∧
  Sl H' 1 (.slice (some ⟨qT,0,none⟩) N N) N ((List.range N).map fun i=>i64 ((Du k (ZG ws)).up i:Int)) (some qT)∧¬S' qT∧ag S H H'∧(∀z,S' z→S z∨H.size≤z)∧
  env=[(2,ptr H.size),(5,ptr (H.size+1+1)),(6,.func (.func L8) #[] #[ptr H.size,ptr (H.size+1+1)]),(10,.slice (some ⟨qT,0,none⟩) N N),(11,i64 (ws.length+k:Nat))]) (ws.length - 1) ⟨0,S1,w1,A1,L1,by omega,by omega,m2,j1,p9,akf,x2,eM,rfl⟩ ?_
 clear m1 j1 x1 eM m2 p9 akf x2 fn vE hub w1 A1 L1
 rintro mm env H3 ⟨k,S3,w3,A3,L3,rfl,hk,m3,j3,s3,akg,x3,Gx,rfl⟩
 have hI:=Te.run ws k (by omega)
 have hIs:∀hh:k+1<ws.length,Te ws (k+1) (Du (k+1) (ZG ws)):=fun hh=>Te.run ws (k+1) hh
 have ah1:Du (k+1) (ZG ws)=(Du k (ZG ws)).step:=rfl
 have u0:=hI.at_
 have aX:=hI.len
 have hid:=hI.ids
 have am4:=hI.sum
 have YJ:=LZ.ZI hI
 have VO:=hI.wt
 rw[ah1]at hIs
 generalize hT:Du k (ZG ws)=t at*
 refine vs ?_
 refine am.dec (fun aO=>?_) (fun aO=>?_)<;>refine vs ?_
 ·have C6:k+1<ws.length:=by omega
  obtain⟨la,lb,zI,EN,ZL⟩:=YJ C6
  have NS:=ZL.length_eq
  simp only[anO]at NS
  have age:=m3.lt
  refine v1 (ae m3.o1) ?_
  refine(zi m3.st j3.hs).mono ?_
  rintro _ H4 (⟨h0,_⟩| ⟨x,y,hx,hy,rfl,S4,st4,e4,WB⟩)
  ·exact absurd h0 (j3.ne0 (fun e=>by rw[e]at aX;simp at aX;omega))
  obtain⟨x0,ua,id,hyd,hl,hm⟩:=j3.first hx hy
  have aiq:=Ys.eq hid hl la
  have j4:=j3.take (by omega) ⟨x0,ua⟩ (by rw[←hyd];exact hy) hl hm
  rw[aiq]at j4
  have m4:=m3.to st4 e4 WB
  have akh:¬S4 qT:=fun h=>(WB _ h).elim akg (fun h=>by have:=s3.lt;omega)
  have s4:=s3.ext e4 (fun b hb=>by injection hb with hb;rw[←hb];exact akg)
  have z4:=e4.size
  have y4:ag S H H4:=⟨aor x3.size z4,fun z hz hn=>by rw[e4.aM z (by have:=x3.size;omega) (fun h=>(Gx z h).elim hn (fun h=>by omega)),x3.aM z hz hn]⟩
  have WB:∀z,S4 z→S z∨H.size≤z:=fun z hz=>(WB z hz).elim (Gx z) (fun h=>.inr (by have:=x3.size;omega))
  refine vs ?_
  obtain⟨f5,b5,z5⟩:=Lq H4 114 [Value.int .i64 0,Value.int .u32 0] [i64 x,Value.int .u32 ((A3.bz x:Nat):Int)]
  generalize hB:H4.size=hb at*
  generalize (H4.new 114 [Value.int .i64 0,Value.int .u32 0]).wr hb [i64 x,Value.int .u32 ((A3.bz x:Nat):Int)]=H5 at*
  have m5:=m4.ext f5 (fun _ _ h=>h)
  have s5:=s4.ext f5 (fun _ _ h=>h)
  refine v1 (ae m5.o1) ?_
  have aty:=m5.lt
  have am5:¬S4 hb:=fun h=>by have:=st4.slt _ h;omega
  refine(zi m5.st j4.hs).mono ?_
  have hw4:(wo t.eR t.a).length+1=t.eR.length:=by
   have:=(IJ hid la.m).length_eq
   rw[anO]at this;omega
  rintro _ H6 (⟨h0,_⟩| ⟨x',y',wZ,FD,rfl,br,st6,e6,hs6⟩)
  ·exact absurd h0 (j4.ne0 (fun e=>by rw[e]at hw4;simp at hw4;omega))
  obtain⟨x0',xn',id',am6,Ez,hm'⟩:=j4.first wZ FD
  have ag5:=Ys.eq (hid.wo _) Ez lb
  have lA:=j4.take (by omega) ⟨x0',xn'⟩ (by rw[←am6];exact FD) Ez hm'
  rw[ag5]at lA
  have m6:=m5.to st6 e6 hs6
  have ai1:¬br qT:=fun h=>(hs6 _ h).elim akh (fun h=>by have:=s5.lt;omega)
  have s6:=s5.ext e6 (fun b hb=>by injection hb with hb;rw[←hb];exact akh)
  have b6:=e6.own b5 am5
  have uc:=e6.size
  have hx3:=x3.size
  have y6:ag S H H6:=⟨by omega,fun z hz hn=>by rw[e6.aM z (by omega) (fun h=>(WB z h).elim hn (fun h=>by omega)),f5.aM z (by omega) (fun h=>h),y4.aM z hz hn]⟩
  have hs6:∀z,br z→S z∨H.size≤z:=fun z hz=>(hs6 z hz).elim (WB z) (fun h=>.inr (by omega))
  refine vs ?_
  obtain⟨f7,b7,vd⟩:=Lq H6 114 [Value.int .i64 0,Value.int .u32 0] [i64 x',Value.int .u32 (((A3.back x).bz x':Nat):Int)]
  generalize hC:H6.size=hc at*
  generalize (H6.new 114 [Value.int .i64 0,Value.int .u32 0]).wr hc [i64 x',Value.int .u32 (((A3.back x).bz x':Nat):Int)]=H7 at*
  have m7:=m6.ext f7 (fun _ _ h=>h)
  have s7:=s6.ext f7 (fun _ _ h=>h)
  have b8:=f7.own b6 (fun h=>h)
  have y7:=y6.trans (f7.mono fun z _ h=>h.elim)
  have k1:id<N:=by
   have e1:=hI.lt _ la.m
   rw[←aiq]at e1
   simp only at e1
   omega
  have k2:id'<N:=by
   have e1:=hI.lt _ EN
   rw[←ag5]at e1
   simp only at e1
   omega
  have s7':=s7
  obtain⟨_,ll,cc,hv,ho7,hc7,hc8,_⟩:=s7'
  injection hv with Dt Dn hv3
  subst hv3
  refine v3 (ae m7.o2) (ae b8) (ae b7) ?_
  refine⟨Iv _ _,?_⟩
  refine Bi.look m7.m (a:=(x,A3.bz x)) hm ?_
  refine v3 (ae m7.o2) (ae b8) (ae b7) ?_
  refine⟨Iv _ _,?_⟩
  refine Bi.look m7.m (a:=(x',(A3.back x).bz x')) hm' ?_
  refine vs ?_
  refine⟨⟨by omega,by omega⟩,?_⟩
  refine v4 ho7 Int.toNat_natCast anw ant ?_
  refine⟨by omega,?_⟩
  have e8:ag (fun z=>z=qT) H7 (H7.wr qT (ll.set id (i64 ((ws.length+k:Nat):Int)))):=(ag.refl (fun z=>z=qT) _).wr (fun _=>rfl) _
  have pB:(H7.wr qT (ll.set id (i64 ((ws.length+k:Nat):Int)))).own qT=some (ll.set id (i64 ((ws.length+k:Nat):Int))):=ah ho7
  have p7:=s7.tQ ho7 id (i64 ((ws.length+k:Nat):Int))
  rw[map_set _ k1]at p7
  refine vs ?_
  refine⟨⟨by omega,by omega⟩,?_⟩
  refine v4 pB Int.toNat_natCast anw ant ?_
  refine⟨by rw[anv];omega,?_⟩
  refine vs ?_
  generalize oK:ll.set id (i64 ((ws.length+k:Nat):Int))=ll8 at*
  have e9:ag (fun z=>z=qT) (H7.wr qT ll8) ((H7.wr qT ll8).wr qT (ll8.set id' (i64 ((ws.length+k:Nat):Int)))):=(ag.refl (fun z=>z=qT) _).wr (fun _=>rfl) _
  have s9:=p7.tQ pB id' (i64 ((ws.length+k:Nat):Int))
  rw[map_set _ k2]at s9
  rw[RS]at e9 s9
  generalize H7.wr qT (ll8.set id' (i64 ((ws.length+k:Nat):Int)))=H9 at*
  have aki:∀z,br z∨z=H.size∨z=H.size+1+1∨z=H.size+1→z≠qT:=by
   rintro z (hz|hz|hz|hz) e
   ·exact ai1 (by rw[←e];exact hz)
   ·omega
   ·omega
   ·omega
  have m9:=(m7.ext e8 (fun z hz e=>aki z hz e)).ext e9 (fun z hz e=>aki z hz e)
  have y9:ag S H H9:=⟨aor y7.size (aor e8.size e9.size),fun z hz hn=>by rw[e9.aM z (by have:=e8.size;have:=y7.size;omega) (by omega),e8.aM z (by have:=y7.size;omega) (by omega),y7.aM z hz hn]⟩
  have aqZ:0≤t.a.1+t.b.1∧t.a.1+t.b.1≤9223372036854775807:=by
   have ahZ:¬ ∃i,i<ws.length∧ws.getD i 0<0:=by
    rintro⟨i,hi,h0⟩
    have hm:ws.getD i 0∈ws:=by
     rw[anx,ans hi]
     exact List.getElem_mem hi
    have:=hf.pos _ hm
    omega
   have Jr:∀p∈t.eR,0≤p.1:=by
    intro p hp
    rw[←VO p hp]
    refine afy fun i hi=>?_
    split
    ·apply anW
     intro h0
     exact ahZ ⟨i,hi,by omega⟩
    ·exact aoX _
   have h1:=Jr _ la.m
   have h2:=Jr _ EN
   rcases am4 _ la.m _ EN zI with h|h
   ·rw[ahv]at h
    have:=hf.sum
    omega
   ·exact absurd h ahZ
  have Qp:y.2.1=t.a.1:=by rw[←aiq]
  have Py:y'.2.1=t.b.1:=by rw[←ag5]
  rw[Qp,Py,wrap64 (n:=t.a.1+t.b.1) (by omega) (by omega)]
  refine⟨by kernel_rfl,?_⟩
  have hw6:(wo (wo t.eR t.a) t.b).length+2=t.eR.length:=by
   have:=(IJ (hid.wo _) lb.m).length_eq
   rw[anO]at this;omega
  refine af.mono (by simpa using aaD m9 lA (by omega) (by omega) (t.a.1+t.b.1)) ?_
  rintro _ H10 ⟨rfl,S10,w10,A10,L10,m10,j10,e10,agy⟩
  refine vs ?_
  rw[wrap64 (n:=((ws.length+k:Nat):Int)+1) (by omega) (by omega)]
  have hz9:=y9.size
  have hs9:=s9.lt
  refine⟨ws.length - 1 - (k+1),by omega,k+1,S10,w10,A10,L10,rfl,by omega,?_,?_,?_,?_,?_,?_,?_⟩
  ·rw[show((ws.length+(k+1):Nat):Int)=((ws.length+k:Nat):Int)+1 by omega];exact m10
  ·rw[ah1]
   have:t.step.eR=wo (wo t.eR t.a) t.b++[(t.a.1+t.b.1,ws.length+k)]:=by unfold LZ.step;rw[u0]
   rw[this]
   exact j10
  ·rw[ah1]
   have:(fun(i:Nat)=>i64 (t.step.up i:Int))=fun j=>if j=id' then i64 ((ws.length+k:Nat):Int)else if j=id then i64 ((ws.length+k:Nat):Int)else i64 (t.up j:Int):=by
    funext j
    have e1:t.a.2=id:=by rw[←aiq]
    have e2:t.b.2=id':=by rw[←ag5]
    show i64 ((if j=t.a.2∨j=t.b.2 then t.at_ else t.up j:Nat):Int)=_
    rw[e1,e2,u0]
    by_cases h1:j=id'
    ·rw[if_pos (.inr h1),if_pos h1]
    ·by_cases h2:j=id
     ·rw[if_pos (.inl h2),if_neg h1,if_pos h2]
     ·rw[if_neg (by omega),if_neg h1,if_neg h2]
   rw[this]
   exact s9.ext e10 (fun b hb=>by injection hb with hb;rw[←hb];rintro(h|h);exact ai1 h;omega)
  ·intro h
   rcases agy qT h with h|h
   ·exact ai1 h
   ·omega
  ·exact⟨aor y9.size e10.size,fun z hz hn=>by rw[e10.aM z (by omega) (fun h=>by rcases h with h|h;exact(hs6 z h).elim hn (fun h=>by omega);omega),y9.aM z hz hn]⟩
  ·intro z hz
   rcases agy z hz with h|h
   ·exact hs6 z h
   ·exact .inr (by omega)
  ·rw[show((ws.length+(k+1):Nat):Int)=((ws.length+k:Nat):Int)+1 by omega]
 ·have C6:k+1=ws.length:=by omega
  refine⟨qT,rfl,by omega,?_,x3⟩
  unfold OK
  rw[show ws.length - 1=k by omega,hT]
  exact s3
instance(ws:List Int):Decidable (G0 ws):=decidable_of_iff (1≤ws.length∧ws.length≤4096∧(∀x∈ws,1≤x)∧ws.sum≤9223372036854775807) ⟨fun⟨a,b,c,d⟩=>⟨a,b,c,d⟩,fun h=>⟨h.n1,h.n2,h.pos,h.sum⟩⟩
theorem acL:∀ (l:List Int),(∀x∈l,1≤x)→0≤l.sum:=by
 intro l
 induction l with
 |nil=>intro _;exact aoX _
 |cons a r ih=>
  intro h
  have h1:=h a (by simp)
  have h2:=ih (fun x hx=>h x (by simp[hx]))
  rw[aph]
  omega
theorem adE{ws:List Int}(h:∀x∈ws,1≤x)(j:Nat):(ws.take j).sum≤ws.sum:=by
 have h1:ws.sum=(ws.take j).sum+(ws.drop j).sum:=by rw[←List.sum_append,List.take_append_drop]
 have h2:=acL (ws.drop j) (fun x hx=>h x (List.mem_of_mem_drop hx))
 omega
theorem abB{ws:List Int}{j:Nat}{x:Int}(hx:ws[j]? =some x):(ws.take (j+1)).sum=(ws.take j).sum+x:=by
 rw[aoa,hx,List.sum_append]
 show _+[x].sum=_
 rw[aph,List.sum_nil]
 omega
theorem adi{H:Hp}{a:Option Addr}{c:Nat}{ws:List Int}(h:dc H 1 (.slice a ws.length c) ws.length (ws.map i64))(hb:∀x∈ws,x≤9223372036854775807):af Tryz.prog adY [.slice a ws.length c] H fun v H'=>aw (v= .bool (decide (G0 ws))∧H'=H):=by
 refine bm adZ ?_
 refine vs ?_
 refine am.dec (fun h1=>?_) (fun h1=>?_)<;>refine v1 aoi ?_
 ·have hnf:¬G0 ws:=fun hf=>by have:=hf.n1;omega
  rw[anV hnf]
  exact⟨rfl,rfl⟩
 refine am.dec (fun h1'=>?_) (fun h1'=>?_)<;>refine v1 aoi ?_
 ·have hnf:¬G0 ws:=fun hf=>by have:=hf.n2;omega
  rw[anV hnf]
  exact⟨rfl,rfl⟩
 refine bk.intro (fun m env H'=>∃j:Nat,m=ws.length - j∧j≤ws.length∧H'=H∧(∀x∈ws.take j,1≤x)∧(ws.take j).sum≤9223372036854775807∧env=[(3,i64 (9223372036854775807 - (ws.take j).sum)),(14,.slice a ws.length c),(15,i64 ws.length),(16,i64 j)]) ws.length ⟨0,by omega,by omega,rfl,by simp,by simp,by simp⟩ ?_
 rintro m env H1 ⟨j,rfl,hj,rfl,hp,hs,rfl⟩
 refine vs ?_
 refine am.dec (fun aO=>?_) (fun aO=>?_)<;>refine vs ?_
 ·have gD:j<ws.length:=by omega
  obtain⟨x,hx⟩:∃x,ws[j]? =some x:=⟨_,ans gD⟩
  obtain⟨_,b,o,lb,rfl,Jq,bX⟩:=dc.num h hx
  have hxm:=anz hx
  have hxb:=hb x hxm
  have hts:=abB hx
  have L0:=acL _ hp
  refine⟨⟨by omega,by omega⟩,?_⟩
  refine v4 Jq Int.toNat_natCast anw bX ?_
  refine am.dec (fun h2=>?_) (fun h2=>?_)<;>refine v1 aoi ?_
  ·have hnf:¬G0 ws:=fun hf=>by have h3:=hf.pos x hxm;omega
   rw[anV hnf]
   exact⟨rfl,rfl⟩
  refine am.dec (fun Rr=>?_) (fun Rr=>?_)<;>refine v1 aoi ?_
  ·have hnf:¬G0 ws:=fun hf=>by
    have h4:=adE hf.pos (j+1)
    have h5:=hf.sum
    omega
   rw[anV hnf]
   exact⟨rfl,rfl⟩
  ·rw[wrap64 (n:=9223372036854775807 - (ws.take j).sum - x) (by omega) (by omega),wrap64 (n:=(j:Int)+1) (by omega) (by omega)]
   refine⟨ws.length - (j+1),by omega,j+1,rfl,by omega,trivial,fun y hy=>?_,by omega,?_⟩
   ·rw[aoa,hx,anH]at hy
    rcases hy with hy|hy
    ·exact hp y hy
    ·have:y=x:=by simpa using hy
     omega
   ·rw[hts,show(9223372036854775807:Int) - (ws.take j).sum - x=9223372036854775807 - ((ws.take j).sum+x) by omega]
    rfl
 ·have gD:j=ws.length:=by omega
  subst gD
  rw[an4]at hp hs
  refine⟨?_,rfl⟩
  rw[anI ⟨by omega,by omega,hp,hs⟩]
  rfl
def L9(ws:List Int):List Int:=if ws.length=1 then[1]else(adX ws).map fun(n:Nat)=>(n:Int)
def aeK(kd dd:Int)(ws:List Int):Int×List Int:=if SU kd dd≠0 then(SU kd dd,[])else if G0 ws then(0,L9 ws)else(201,[])
theorem ad3(ws:List Int):(L9 ws).length=ws.length:=by
 unfold L9
 split
 ·rename_i h;simp[h]
 ·rw[anQ,ahN]
def ah2(H:Hp)(sv:Value)(ls:List Int):Prop:=∃a c,sv= .slice a ls.length c∧dc H 1 sv ls.length (ls.map i64)
theorem ah2.nil(H:Hp):ah2 H (.slice none 0 0) []:=⟨none,0,rfl,rfl,.inl ⟨rfl,none,0,rfl⟩⟩
theorem Sl.ai2{H H':Hp}{size n:Nat}{v:Value}{xs:List Value}{fp:Option Nat}(h:Sl H size v n xs fp)(e:ai H H'):Sl H' size v n xs fp:=h.ext e (fun _ _ h=>h)
theorem aeU{N:Nat}{f:Nat→Value}{i:Nat}(hi:i<N):((List.range N).map f)[i]? =some (f i):=by
 rw[anR,List.getElem?_range hi];rfl
theorem aa0{H:Hp}(kd dd:Int)(Db:jk kd dd→R4 kd dd){a:Option Addr}{c:Nat}{ws:List Int}(h:dc H 1 (.slice a ws.length c) ws.length (ws.map i64))(hb:∀x∈ws,x≤9223372036854775807):
  af Tryz.prog ac8 [Nf kd dd,.slice a ws.length c] H fun v H'=>aw (∃sv,v= .tuple [sv,i64 (aeK kd dd ws).1].toArray∧ah2 H' sv (aeK kd dd ws).2∧ai H H'):=by
 refine bm ade ?_
 refine vs ?_
 have f0:ai H (H.new 23 [i64 kd,i64 dd]):=(ag.refl _ _).new _ _
 have o0:(H.new 23 [i64 kd,i64 dd]).own H.size=some [i64 kd,i64 dd]:=aB _ _ _
 generalize H.new 23 [i64 kd,i64 dd]=H0 at*
 refine(nG kd dd H0).mono ?_
 rintro _ H1 ⟨rfl,f1⟩
 have o1:=f1.own o0 (fun h=>h)
 have g1:=f0.trans f1
 refine vs ?_
 refine am.dec (fun hc=>?_) (fun hc=>?_)<;>refine vs ?_
 rotate_left
 ·have hA:aeK kd dd ws=(SU kd dd,[]):=by unfold aeK;rw[if_pos hc]
  rw[hA]
  exact⟨_,rfl,ah2.nil _,g1⟩
 have hK:=Lu.1 hc
 refine(adi (h.fresh g1) hb).mono ?_
 rintro _ H1' ⟨rfl,e⟩
 obtain rfl:=e.symm
 refine vs ?_
 by_cases hF:G0 ws
 rotate_left
 ·rw[anV hF]
  refine v1 aoi ?_
  have hA:aeK kd dd ws=(201,[]):=by unfold aeK;rw[if_neg (by omega),if_neg hF]
  rw[hA]
  exact⟨_,rfl,ah2.nil _,g1⟩
 rw[anI hF]
 have hA:aeK kd dd ws=(0,L9 ws):=by unfold aeK;rw[if_neg (by omega),if_pos hF]
 rw[hA]
 have xM:=hF.n1
 have Dg:=hF.n2
 refine v1 aoi ?_
 refine am.dec (fun h1=>?_) (fun h1=>?_)<;>refine vs ?_
 ·have hw:L9 ws=[1]:=by unfold L9;rw[if_pos (by omega)]
  rw[hw]
  refine⟨_,rfl,⟨_,_,rfl,(Sl.cf (n:=1) (xs:=[i64 1]) rfl rfl).rd⟩,g1.trans ((ag.refl _ _).new _ _)⟩
 have h2:2≤ws.length:=by omega
 refine v1 (ae o1) ?_
 refine(JC hK (Db hK) (cap:=(ws.length:Int)) (mo:=4294967295) ⟨by omega,by omega⟩ ⟨by omega,by omega⟩ H1).mono ?_
 rintro _ H2 ⟨s,S,rfl,st,f2,hS⟩
 have g2:=g1.trans f2
 have YV:∀z,S z→H.size≤z:=fun z hz=>by have:=hS z hz;have:=g1.size;omega
 refine vs ?_
 refine(abo st (fun H' e=>h.fresh (g2.then e YV)) hF h2).mono ?_
 rintro _ H3 ⟨qT,rfl,hub,qa,e3⟩
 have g3:=g2.then e3 YV
 obtain⟨N,hN⟩:∃N:Nat,N=2*ws.length - 1:=⟨_,rfl⟩
 rw[←hN]at qa ⊢
 refine v1 Int.toNat_natCast ?_
 refine⟨⟨by omega,by omega,by omega,by omega⟩,?_⟩
 have E:=agn.VQ xM
 have EO:=E.up
 have am9:=E.Ra
 have hEd:adX ws=(List.range ws.length).map (OK ws).d:=rfl
 generalize OK ws=t at*
 refine v1 Int.toNat_natCast ?_
 have fn:ai H3 (H3.new 3 (cA [i64 0] N)):=(ag.refl _ _).new _ _
 have p8:Sl (H3.new 3 (cA [i64 0] N)) 1 (.slice (some ⟨H3.size,0,none⟩) N N) N ((List.range N).map fun j=>if N - 1≤j then i64 (t.d j:Int)else i64 0) (some H3.size):=by
  rw[AW,apC,show((List.range N).map fun j=>if N - 1≤j then i64 (t.d j:Int)else i64 0)=List.replicate N (i64 0)from ?_]
  ·exact Sl.lit H3 _ 1 N _ (by simp)
  ·apply aoo
   intro j
   rw[anR,aoN]
   by_cases hj:j<N
   ·rw[List.getElem?_range hj,if_pos hj,Option.map_some]
    by_cases gD:N - 1≤j
    ·rw[if_pos gD,show j=2*ws.length - 2 by omega,am9];rfl
    ·rw[if_neg gD]
   ·rw[anK (by simp;omega),if_neg hj];rfl
 have hdb:qT<H3.size:=qa.lt
 have su2:=Sl.ai2 qa fn
 have g4:=g3.trans fn
 have QB:=g3.size
 generalize hD:H3.size=ik at*
 generalize H3.new 3 (cA [i64 0] N)=H4 at*
 rw[wrap64 (n:=(N:Int) - 2) (by omega) (by omega)]
 refine bk.intro (fun mm env H'=>∃r:Nat,mm=r∧r≤N - 1∧ag (fun z=>z=ik) H4 H'∧Sl H' 1 (.slice (some ⟨ik,0,none⟩) N N) N ((List.range N).map fun j=>if r≤j then i64 (t.d j:Int)else i64 0) (some ik)∧
  env=[(7,i64 ws.length),(10,.slice (some ⟨qT,0,none⟩) N N),(11,.slice (some ⟨ik,0,none⟩) N N),(12,i64 ((r:Int) - 1))]) (N - 1) ⟨N - 1,rfl,anG _,ag.refl _ _,p8,by rw[show(((N - 1:Nat):Int) - 1)=(N:Int) - 2 by omega]⟩ ?_
 clear p8
 rintro mm env H5 ⟨r,e0,hr,e5,s5,rfl⟩
 obtain rfl:=e0.symm
 have su5:=su2.ext e5 (fun b hb=>by injection hb with hb;omega)
 have g5:ai H H5:=g4.then e5 (fun z hz=>by omega)
 refine vs ?_
 refine am.dec (fun OP=>?_) (fun OP=>?_)<;>refine vs ?_
 ·obtain⟨i,rfl⟩:∃i,r=i+1:=⟨r - 1,by omega⟩
  obtain⟨u1,u2,u3⟩:=EO i (by omega)
  have k1:=aeU (N:=N) (f:=fun i=>i64 (t.up i:Int)) (i:=i) (by omega)
  have k2:=aeU (N:=N) (f:=fun j=>if i+1≤j then i64 (t.d j:Int)else i64 0) (i:=t.up i) (by omega)
  rw[if_pos (by omega)]at k2
  have ana:=su5
  have s5':=s5
  obtain⟨_,pt,gg,hv,hou,hu1,hu2,_⟩:=ana
  injection hv with _ _ hv
  subst hv
  obtain⟨_,o9,fE,hv,hod,QR,jv,_⟩:=s5'
  injection hv with _ _ hv
  subst hv
  have c1:=Sl.get su5 hou k1
  have c2:=Sl.get s5 hod k2
  have FC:(((i+1:Nat):Int) - 1)=(i:Int):=by omega
  rw[FC]
  have hdl:=E.dl (t.up i) (by have:=E.at_;omega)
  refine⟨⟨by omega,by omega⟩,?_⟩
  refine v5 (ae hou) Int.toNat_natCast anw ant c1 ?_
  refine⟨⟨by omega,by omega⟩,?_⟩
  refine v5 (ae hod) Int.toNat_natCast anw ant c2 ?_
  refine⟨⟨by omega,by omega⟩,?_⟩
  refine v4 hod Int.toNat_natCast anw ant ?_
  rw[wrap64 (n:=(t.d (t.up i):Int)+1) (by omega) (by omega)]
  refine⟨by omega,?_⟩
  have e6:ag (fun z=>z=ik) H5 (H5.wr ik (o9.set i (i64 ((t.d (t.up i):Int)+1)))):=(ag.refl (fun z=>z=ik) _).wr (fun _=>rfl) _
  have s6:=s5.tQ hod i (i64 ((t.d (t.up i):Int)+1))
  rw[map_set _ (by omega:i<N)]at s6
  refine vs ?_
  rw[wrap64 (n:=(i:Int) - 1) (by omega) (by omega)]
  refine⟨i,by omega,i,rfl,by omega,e5.trans e6,?_,rfl⟩
  have:(fun j=>if j=i then i64 ((t.d (t.up i):Int)+1)else if i+1≤j then i64 (t.d j:Int)else i64 0)=fun j=>if i≤j then i64 (t.d j:Int)else i64 0:=by
   funext j
   by_cases hj:j=i
   ·rw[if_pos hj,if_pos (by omega),hj,u3];rfl
   ·rw[if_neg hj]
    by_cases gD:i+1≤j
    ·rw[if_pos gD,if_pos (by omega)]
    ·rw[if_neg gD,if_neg (by omega)]
  rw[this]at s6
  exact s6
 ·have Wk:r=0:=by omega
  subst Wk
  have hlw:L9 ws=(adX ws).map fun(n:Nat)=>(n:Int):=by unfold L9;rw[if_neg (by omega)]
  obtain⟨q0,o9,fE,hv,hod,QR,jv,Gf⟩:=s5
  injection hv with _ _ hv
  subst hv
  refine⟨⟨by omega,by omega,by omega,by omega⟩,?_⟩
  refine v1 Int.toNat_natCast ?_
  have oK:(L9 ws).length=ws.length:=ad3 ws
  rw[if_neg (by omega)]
  refine⟨_,rfl,⟨some ⟨ik,0,none⟩,ws.length,?_,?_⟩,g5⟩
  ·rw[oK]
   simp[Addr.add]
  ·rw[oK]
   refine⟨by rw[anQ,oK,anw],.inr ⟨ik,0,ws.length,o9,by simp[Addr.add],ae hod,by omega,?_⟩⟩
   rw[List.drop_zero,anw]
   have h6:o9.take ws.length=(o9.take (N*1)).take ws.length:=by rw[apu,show min ws.length (N*1)=ws.length by omega]
   rw[h6,Gf,hlw,hEd,List.map_map,List.map_map,←List.map_take,List.take_range,show min ws.length N=ws.length by omega]
   refine apn fun j _=>?_
   rw[if_pos (ao2 _)]
   rfl
theorem adv{H:Hp}{a:Option Addr}{c:Nat}{ws:List Int}(h:dc H 1 (.slice a ws.length c) ws.length (ws.map i64))(hb:∀x∈ws,x≤9223372036854775807)(hm:ws.length≤9223372036854775807):af Tryz.prog aeE [.slice a ws.length c] H fun v H'=>aw (v= .bool (decide (G0 ws))∧H'=H):=by
 refine bm aeG ?_
 refine vs ?_
 refine bk.intro (fun m env H'=>∃j:Nat,m=ws.length - j∧j≤ws.length∧H'=H∧(∀x∈ws.take j,1≤x)∧(ws.take j).sum≤9223372036854775807∧env=[(0,.slice a ws.length c),(3,i64 (9223372036854775807 - (ws.take j).sum)),(6,.slice a ws.length c),(7,i64 ws.length),(8,i64 j)]) ws.length ⟨0,by omega,by omega,rfl,by simp,by simp,by simp⟩ ?_
 rintro m env H1 ⟨j,rfl,hj,rfl,hp,hs,rfl⟩
 refine vs ?_
 refine am.dec (fun aO=>?_) (fun aO=>?_)<;>refine vs ?_
 ·have gD:j<ws.length:=by omega
  obtain⟨x,hx⟩:∃x,ws[j]? =some x:=⟨_,ans gD⟩
  obtain⟨_,b,o,lb,rfl,Jq,bX⟩:=dc.num h hx
  have hxm:=anz hx
  have hxb:=hb x hxm
  have hts:=abB hx
  have L0:=acL _ hp
  refine⟨⟨by omega,by omega⟩,?_⟩
  refine v4 Jq Int.toNat_natCast anw bX ?_
  refine am.dec (fun h2=>?_) (fun h2=>?_)<;>refine v1 aoi ?_
  ·have hnf:¬G0 ws:=fun hf=>by have h3:=hf.pos x hxm;omega
   rw[anV hnf]
   exact⟨rfl,rfl⟩
  refine am.dec (fun Rr=>?_) (fun Rr=>?_)<;>refine v1 aoi ?_
  ·have hnf:¬G0 ws:=fun hf=>by
    have h4:=adE hf.pos (j+1)
    have h5:=hf.sum
    omega
   rw[anV hnf]
   exact⟨rfl,rfl⟩
  ·rw[wrap64 (n:=9223372036854775807 - (ws.take j).sum - x) (by omega) (by omega),wrap64 (n:=(j:Int)+1) (by omega) (by omega)]
   refine⟨ws.length - (j+1),by omega,j+1,rfl,by omega,trivial,fun y hy=>?_,by omega,?_⟩
   ·rw[aoa,hx,anH]at hy
    rcases hy with hy|hy
    ·exact hp y hy
    ·have:y=x:=by simpa using hy
     omega
   ·rw[hts,show(9223372036854775807:Int) - (ws.take j).sum - x=9223372036854775807 - ((ws.take j).sum+x) by omega]
    rfl
 ·have gD:j=ws.length:=by omega
  subst gD
  rw[an4]at hp hs
  refine am.dec (fun h1=>?_) (fun h1=>?_)<;>refine v1 aoi ?_
  ·refine⟨?_,rfl⟩
   have:G0 ws↔(ws.length:Int)≤4096:=⟨fun h=>by have:=h.n2;omega,fun h=>⟨by omega,by omega,hp,hs⟩⟩
   exact anP Value.bool (decide_eq_decide.2 this.symm)
  ·have hnf:¬G0 ws:=fun hf=>by have:=hf.n1;omega
   rw[anV hnf]
   exact⟨rfl,rfl⟩
end Go.Proofs.YtjlnnljohemifaaGreat
