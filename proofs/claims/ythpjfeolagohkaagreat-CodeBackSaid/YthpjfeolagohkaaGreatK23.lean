/- Texts put behind each other. -/
import Derived.Test.YthpjfeolagohkaaGreatK98
import Derived.Test.YthpjfeolagohkaaGreatK0
import Derived.Test.YthpjfeolagohkaaGreatK12
import Derived.Test.YthpjfeolagohkaaGreatK19
import Derived.Test.YthpjfeolagohkaaGreatK21
set_option maxRecDepth 100000
set_option maxHeartbeats 8000000
set_option linter.unusedVariables false
set_option linter.unusedSimpArgs false
namespace Go.Proofs.YthpjfeolagohkaaGreat
open Go Go.Vc
theorem AY(l:List Int):fE (l.map i64):=fun v hv=>by
 obtain⟨x,_,rfl⟩:=ao8.1 hv
 rfl
theorem AZ{H:Hp}{T B:Nat}{w:Value}{xs:List Int}{fp:Option Nat}{K:Value→Hp→Prop}(fU:∀b,fp=some b→B≤b)(hB:B≤H.size)(s:Sl H 1 w xs.length (xs.map i64) fp)(x:Int)(hl:xs.length≤1000000000000)
  (hk:∀w' H' dT,(∀b,dT=some b→B≤b)→Sl H' 1 w' (xs++[x]).length ((xs++[x]).map i64) dT→ag (fun z=>B≤z) H H'→K w' H'):
  eM T 1 8 [i64 0] w (.slice (some ⟨H.size,0,none⟩) 1 1) (H.new T [i64 x]) K:=by
 have fl:am H (H.new T [i64 x]):=(ag.refl _ _).new _ _
 refine Sl.append (s.ext fl (fun _ _ h=>h)) (Sl.cB (size:=1) (n:=1) (xs:=[i64 x]) rfl rfl).rd rfl (AY [x]) (by omega) ?_
 intro v' H' dT s' e' MF
 refine hk v' H' dT (fun b hb=>?_) (by rw[aoy,ao5];exact s') ⟨apc fl.size e'.size,fun z hz hn=>?_⟩
 ·rcases MF with h| ⟨b',mU,h1,h2⟩
  ·exact fU b (by rw[←h];exact hb)
  ·rw[hb]at mU;injection mU with mU;have:=fl.size;omega
 ·rw[e'.aG z (aoO hz fl.size) (fun h=>hn (fU z h)),fl.aG z hz (fun h=>h)]
theorem Wc{H:Hp}{T B b:Nat}{w:Value}{xs:List Int}{K:Value→Hp→Prop}(hb:B≤b)(hB:B≤H.size)(s:Sl H 1 w xs.length (xs.map i64) (some b))(x:Int)(hl:xs.length≤1000000000000)
  (hk:∀w' H' b',B≤b'→Sl H' 1 w' (xs++[x]).length ((xs++[x]).map i64) (some b')→ag (fun z=>B≤z) H H'→K w' H'):
  eM T 1 8 [i64 0] w (.slice (some ⟨H.size,0,none⟩) 1 1) (H.new T [i64 x]) K:=by
 refine AZ (fun b' h=>by injection h with h;omega) hB s x hl fun w' H' dT hf s' e'=>?_
 cases dT with
 |none=>
  obtain⟨_,h0,_⟩:=s'
  simp at h0
 |some b'=>exact hk w' H' b' (hf b' rfl) s' e'
theorem Sv{H:Hp}{T b:Nat}{w:Value}{xs:List Int}{K:Value→Hp→Prop}(s:Sl H 1 w xs.length (xs.map i64) (some b))(x:Int)(hl:xs.length≤1000000000000)
  (hk:∀w' H' b',(b'=b∨H.size≤b')→Sl H' 1 w' (xs++[x]).length ((xs++[x]).map i64) (some b')→ag (fun z=>z=b) H H'→K w' H'):
  eM T 1 8 [i64 0] w (.slice (some ⟨H.size,0,none⟩) 1 1) (H.new T [i64 x]) K:=by
 have fl:am H (H.new T [i64 x]):=(ag.refl _ _).new _ _
 refine Sl.append (s.ext fl (fun _ _ h=>h)) (Sl.cB (size:=1) (n:=1) (xs:=[i64 x]) rfl rfl).rd rfl (AY [x]) (by omega) ?_
 intro v' H' dT s' e' MF
 have e2:ag (fun z=>z=b) H H':=⟨apc fl.size e'.size,fun z hz hn=>by
  rw[e'.aG z (aoO hz fl.size) (fun h=>hn (by injection h with h;exact h.symm)),fl.aG z hz (fun h=>h)]⟩
 have s2:Sl H' 1 v' (xs++[x]).length ((xs++[x]).map i64) dT:=by rw[aoy,ao5];exact s'
 rcases MF with rfl| ⟨b',rfl,h1,h2⟩
 ·exact hk v' H' b (.inl rfl) s2 e2
 ·rw[aq]at h1
  exact hk v' H' b' (.inr (by omega)) s2 e2
theorem Sl.num{H:Hp}{a:Option Addr}{n c:Nat}{xs:List Int}{b:Nat}(h:Sl H 1 (.slice a n c) n (xs.map i64) (some b)){i:Nat}{x:Int}(hx:xs[i]? =some x):
  i<n∧a=some ⟨b,0,none⟩∧∃lb,H.own b=some lb∧lb[i]? =some (i64 x):=by
 have hl:=h.1
 rw[aoA,aos]at hl
 have hi:=(aoq.1 hx).1
 obtain⟨_,l,c2,hs,ho,hc,rS,ht⟩:=h
 injection hs with et ME G0
 refine⟨by omega,et,l,ho,?_⟩
 have h7:(xs.map i64)[i]? =some (i64 x):=by rw[aoG,hx];rfl
 rw[←ht,aoU,if_pos (by omega)]at h7
 exact h7
theorem OT{H:Hp}{v:Value}{size n:Nat}{xs:List Value}{fp:Option Nat}(h:Sl H size v n xs fp):∃a c,v= .slice a n c∧n≤c:=by
 obtain⟨_,h⟩:=h
 cases fp with
 |none=>obtain⟨rfl,rfl⟩:=h;exact⟨_,_,rfl,aoB _⟩
 |some b=>obtain⟨l,c,rfl,_,hc,_⟩:=h;exact⟨_,_,rfl,hc⟩
theorem cK.num{H:Hp}{a:Option Addr}{n c:Nat}{xs:List Int}(h:cK H 1 (.slice a n c) n (xs.map i64)){i:Nat}{x:Int}(hx:xs[i]? =some x):
  i<n∧∃b o lb,a=some ⟨b,o,none⟩∧H.rd b=some lb∧lb[o+i]? =some (i64 x):=by
 obtain⟨hl,hv⟩:=h
 rw[aoA,aos]at hl
 have hi:=(aoq.1 hx).1
 refine⟨by omega,?_⟩
 rcases hv with ⟨hn,_⟩| ⟨b,o,c2,l,hs,fw,rS,ht⟩
 ·omega
 ·injection hs with et ME G0
  refine⟨b,o,l,et,fw,?_⟩
  have h7:(xs.map i64)[i]? =some (i64 x):=by rw[aoG,hx];rfl
  rw[←ht,aoU,if_pos (by omega),aoX]at h7
  exact h7
def JP(ws:List (List Bool)):List Int→List Bool→Option (List Bool)
 | [],out=>some out
 |s::r,out=>if s<0∨(ws.length:Int)≤s∨1048576<out.length+(ws.getD s.toNat []).length then none else JP ws r (out++ws.getD s.toNat [])
def XO:Option (List Bool)→Value
 |some o=>.tuple [jc o,i64 0].toArray
 |none=>.tuple [CB [],i64 201].toArray
theorem Sw{ws:List (List Bool)}{s:Nat}(h:s<ws.length):(ws.map jc)[s]? =some (jc (ws.getD s [])):=by
 rw[aoG,Dr h]
 rfl
theorem UL{α:Type}{l:List α}{i:Nat}{x:α}(h:l[i]? =some x):l.drop i=x::l.drop (i+1):=by
 obtain⟨h1,h2⟩:=aoq.1 h
 rw[apm h1,h2]
theorem UM{ws:List (List Bool)}{n:Nat}(h:∀w∈ws,w.length≤n)(s:Nat):(ws.getD s []).length≤n:=by
 by_cases hs:s<ws.length
 ·exact h _ (aow (Dr hs))
 ·rw[aou,aoC (by omega)]
  exact apG _
theorem XP{a b:Bool}(h:bt a=bt b):a=b:=by cases a<;>cases b<;>first|rfl| (exact absurd h (by decide))
theorem jF{a b:List Bool}(h:a.map bt=b.map bt):a=b:=by
 induction a generalizing b with
 |nil=>
  cases b with
  |nil=>rfl
  |cons y b=>simp at h
 |cons x a ih=>
  cases b with
  |nil=>simp at h
  |cons y b=>
   rw[apg,apg,List.cons.injEq]at h
   rw[XP h.1,ih h.2]
abbrev nK(out:List Nat):List Int:=out.map fun(s:Nat)=>(s:Int)
def XQ(ws:List (List Bool))(bits:List UInt8)(H':Hp)(v:Value):Prop:=
 (∃out:List Nat,MC ws out∧(bitsOf ws out).map bt=bits∧bits.length≤1048576∧∃a c,v= .tuple [.slice a out.length c,i64 0].toArray∧cK H' 1 (.slice a out.length c) out.length ((nK out).map i64))∨
 ((∀out,MC ws out→(bitsOf ws out).map bt=bits→1048576<bits.length)∧v= .tuple [.slice none 0 0,i64 201].toArray)
theorem LN(ws:List (List Bool))(out:List Nat)(s:Nat):bitsOf ws (out++[s])=bitsOf ws out++ws.getD s []:=by
 rw[xG,dQ]
 show _++(_++[])=_
 rw[ao3]
theorem Em{H:Hp}{a:Option Addr}{c:Nat}{xs:List Nat}(f:FuncId)(q:Nat→Bool)(h1:cK H 1 (.slice a xs.length c) xs.length (nJ xs))(vG:dv Tryz.prog f=true)
  (hf:∀x,x∈xs→af Tryz.prog f [.int .u8 (x:Int)] H fun v Dx=>ar (v= .bool (q x)∧Dx=H))(hm:xs.length≤1000000000):
  af Tryz.prog kZ [.slice a xs.length c,.func (.func f) #[] #[]] H fun v H'=>ar (∃i:Int,v=i64 i∧(0≤i↔xs.any q=true)∧H'=H):=by
 refine aZ k8 ?_
 refine vs ?_
 refine aS.intro (fun m env H'=>H'=H∧∃j:Nat,m=xs.length - j∧j≤xs.length∧(∀e∈xs.take j,q e=false)∧env=[(0,.slice a xs.length c),(1,.func (.func f) #[] #[]),(7,i64 xs.length),(8,i64 j)]) xs.length ⟨rfl,0,by omega,by omega,by simp,rfl⟩ ?_
 rintro m env H1 ⟨rfl,j,ZC,hj,dJ,rfl⟩
 refine vs ?_
 refine ai.dec (fun aK=>?_) (fun aK=>?_)<;>refine vs ?_
 ·have gf:j<xs.length:=by omega
  obtain⟨e,he⟩:∃e,xs[j]? =some e:=⟨_,aop gf⟩
  obtain⟨_,b,o,lb,rfl,uA,aV⟩:=cK.byte h1 he
  refine⟨⟨by omega,by omega⟩,?_⟩
  have bF:=aow he
  refine v4 uA Int.toNat_natCast aos aV ?_
  refine⟨vG,?_⟩
  refine af.mono (by simpa using hf e bF) ?_
  rintro _ H2 ⟨rfl,rfl⟩
  refine vs ?_
  cases hx:q e
  ·refine vs ?_
   rw[wrap64 (n:=(j:Int)+1) (by omega) (by omega)]
   refine⟨xs.length - (j+1),by omega,trivial,j+1,rfl,by omega,?_,rfl⟩
   intro e' kY
   rw[aoM,he]at kY
   rcases aoL.1 kY with kY|kY
   ·exact dJ e' kY
   ·have:e'=e:=by simpa using kY
    rw[this];exact hx
  ·refine vs ?_
   exact⟨j,rfl,⟨fun _=>List.any_eq_true.2 ⟨e,bF,hx⟩,fun _=>by omega⟩,rfl⟩
 ·refine⟨-1,rfl,?_,rfl⟩
  have gf:j=xs.length:=by omega
  subst gf
  rw[aoQ]at dJ
  have:xs.any q=false:=List.any_eq_false.2 fun e he=>by rw[dJ e he];simp
  rw[this]
  simp
theorem zc{H:Hp}{a:Option Addr}{c:Nat}{xs:List Nat}(f:FuncId)(q:Nat→Bool)(h1:cK H 1 (.slice a xs.length c) xs.length (nJ xs))(vG:dv Tryz.prog f=true)
  (hf:∀x,x∈xs→af Tryz.prog f [.int .u8 (x:Int)] H fun v Dx=>ar (v= .bool (q x)∧Dx=H))(hm:xs.length≤1000000000):
  af Tryz.prog ja [.slice a xs.length c,.func (.func f) #[] #[]] H fun v H'=>ar (v= .bool (xs.any q)∧H'=H):=by
 refine aZ jb ?_
 refine vs ?_
 refine(Em f q h1 vG hf hm).mono ?_
 rintro _ H1 ⟨i,rfl,hi,rfl⟩
 refine vs ?_
 refine⟨aoD Value.bool ?_,rfl⟩
 cases hx:xs.any q
 ·exact aoK fun h=>by have:=hi.1 h;rw[hx]at this;cases this
 ·exact aoE (hi.2 hx)
theorem LO{H:Hp}{a a':Option Addr}{c c':Nat}{xs ys:List Nat}(h1:cK H 1 (.slice a xs.length c) xs.length (nJ xs))(h2:cK H 1 (.slice a' ys.length c') ys.length (nJ ys))(hm:xs.length≤1000000000)(hm2:ys.length≤1000000000):
  af Tryz.prog oD [.slice a xs.length c,.slice a' ys.length c'] H fun v H'=>ar (v= .bool (decide (xs=ys))∧H'=H):=by
 refine aZ oG ?_
 refine vs ?_
 refine ai.dec (fun aR=>?_) (fun aR=>?_)<;>refine vs ?_
 rotate_left
 ·exact⟨aoD Value.bool (aoK (fun e=>aR (by rw[e]))).symm,rfl⟩
 have aR:xs.length=ys.length:=by omega
 refine aS.intro (fun m env H'=>H'=H∧∃j:Nat,m=xs.length - j∧j≤xs.length∧xs.take j=ys.take j∧env=[(0,.slice a xs.length c),(1,.slice a' ys.length c'),(12,i64 xs.length),(13,i64 j)]) xs.length ⟨rfl,0,by omega,by omega,rfl,rfl⟩ ?_
 rintro m env H1 ⟨rfl,j,ZC,hj,Ky,rfl⟩
 refine vs ?_
 refine ai.dec (fun aK=>?_) (fun aK=>?_)<;>refine vs ?_
 ·obtain⟨e,he⟩:∃e,xs[j]? =some e:=⟨_,aop (by omega)⟩
  obtain⟨e',kY⟩:∃e,ys[j]? =some e:=⟨_,aop (by omega)⟩
  obtain⟨_,b,o,lb,rfl,fw,aV⟩:=cK.byte h1 he
  obtain⟨_,b',o',Wd,rfl,Sx,zd⟩:=cK.byte h2 kY
  refine⟨⟨by omega,by omega⟩,?_⟩
  refine v4 fw Int.toNat_natCast aos aV ?_
  refine⟨⟨by omega,by omega⟩,?_⟩
  refine v4 Sx Int.toNat_natCast aos zd ?_
  refine ai.dec (fun hn=>?_) (fun hn=>?_)<;>refine vs ?_
  ·rw[wrap64 (n:=(j:Int)+1) (by omega) (by omega)]
   refine⟨xs.length - (j+1),by omega,trivial,j+1,rfl,by omega,?_,rfl⟩
   rw[aoM,aoM,Ky,he,kY,show e=e' by omega]
  ·refine⟨aoD Value.bool (aoK (fun h=>hn ?_)).symm,rfl⟩
   rw[h,kY]at he
   injection he with he
   rw[he]
 ·have gf:j=xs.length:=by omega
  subst gf
  rw[aoQ,aR,aoQ]at Ky
  exact⟨aoD Value.bool (aoE Ky).symm,rfl⟩
theorem A4(H:Hp)(x:Nat):af Tryz.prog tS [.int .u8 (x:Int)] H fun v H'=>ar (v= .bool (!decide (x=48) && !decide (x=49))∧H'=H):=by
 refine aZ FG ?_
 refine vs ?_
 refine ai.dec (fun h=>?_) (fun h=>?_)<;>refine vs ?_
 ·rw[aoE (show x=48 by omega)]
  exact⟨rfl,rfl⟩
 ·rw[aoK (show¬x=48 by omega)]
  refine⟨aoD Value.bool ?_,rfl⟩
  simp
  omega
theorem Qk(l:List UInt8):((⟨l.toArray⟩:ByteArray).data.toList.map fun b=>Value.int .u8 b.toNat)=nJ (l.map UInt8.toNat):=by
 unfold nJ
 simp only[apE]
 rfl
theorem Ql(l:List UInt8):(!(l.map UInt8.toNat).any fun x=> !decide (x=48) && !decide (x=49))=l.all pU:=by
 rw[List.any_map]
 induction l with
 |nil=>rfl
 |cons c l ih=>
  rw[List.any_cons,List.all_cons,←ih,Bool.not_or]
  congr 1
  unfold pU
  have e1:decide (c.toNat=48)=decide (c=48):=by rw[decide_eq_decide];exact⟨fun h=>UInt8.toNat_inj.1 h,fun h=>by rw[h];rfl⟩
  have e2:decide (c.toNat=49)=decide (c=49):=by rw[decide_eq_decide];exact⟨fun h=>UInt8.toNat_inj.1 h,fun h=>by rw[h];rfl⟩
  simp only[Function.comp_apply,e1,e2]
  simp
theorem se(H:Hp){bits:List UInt8}(hl:bits.length≤1000000000):
  af Tryz.prog Ju [CB bits] H fun v H'=>ar (v= .bool (decide (bits.length≤1048576) && bits.all pU)∧am H H'):=by
 refine aZ JB ?_
 refine vs ?_
 rw[iI]
 refine ai.dec (fun h=>?_) (fun h=>?_)<;>refine vs ?_
 rotate_left
 ·rw[aoK (show¬bits.length≤1048576 by omega)]
  exact⟨rfl,ag.refl _ _⟩
 intro cc CE
 rw[iI]at CE
 rw[iI,Qk]
 have e1:am H (H.jR 5 (nJ (bits.map UInt8.toNat)++List.replicate (cc - bits.length) (.int .u8 0))):=(ag.refl _ _).jR _ _
 have r1:cK (H.jR 5 (nJ (bits.map UInt8.toNat)++List.replicate (cc - bits.length) (.int .u8 0))) 1 (.slice (some ⟨H.size,0,none⟩) (bits.map UInt8.toNat).length cc) (bits.map UInt8.toNat).length (nJ (bits.map UInt8.toNat)):=
  ⟨by simp[EX],.inr ⟨H.size,0,cc,_,rfl,pT (AS _ _ _),by simp[EX],by rw[apO,aos];exact aqk (by rw[EX])⟩⟩
 have jx:(bits.map UInt8.toNat).length=bits.length:=aoA ..
 rw[jx]at r1
 generalize H.jR 5 (nJ (bits.map UInt8.toNat)++List.replicate (cc - bits.length) (.int .u8 0))=H1 at*
 refine vs ?_
 have Sy:=zc (H:=H1) (a:=some ⟨H.size,0,none⟩) (c:=cc) (xs:=bits.map UInt8.toNat) tS _ (by rw[jx];exact r1) (by kernel_rfl) (fun x _=>A4 H1 x) (by omega)
 rw[jx]at Sy
 refine Sy.mono ?_
 rintro _ _ ⟨rfl,rfl⟩
 refine vs ?_
 rw[Ql,aoE (show bits.length≤1048576 by omega)]
 exact⟨rfl,e1⟩
theorem OU{bits:List UInt8}(h:bits.all pU=true):∃w:List Bool,bits=w.map bt:=by
 refine⟨bits.map fun c=>decide (c=49),?_⟩
 rw[apE]
 symm
 refine(apu fun c hc=>?_).trans (List.map_id _)
 have:=apF.1 h c hc
 unfold pU at this
 simp only[Bool.or_eq_true,ao0]at this
 simp only[Function.comp_apply,id_eq]
 rcases this with rfl|rfl<;>rfl
theorem FX(w:List Bool):(w.map bt).all pU=true:=by
 rw[apF]
 intro c hc
 obtain⟨b,_,rfl⟩:=ao8.1 hc
 cases b<;>decide
def We(bits:List UInt8)(H':Hp)(v:Value):Prop:=
 (¬ (bits.all pU=true∧bits.length≤1048576)∧v= .tuple [.slice none 0 0,i64 201].toArray)∨
 ∃w a c,bits=w.map bt∧w.length≤1048576∧v= .tuple [.slice a (nS w).length c,i64 0].toArray∧cK H' 1 (.slice a (nS w).length c) (nS w).length (nJ (nS w))
theorem Qm{f:List Bool}{s k:Nat}{b:Bool}(h:f[s+k]? =some b):dI ((f.drop s).take (k+1))=2*dI ((f.drop s).take k)+b.toNat:=by
 rw[aoM,aoX,h]
 exact jA _ _
theorem JQ(f:List Bool)(s k:Nat)(hk:k≤8):dI ((f.drop s).take k)<256:=RH (by rw[aoS];omega)
theorem Sl.byte{H:Hp}{w:Value}{ns:List Nat}{b:Nat}(s:Sl H 1 w ns.length (nJ ns) (some b)):∃lb c,w= .slice (some ⟨b,0,none⟩) ns.length c∧H.own b=some lb∧∀ (i x:Nat),ns[i]? =some x→lb[i]? =some (Value.int .u8 (x:Int)):=by
 obtain⟨_,l,c,h1,h2,h3,h4,h5⟩:=s
 refine⟨l,c,h1,h2,fun i x hx=>?_⟩
 have h7:(nJ ns)[i]? =some (Value.int .u8 (x:Int)):=by unfold nJ;rw[aoG,hx];rfl
 rw[←h5,aoU]at h7
 split at h7
 ·exact h7
 ·cases h7
structure sf(H:Hp)(x:Nat)(S:Nat→Prop)(ws:List (List Bool)):Prop where
 NC:∃wb tb tr fD,ij H x wb tb ws tr∧Ds tr fD ws∧S x∧S wb∧S tb∧tr.length≤1000000000
 slt:∀z,S z→z<H.size
 free:pg ws
 len:ws.length≤1000000
 short:∀w∈ws,w.length≤1000
theorem sf.ext{H H':Hp}{x:Nat}{S T:Nat→Prop}{ws:List (List Bool)}(h:sf H x S ws)(e:ag T H H')(hd:∀z,S z→¬T z):sf H' x S ws:=by
 obtain⟨⟨wb,tb,tr,fD,m,t,s1,s2,s3,hl⟩,h2,h3,h4,h5⟩:=h
 exact⟨⟨wb,tb,tr,fD,m.ext e (hd _ s1) (hd _ s2) (hd _ s3),t,s1,s2,s3,hl⟩,fun z hz=>aoO (h2 z hz) e.size,h3,h4,h5⟩
theorem sf.fresh{H H':Hp}{x:Nat}{S:Nat→Prop}{ws:List (List Bool)}(h:sf H x S ws)(e:am H H'):sf H' x S ws:=h.ext e fun _ _ h=>h
def pX(ws:List (List Bool))(s:Int):List Bool:=if s<0 then[]else ws.getD s.toNat []
theorem HN{H:Hp}{x:Nat}{S:Nat→Prop}{ws:List (List Bool)}(h:sf H x S ws):af Tryz.prog DY [ptr x] H fun v H'=>ar (v=i64 ws.length∧H'=H):=by
 obtain⟨wb,tb,tr,fD,m,_⟩:=h.NC
 obtain⟨tv,h1,h2⟩:=m.NC
 refine aZ D3 ?_
 refine v1 (ae h1) ?_
 exact⟨rfl,rfl⟩
theorem fM{H:Hp}{x:Nat}{S:Nat→Prop}{ws:List (List Bool)}(h:sf H x S ws)(s:Int):af Tryz.prog B8 [ptr x,i64 s] H fun v H'=>ar (v=jc (pX ws s)∧H'=H):=by
 obtain⟨wb,tb,tr,fD,m,_⟩:=h.NC
 obtain⟨tv,h1,h2⟩:=m.NC
 refine aZ Cl ?_
 refine vs ?_
 refine ai.dec (fun g=>?_) (fun g=>?_)<;>refine vs ?_
 ·unfold pX
  rw[if_pos g]
  exact⟨rfl,rfl⟩
 refine v1 (ae h1) ?_
 refine ai.dec (fun g2=>?_) (fun g2=>?_)<;>refine vs ?_
 ·unfold pX
  rw[if_neg g,aou,aoC (by omega)]
  exact⟨rfl,rfl⟩
 refine v1 (ae h1) ?_
 have OV:=Sw (ws:=ws) (s:=s.toNat) (by omega)
 refine⟨⟨by omega,by omega⟩,?_⟩
 refine v4 (ae m.words) aor aos OV ?_
 unfold pX
 rw[if_neg g]
 exact⟨rfl,rfl⟩
theorem NG(w:List Bool):nJ ((w.map bt).map UInt8.toNat)=w.map bv:=by
 unfold nJ
 simp only[apE]
 rfl
theorem CK{H:Hp}{x:Nat}{S:Nat→Prop}{ws:List (List Bool)}(h:sf H x S ws){bits:List UInt8}(hl:bits.length≤1000000000):
  af Tryz.prog xT [ptr x,CB bits] H fun v H'=>ar (am H H'∧XQ ws bits H' v):=by
 refine aZ yu ?_
 refine vs ?_
 refine(se H hl).mono ?_
 rintro _ H1 ⟨rfl,f1⟩
 refine vs ?_
 by_cases hb:bits.all pU=true∧bits.length≤1048576
 rotate_left
 ·have e:(decide (bits.length≤1048576) && bits.all pU)=false:=by
   rw[←aqx,apf,ao0]
   exact fun h=>hb ⟨h.2,h.1⟩
  refine ai.aP e ?_
  refine vs ?_
  refine⟨f1,.inr ⟨fun out _ e=>?_,rfl⟩⟩
  apply aoJ
  intro rS
  exact hb ⟨by rw[←e];exact FX _,by omega⟩
 have e:(decide (bits.length≤1048576) && bits.all pU)=true:=by
  rw[apf,ao0]
  exact⟨hb.2,hb.1⟩
 refine ai.bI e ?_
 obtain⟨FU,qv⟩:=hb
 obtain⟨w,rfl⟩:=OU FU
 rw[aoA]at qv
 refine vs ?_
 intro cc CE
 rw[iI,aoA]at CE ⊢
 rw[za]
 have e1:am H1 (H1.jR 5 (w.map bv++List.replicate (cc - w.length) (.int .u8 0))):=(ag.refl _ _).jR _ _
 have r1:cK (H1.jR 5 (w.map bv++List.replicate (cc - w.length) (.int .u8 0))) 1 (.slice (some ⟨H1.size,0,none⟩) w.length cc) w.length (w.map bv):=
  ⟨by simp,.inr ⟨H1.size,0,cc,_,rfl,pT (AS _ _ _),by simp,by simp⟩⟩
 generalize H1.jR 5 (w.map bv++List.replicate (cc - w.length) (.int .u8 0))=H2 at*
 have h2:=(h.fresh f1).fresh e1
 have f2:=f1.trans e1
 have z1:=f1.size
 have z2:=e1.size
 obtain⟨wb,tb,tr,fD,m2,t2,s1,s2,s3,HF⟩:=id h2.NC
 have lT:=h.free
 refine vs ?_
 refine aS.intro (fun m env H'=>∃ (j at_:Nat) (out:List Nat) (vE:List Bool) (wv:Value) (fp:Option Nat),m=w.length - j∧j≤w.length∧am H H'∧zF fD ws out vE at_∧w.take j=bitsOf ws out++vE∧out.length≤j∧
  (∀b,fp=some b→H2.size≤b)∧Sl H' 1 wv (nK out).length ((nK out).map i64) fp∧ag (fun z=>H2.size≤z) H2 H'∧
  env=[(0,ptr x),(6,wv),(7,i64 at_),(15,.slice (some ⟨H1.size,0,none⟩) w.length cc),(16,i64 w.length),(17,i64 j)]) w.length
  ⟨0,0,[],[],_,none,by omega,by omega,f2,zF.begin t2 lT,by rw[ap1];rfl,by simp,(fun b h=>by cases h),Sl.nil _ _,ag.refl _ _,rfl⟩ ?_
 rintro m env H3 ⟨j,at_,out,vE,wv,fp,rfl,hj,f3,rb,Ky,hol,fU,s5,e3,rfl⟩
 have z3:=e3.size
 have m3:=m2.ext e3 (fun hz=>by have:=h2.slt _ s1;omega) (fun hz=>by have:=h2.slt _ s2;omega) (fun hz=>by have:=h2.slt _ s3;omega)
 have r3:=r1.ext e3 (fun b hb hz=>by omega)
 refine vs ?_
 refine ai.dec (fun aK=>?_) (fun aK=>?_)<;>refine vs ?_
 rotate_left
 ·have gf:j=w.length:=by omega
  subst gf
  rw[aoQ]at Ky
  refine ai.dec (fun hz=>?_) (fun hz=>?_)<;>refine vs ?_
  ·have Sz:at_=0:=by omega
   subst Sz
   have nE:=rb.whole t2
   rw[nE,ao3]at Ky
   obtain⟨a,c,rfl⟩:=JL s5.rd
   have r5:=s5.rd
   rw[aoA]at r5
   refine⟨f3,.inl ⟨out,rb.inw,by rw[Ky],by rw[aoA];exact qv,a,c,?_,r5⟩⟩
   rw[aoA]
   rfl
  ·refine⟨f3,.inr ⟨fun du h' e'=>?_,rfl⟩⟩
   have hm:=jF e'
   exact absurd (by rw[hm,Ky]) (rb.left t2 lT (by omega) du h')
 obtain⟨c,l,p0,p1,p2,p3,p4⟩:=m3.BS
 obtain⟨b,hbj⟩:∃b,w[j]? =some b:=⟨_,aop (by omega)⟩
 have aV:(w.map bv)[j]? =some (bv b):=by rw[aoG,hbj];rfl
 obtain⟨_,⟨h0,_⟩| ⟨b2,o2',c2',lb,XB,fw,rS,CF⟩⟩:=id r3
 ·omega
 injection XB with q1 q2 q3
 injection q1 with q1
 injection q1 with q1 q1' _
 subst q1;subst q1';subst q3
 have Dt:lb[j]? =some (bv b):=by
  rw[apO]at CF
  exact pS CF aV
 obtain⟨y,hy⟩:=t2.at rb.path
 have lC:=(aoq.1 hy).1
 have ET:=pS p4 (JK hy b)
 have Zo:(b.toNat:Int)<2:=by cases b<;>decide
 have aft:(0:Int)≤(b.toNat:Int):=by omega
 have jx:=vq tr
 have XR:w.take (j+1)=bitsOf ws out++(vE++[b]):=by rw[aoM,hbj,Ky,apk];rfl
 refine⟨⟨by omega,by omega⟩,?_⟩
 refine v6 fw Int.toNat_natCast aor aos Dt (ae p0) ?_
 rw[Se]
 refine⟨⟨by omega,by omega⟩,?_⟩
 refine v4 Int.toNat_natCast aor aos Nat.add_zero ?_
 refine⟨by omega,?_⟩
 refine v6 (ae p1) Int.toNat_natCast aor aos Nat.add_zero ET ?_
 refine ai.dec (fun hz=>?_) (fun hz=>?_)<;>refine vs ?_
 ·refine⟨f3,.inr ⟨fun du h' e'=>?_,rfl⟩⟩
  have hm:=jF e'
  refine absurd ?_ (rb.fail t2 lT hy (c:=b) (by omega) (w.drop (j+1)) du h')
  rw[hm,←List.singleton_append,←apk vE,←apk,←XR,apt]
 obtain⟨y2,vF⟩:∃y2,tr[y.nx b]? =some y2:=by
  obtain⟨P,t,hP⟩:=t2.BS
  rcases t.DS at_ y vE b hy rb.path with ⟨h1,_⟩| ⟨_,h1⟩
  ·omega
  ·exact t2.at h1
 have aaQ:=(aoq.1 vF).1
 have hsy:=pS p4 (OO vF).2.2
 refine v1 (ae p0) ?_
 refine⟨⟨by omega,by omega⟩,?_⟩
 refine v6 (ae p1) Int.toNat_natCast aor aos Nat.add_zero hsy ?_
 rcases rb.go t2 lT hy (c:=b) (by omega) vF with ⟨et,rb2⟩| ⟨s,et,ME,rb2,hbo⟩
 ·refine ai.dec (fun MZ=>absurd MZ (by omega)) (fun _=>?_)
  refine vs ?_
  rw[wrap64 (n:=(j:Int)+1) (by omega) (by omega)]
  exact⟨w.length - (j+1),by omega,j+1,y.nx b,out,vE++[b],wv,fp,rfl,by omega,f3,rb2,XR,by omega,fU,s5,e3,rfl⟩
 ·refine ai.dec (fun _=>?_) (fun MZ=>absurd (by omega) MZ)
  refine vs ?_
  rw[et]
  refine AZ (B:=H2.size) fU z3 s5 (s:Int) (by rw[aoA];omega) fun w' H' dT iN s' e'=>?_
  refine vs ?_
  rw[wrap64 (n:=(j:Int)+1) (by omega) (by omega)]
  refine⟨w.length - (j+1),by omega,j+1,0,out++[s],[],w',dT,rfl,by omega,f3.then e' (fun z hz=>by omega),rb2,?_,by simp;omega,iN,?_,e3.trans e',rfl⟩
  ·rw[XR,hbo,ao3]
  ·have e2:nK (out++[s])=nK out++[(s:Int)]:=by simp[nK]
   rw[e2]
   exact s'
theorem En{H:Hp}{a:Option Addr}{c:Nat}{xs:List Int}(f:FuncId)(pY:List Value)(q:Int→Bool)(Inv:Hp→Prop)(hI:Inv H)(fw:∀H',Inv H'→cK H' 1 (.slice a xs.length c) xs.length (xs.map i64))(vG:dv Tryz.prog f=true)
  (hf:∀H' x,x∈xs→Inv H'→af Tryz.prog f (i64 x::pY) H' fun v Dx=>ar (v= .bool (q x)∧Inv Dx))(hm:xs.length≤1000000000):
  af Tryz.prog fH [.slice a xs.length c,.func (.func f) #[] pY.toArray] H fun v H'=>ar (∃i:Int,v=i64 i∧(0≤i↔xs.any q=true)∧Inv H'):=by
 refine aZ fJ ?_
 refine vs ?_
 refine aS.intro (fun m env H'=>Inv H'∧∃j:Nat,m=xs.length - j∧j≤xs.length∧(∀e∈xs.take j,q e=false)∧env=[(0,.slice a xs.length c),(1,.func (.func f) #[] pY.toArray),(7,i64 xs.length),(8,i64 j)]) xs.length ⟨hI,0,by omega,by omega,by simp,rfl⟩ ?_
 rintro m env H1 ⟨i1,j,ZC,hj,dJ,rfl⟩
 have h1:=fw H1 i1
 refine vs ?_
 refine ai.dec (fun aK=>?_) (fun aK=>?_)<;>refine vs ?_
 ·have gf:j<xs.length:=by omega
  obtain⟨e,he⟩:∃e,xs[j]? =some e:=⟨_,aop gf⟩
  obtain⟨_,b,o,lb,rfl,uA,aV⟩:=cK.num h1 he
  refine⟨⟨by omega,by omega⟩,?_⟩
  have bF:=aow he
  refine v4 uA Int.toNat_natCast aos aV ?_
  refine⟨vG,?_⟩
  refine af.mono (by simpa using hf H1 e bF i1) ?_
  rintro _ H2 ⟨rfl,i2⟩
  refine vs ?_
  cases hx:q e
  ·refine vs ?_
   rw[wrap64 (n:=(j:Int)+1) (by omega) (by omega)]
   refine⟨xs.length - (j+1),by omega,i2,j+1,rfl,by omega,?_,rfl⟩
   intro e' kY
   rw[aoM,he]at kY
   rcases aoL.1 kY with kY|kY
   ·exact dJ e' kY
   ·have:e'=e:=by simpa using kY
    rw[this];exact hx
  ·refine vs ?_
   exact⟨j,rfl,⟨fun _=>List.any_eq_true.2 ⟨e,bF,hx⟩,fun _=>by omega⟩,i2⟩
 ·refine⟨-1,rfl,?_,i1⟩
  have gf:j=xs.length:=by omega
  subst gf
  rw[aoQ]at dJ
  have:xs.any q=false:=List.any_eq_false.2 fun e he=>by rw[dJ e he];simp
  rw[this]
  simp
theorem mY{H:Hp}{a:Option Addr}{c:Nat}{xs:List Int}(f:FuncId)(pY:List Value)(q:Int→Bool)(Inv:Hp→Prop)(hI:Inv H)(fw:∀H',Inv H'→cK H' 1 (.slice a xs.length c) xs.length (xs.map i64))(vG:dv Tryz.prog f=true)
  (hf:∀H' x,x∈xs→Inv H'→af Tryz.prog f (i64 x::pY) H' fun v Dx=>ar (v= .bool (q x)∧Inv Dx))(hm:xs.length≤1000000000):
  af Tryz.prog jY [.slice a xs.length c,.func (.func f) #[] pY.toArray] H fun v H'=>ar (v= .bool (xs.any q)∧Inv H'):=by
 refine aZ kg ?_
 refine vs ?_
 refine(En f pY q Inv hI fw vG hf hm).mono ?_
 rintro _ H1 ⟨i,rfl,hi,i1⟩
 refine vs ?_
 refine⟨aoD Value.bool ?_,i1⟩
 cases hx:xs.any q
 ·rw[hx]at hi
  exact aoK (fun h=>by cases hi.1 h)
 ·rw[hx]at hi
  exact aoE (hi.2 rfl)
theorem oh{H:Hp}{v:Value}{n:Nat}{xs:List Int}(h:cK H 1 v n (xs.map i64))(hn:n≤1000000):
  af Tryz.prog qK [v] H fun r H'=>ar (am H H'∧∃fp,Sl H' 1 r n (xs.map i64) fp∧∀b,fp=some b→H.size≤b∧b<H'.size):=by
 refine aZ qQ ?_
 have hv:∃a c,v= .slice a n c:=by
  obtain⟨_,⟨rfl,a,c,rfl⟩| ⟨b,o,c,l,rfl,_⟩⟩:=h
  ·exact⟨_,_,rfl⟩
  ·exact⟨_,_,rfl⟩
 obtain⟨a,c,rfl⟩:=hv
 refine vs ?_
 cases a with
 |none=>
  have PA:n=0:=by
   obtain⟨_,⟨rfl,_⟩| ⟨b,o,c,l,e,_⟩⟩:=h
   ·rfl
   ·cases e
  have hx:xs.map i64=[]:=ao4.1 (by have:=h.1;simpa[PA]using this)
  simp(disch:=(first|omega| (simp only[Zs]<;>omega)|fail)) only[go_sem, ↓reduceIte,Zv,Option.isNone_none]
  rw[hx,PA]
  exact⟨ag.refl _ _,none,Sl.nil H 1,fun b hb=>by cases hb⟩
 |some ad=>
  simp(disch:=(first|omega| (simp only[Zs]<;>omega)|fail)) only[go_sem, ↓reduceIte,Zv,Option.isNone_some]
  have e0:ag (fun _=>False) H (H.new 3 []):=(ag.refl _ H).new 3 []
  refine Sl.append (Sl.cB (size:=1) (n:=0) (xs:=[]) rfl rfl) (h.fresh e0) rfl (AY xs) (by omega) ?_
  intro v' H2 dT hs ou fU
  refine vs ?_
  refine⟨ag.k9 e0 ou (fun z hz OG=>by injection OG with OG;omega),dT,by simpa[Lg]using hs,?_⟩
  intro z hz
  have HG:=ou.size
  rw[aq]at HG
  rcases fU with h| ⟨y,h,h5,h6⟩
  ·rw[h]at hz;injection hz with hz;omega
  ·rw[h]at hz;injection hz with hz;subst hz;rw[aq]at h5;omega
theorem SA(n:Nat):ce [CB []] n=(List.replicate n ([]:List Bool)).map jc:=by
 unfold ce
 induction n with
 |zero=>rfl
 |succ n ih=>rw[aoZ,apr,ih,aoZ];rfl
theorem Qn(l:List Nat):∀ (o:List Nat) (st:List Bool×List (List Bool)),(o.foldl (rP l) st).2.length=st.2.length:=by
 intro o
 induction o with
 |nil=>intro st;rfl
 |cons x o ih=>intro st;rw[List.foldl_cons,ih];unfold rP;rw[aot]
theorem cK.sub{H:Hp}{size n c:Nat}{a:Option Addr}{xs:List Value}(h:cK H size (.slice a n c) n xs){lo hi:Nat}(h1:lo≤hi)(h2:hi≤n){b':Option Addr}{c':Nat}(hb:lo<hi→b'=a.map (·.add (lo*size))):
  cK H size (.slice b' (hi - lo) c') (hi - lo) ((xs.drop (lo*size)).take ((hi - lo)*size)):=by
 obtain⟨hl,hv⟩:=h
 have e1:(hi - lo)*size=hi*size - lo*size:=Nat.sub_mul _ _ _
 have e2:hi*size≤n*size:=apI _ h2
 have e3:lo*size≤hi*size:=apI _ h1
 refine⟨by rw[aoS,apV,hl];omega,?_⟩
 by_cases aK:lo<hi
 ·rcases hv with ⟨hn,_⟩| ⟨b,o,c2,l,hs,fw,rS,ht⟩
  ·omega
  ·right
   injection hs with et ME G0
   subst et
   rw[hb aK]
   refine⟨b,o+lo*size,c',l,?_,fw,by omega,?_⟩
   ·simp[Addr.add]
   ·rw[←ht,List.drop_take,aqs,aqu,aqd (by omega)]
 ·left
  exact⟨by omega,b',c',by rw[show hi - lo=0 by omega]⟩
theorem SC{H:Hp}{a:Option Addr}{n c:Nat}{xs:List Int}(h:cK H 1 (.slice a n c) n (xs.map i64)){lo hi:Nat}{lo' hi':Int}(el:lo'=(lo:Int))(eh:hi'=(hi:Int))(h1:lo≤hi)(h2:hi≤n)(h3:n≤c):
  ∃a',Value.slice (if(c:Int)=lo' then a else Option.map (fun x:Addr=>x.add (lo'.toNat*1)) a) (hi'.toNat - lo'.toNat) ((c:Int).toNat - lo'.toNat)= .slice a' (hi - lo) (c - lo)∧
   cK H 1 (.slice a' (hi - lo) (c - lo)) (hi - lo) (((xs.drop lo).take (hi - lo)).map i64)∧hi - lo≤c - lo∧((xs.drop lo).take (hi - lo)).length=hi - lo:=by
 subst el;subst eh
 have hl:=h.1
 rw[aoA,aos]at hl
 refine⟨_,rfl,?_,by omega,by rw[aoS,apV];omega⟩
 have h4:=cK.sub h (lo:=lo) (hi:=hi) h1 h2 (c':=(c:Int).toNat - (lo:Int).toNat) (b':=if(c:Int)=(lo:Int)then a else Option.map (fun x:Addr=>x.add ((lo:Int).toNat*1)) a) (fun aK=>by rw[if_neg (by omega)];rfl)
 simp only[aos]at h4 ⊢
 rw[←List.map_drop,←aqz]at h4
 exact h4
theorem UN{H:Hp}{a:Option Addr}{n c:Nat}{xs:List Value}(h:cK H 1 (.slice a n c) n xs)(h1:1≤n)(h2:n≤c):
  ∃a' c',Value.slice (if(c:Int)=1 then a else Option.map (fun x=>x.add (Int.toNat 1*1)) a) ((n:Int).toNat - Int.toNat 1) ((c:Int).toNat - Int.toNat 1)= .slice a' (n - 1) c'∧
   cK H 1 (.slice a' (n - 1) c') (n - 1) xs.tail∧n - 1≤c':=by
 refine⟨_,_,rfl,?_,by show n - 1≤c - 1;omega⟩
 have hl:=h.1
 rw[aos]at hl
 have h3:=cK.sub h (lo:=1) (hi:=n) h1 (aoB _) (c':=c - 1) (b':=if(c:Int)=1 then a else Option.map (fun x=>x.add (Int.toNat 1*1)) a) (fun aK=>by rw[if_neg (by omega)];rfl)
 rw[aos,aos,apn (by simp;omega),List.drop_one]at h3
 exact h3
def afF(ns:List Nat)(v:Value):Prop:=
 ((∃k b,ns=k::b∧Ja k b∧(aM b).drop ((aM b).length - k)=List.replicate k false∧v= .tuple [jc ((aM b).take ((aM b).length - k)),i64 0].toArray)∨
 ((¬ ∃k b,ns=k::b∧Ja k b∧(aM b).drop ((aM b).length - k)=List.replicate k false)∧v= .tuple [CB [],i64 201].toArray))
theorem JR(b:List Nat)(c:Nat):aM (b++[c])=aM b++jO c:=by
 unfold aM
 rw[List.flatMap_append]
 simp
theorem OW{ns:List Nat}(h:∀k b,ns=k::b→¬Ja k b):¬ ∃k b,ns=k::b∧Ja k b∧(aM b).drop ((aM b).length - k)=List.replicate k false:=fun⟨k,b,h1,h2,_⟩=>h k b h1 h2
theorem XS{H:Hp}{v:Value}{n:Nat}{xs:List Value}{fp:Option Nat}(h:Sl H 1 v n xs fp):∃a c,v= .slice a n c∧n≤c:=by
 obtain⟨_,h⟩:=h
 cases fp with
 |none=>obtain⟨rfl,rfl⟩:=h;exact⟨_,_,rfl,aoB _⟩
 |some b=>obtain⟨l,c,rfl,_,hc,_⟩:=h;exact⟨_,_,rfl,hc⟩
theorem cK.get{H:Hp}{size n:Nat}{v:Value}{xs:List Value}(h:cK H size v n xs){i j:Nat}{x:Value}(hj:j<size)(hx:xs[i*size+j]? =some x):
  ∃b o c l,v= .slice (some ⟨b,o,none⟩) n c∧H.rd b=some l∧i<n∧l[o+i*size+j]? =some x:=by
 obtain⟨hl,⟨rfl,a,c,rfl⟩| ⟨b,o,c,l,rfl,h2,h3,h4⟩⟩:=h
 ·rw[aoC (by omega)]at hx;cases hx
 ·have aK:i*size+j<n*size:=by
   have:=(aoq.1 hx).1;omega
  refine⟨b,o,c,l,rfl,h2,?_,?_⟩
  ·rcases apK i n with h|h
   ·exact h
   ·have:=apI size h;omega
  ·rw[←h4,aoT aK,aoX]at hx
   rw[←hx];congr 1;omega
def A5(a b:Int):Int:=if a<b then -1 else if b<a then 1 else 0
theorem kE(a:Int)(H:Hp):af Tryz.prog Ai [i64 a] H fun v H'=>ar (v= .bool false∧H=H'):=by
 refine aZ AF ?_
 refine v1 aoW ?_
 exact⟨rfl,rfl⟩
theorem jy(a:Int)(H:Hp):af Tryz.prog yf [u64 a] H fun v H'=>ar (v= .bool false∧H=H'):=by
 refine aZ yL ?_
 refine v1 aoW ?_
 exact⟨rfl,rfl⟩
theorem ry(a b:Int)(H:Hp):af Tryz.prog vM [i64 a,i64 b] H fun v H'=>ar (v=i64 (A5 a b)∧H=H'):=by
 refine aZ wA ?_
 refine vs ?_
 refine(kE a H).mono ?_
 rintro _ _ ⟨rfl,rfl⟩
 refine vs ?_
 refine(kE b H).mono ?_
 rintro _ _ ⟨rfl,rfl⟩
 refine vs ?_
 refine ai.dec (fun h=>?_) (fun h=>?_)<;>refine vs ?_
 ·exact⟨aoD i64 (by simp[A5,h]),rfl⟩
 ·refine ai.dec (fun h2=>?_) (fun h2=>?_)<;>refine vs ?_
  ·exact⟨aoD i64 (by simp[A5,h,show b<a from h2]),rfl⟩
  ·exact⟨aoD i64 (by simp[A5,h,show¬b<a from h2]),rfl⟩
theorem pZ(a b:Int)(H:Hp):af Tryz.prog tU [u64 a,u64 b] H fun v H'=>ar (v=i64 (A5 a b)∧H=H'):=by
 refine aZ ue ?_
 refine vs ?_
 refine(jy a H).mono ?_
 rintro _ _ ⟨rfl,rfl⟩
 refine vs ?_
 refine(jy b H).mono ?_
 rintro _ _ ⟨rfl,rfl⟩
 refine vs ?_
 refine ai.dec (fun h=>?_) (fun h=>?_)<;>refine vs ?_
 ·exact⟨aoD i64 (by simp[A5,h]),rfl⟩
 ·refine ai.dec (fun h2=>?_) (fun h2=>?_)<;>refine vs ?_
  ·exact⟨aoD i64 (by simp[A5,h,show b<a from h2]),rfl⟩
  ·exact⟨aoD i64 (by simp[A5,h,show¬b<a from h2]),rfl⟩
def ZD(xs:List Int):Int:=(xs.find? fun x=>x≠0).getD 0
theorem Eo{H:Hp}{v:Value}{n:Nat}{xs:List Int}(h:cK H 1 v n (xs.map i64))(hn:n≤1000000)(hs:∃a c,v= .slice a n c):
  af Tryz.prog Jv [v] H fun r H'=>ar (r=i64 (ZD xs)∧H=H'):=by
 obtain⟨a,c,rfl⟩:=hs
 have aR:xs.length=n:=by have:=h.1;simpa using this
 refine aZ JD ?_
 refine vs ?_
 refine aS.intro (fun m env H1=>∃k:Nat,env=[(3,i64 0),(6,.slice a n c),(7,i64 n),(8,i64 k)]∧H1=H∧k≤n∧m=n - k∧∀j,j<k→xs[j]? =some 0) n ⟨0,rfl,rfl,by omega,by omega,fun j hj=>by omega⟩ ?_
 rintro m env H1 ⟨k,rfl,rfl,hk,rfl,hz⟩
 refine vs ?_
 refine ai.dec (fun aK=>?_) (fun aK=>?_)<;>refine vs ?_
 ·have hkn:k<xs.length:=by omega
  obtain⟨b,o,c',l,hv,hr,_,hg⟩:=cK.get h (i:=k) (j:=0) (x:=i64 xs[k]) (by omega) (by simp[hkn])
  injection hv with e1 e2 e3
  subst e1
  refine⟨by omega,?_⟩
  simp only[aos,Nat.add_zero]at hg
  refine v4 hr Int.toNat_natCast aos hg ?_
  refine ai.dec (fun h0=>?_) (fun h0=>?_)<;>refine vs ?_
  ·rw[wrap64 (by omega) (by omega)]
   refine⟨n - (k+1),by omega,k+1,rfl,trivial,by omega,rfl,fun j hj=>?_⟩
   by_cases e:j=k
   ·subst e;rw[aop hkn,h0]
   ·exact hz j (by omega)
  ·refine⟨aoD i64 ?_,rfl⟩
   unfold ZD
   have:xs.find? (fun x=>x≠0)=some xs[k]:=by
    rw[List.find?_eq_some_iff_getElem]
    refine⟨by simpa using h0,k,hkn,rfl,fun j hj=>?_⟩
    have:=hz j hj
    rw[aop (by omega)]at this
    injection this with this
    simp[this]
   rw[this];rfl
 ·refine⟨aoD i64 ?_,rfl⟩
  unfold ZD
  have:xs.find? (fun x=>x≠0)=none:=by
   rw[List.find?_eq_none]
   intro x hx
   obtain⟨j,hj,rfl⟩:=aqh.1 hx
   have:=hz j (by omega)
   rw[aop hj]at this
   injection this with this
   simp[this]
  rw[this];rfl
def LP(k s k' s':Int):Int:=ZD [A5 k k',A5 s s']
def fN(k s k' s':Int):Prop:=k<k'∨k=k'∧s<s'
instance(k s k' s':Int):Decidable (fN k s k' s'):=by unfold fN;infer_instance
theorem LQ(k s k' s':Int):LP k s k' s'<0↔fN k s k' s':=by
 unfold LP fN ZD A5
 by_cases h1:k<k'
 ·simp[h1]
 ·by_cases h2:k'<k
  ·simp[h1,h2];omega
  ·by_cases h3:s<s'
   ·simp[h1,h2,h3];omega
   ·by_cases h4:s'<s
    ·simp[h1,h2,h3,h4]
    ·simp[h1,h2,h3,h4]
theorem mZ(k s k' s':Int)(H:Hp):af Tryz.prog D2 [tu k s,tu k' s'] H fun v H'=>ar (v=i64 (LP k s k' s')∧am H H'):=by
 refine aZ D8 ?_
 refine vs ?_
 refine⟨_,(ry k k' _).mono fun _ _ h=>⟨h.out.1,h.out.2.symm⟩,?_⟩
 refine(pZ s s' _).mono ?_
 rintro _ _ ⟨rfl,rfl⟩
 refine vs ?_
 refine(Eo (n:=2) (xs:=[A5 k k',A5 s s']) (Sl.cB (size:=1) rfl (by simp only[aq])).rd (by omega) ⟨_,_,rfl⟩).mono ?_
 rintro _ _ ⟨rfl,rfl⟩
 exact⟨rfl,(((ag.refl _ _).new _ _).new _ _).new _ _⟩
theorem Ep(k s k' s':Int)(H:Hp):af Tryz.prog Jw [tu k s,tu k' s'] H fun v H'=>ar (v= .bool (decide (fN k s k' s'))∧am H H'):=by
 refine aZ JE ?_
 refine vs ?_
 refine(mZ k s k' s' _).mono ?_
 rintro _ _ ⟨rfl,hf⟩
 refine vs ?_
 refine⟨aoD Value.bool (by rw[decide_eq_decide];exact LQ _ _ _ _),?_⟩
 exact(((ag.refl _ _).new _ _).new _ _).trans hf
def fO(m n:Int):Int:=if n≤0 then m else if n>4611686018427387904 - m then 4611686018427387904 else m+n
theorem CL{H:Hp}{b:Nat}{m:Int}{r:List Value}(h:H.own b=some (i64 m::r))(hm:0≤m∧m≤4611686018427387904)(n:Int)(hn:n≤4611686018427387904):
  af Tryz.prog vN [ptr b,i64 n] H fun v H'=>ar (v= .tuple [].toArray∧H'=H.wr b (i64 (fO m n)::r)∨v= .tuple [].toArray∧H'=H∧fO m n=m):=by
 refine aZ wD ?_
 refine vs ?_
 refine ai.dec (fun h0=>?_) (fun h0=>?_)<;>refine v1 (ae h) ?_
 ·exact .inr ⟨rfl,rfl,by simp[fO,h0]⟩
 ·rw[wrap64 (by omega) (by omega)]
  refine ai.dec (fun h1=>?_) (fun h1=>?_)<;>refine v2 (ae h) h ?_
  ·exact .inl ⟨rfl,by rw[fO,if_neg h0,if_pos h1]⟩
  ·exact .inl ⟨rfl,by rw[fO,if_neg h0,if_neg h1,wrap64 (by omega) (by omega)]⟩
end Go.Proofs.YthpjfeolagohkaaGreat
