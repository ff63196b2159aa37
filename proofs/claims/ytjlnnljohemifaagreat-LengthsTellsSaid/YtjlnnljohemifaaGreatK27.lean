/- Texts put behind each other. -/
import Derived.Test.YtjlnnljohemifaaGreatK98
import Derived.Test.YtjlnnljohemifaaGreatK3
import Derived.Test.YtjlnnljohemifaaGreatK17
import Derived.Test.YtjlnnljohemifaaGreatK23
import Derived.Test.YtjlnnljohemifaaGreatK24
import Derived.Test.YtjlnnljohemifaaGreatK25
import Derived.Test.YtjlnnljohemifaaGreatK26
set_option linter.unusedVariables false
set_option linter.unusedSimpArgs false
namespace Go.Proofs.YtjlnnljohemifaaGreat
open Go Go.Vc
theorem OM(H:Hp)(x y:Nat)(hx:x<18446744073709551616)(hy:y<18446744073709551616):ai Tryz.prog BW [u64 (x:Int),u64 (y:Int)] H fun v H'=>ay (v= .tuple [u64 ((x*y / 18446744073709551616:Nat):Int),u64 ((x*y%18446744073709551616:Nat):Int)].toArray∧H'=H):=fun w hw=>by
 refine(Tryz.bits_Mul64 x y hx hy w).mono ?_
 rintro e w' ⟨rfl,rfl⟩
 exact⟨_,rfl,bZ.refl _,rfl,hw⟩
def De(ws ls:List Int):Prop:=ws.length=ls.length∧ws.length≤4096∧∀i,i<ws.length→1≤ws.getD i 0∧0≤ls.getD i 0∧ls.getD i 0≤4096
instance(ws ls:List Int):Decidable (De ws ls):=by unfold De;exact inferInstance
def JZ(ws ls:List Int):Int:=mG ws.length fun i=>ws.getD i 0*ls.getD i 0
def Df(ws ls:List Int):Int×Nat:=if De ws ls then OE (JZ ws ls)else(0,0)
theorem Gn{l:List Int}{i:Nat}{x:Int}(h:l[i]? =some x):l.getD i 0=x:=by rw[anE,h];rfl
set_option maxRecDepth 100000 in
set_option maxHeartbeats 4000000 in
theorem rK{H:Hp}{a a':Option Addr}{c c':Nat}{ws ls:List Int}(h:da H 1 (.slice a ws.length c) ws.length (ws.map i64))(h':da H 1 (.slice a' ls.length c') ls.length (ls.map i64))(hb:∀x∈ws,x≤9223372036854775807):
  ai Tryz.prog Gw [.slice a ws.length c,.slice a' ls.length c'] H fun v H'=>ay (v= .tuple [Tg (Df ws ls),.bool (decide (De ws ls))].toArray∧aq H H'):=by
 refine ba GB ⟨rfl,?_⟩
 refine v1 qf.eq_1 ?_
 have f0:aq H (H.new 36 [i64 0,u64 0]):=(ah.refl _ _).new _ _
 have o0:(H.new 36 [i64 0,u64 0]).own H.size=some [i64 0,u64 0]:=aE _ _ _
 have z0:(H.new 36 [i64 0,u64 0]).size=H.size+1:=ar _ _ _
 generalize H.new 36 [i64 0,u64 0]=H0 at*
 have TA:¬De ws ls→(Value.tuple [Tg (0,0),.bool false].toArray= .tuple [Tg (Df ws ls),.bool (decide (De ws ls))].toArray):=by
  intro hn
  unfold Df
  rw[if_neg hn,anU hn]
 have o0w:=aj (l:=[i64 0,u64 0]) o0
 have f0w:aq H (H0.wr H.size [i64 0,u64 0]):=f0.then ((ah.refl (fun z=>z=H.size) _).wr (fun _=>rfl) _) (fun z hz=>by omega)
 refine am.dec (fun h1=>?_) (fun h1=>?_)<;>refine v1 anZ ?_
 rotate_left
 ·have hn:¬De ws ls:=fun hc=>by have:=hc.1;omega
  refine v2 o0 (ae o0w) ?_
  exact⟨TA hn,f0w⟩
 have h1:ws.length=ls.length:=by omega
 refine am.dec (fun h2=>?_) (fun h2=>?_)<;>refine v1 anZ ?_
 ·have hn:¬De ws ls:=fun hc=>by have:=hc.2.1;omega
  refine v2 o0 (ae o0w) ?_
  exact⟨TA hn,f0w⟩
 have hn4:ws.length≤4096:=by omega
 have f1:aq H0 (H0.new 36 [i64 0,u64 0]):=(ah.refl _ _).new _ _
 have p1:(H0.new 36 [i64 0,u64 0]).own (H.size+1)=some [i64 0,u64 0]:=by rw[←z0];exact aE _ _ _
 have g1:=f0.trans f1
 have o1:=f1.own o0 (fun h=>h)
 rw[z0]
 generalize H0.new 36 [i64 0,u64 0]=H1 at*
 refine bA.intro (fun mm env H'=>∃ (j s:Nat),mm=ws.length - j∧j≤ws.length∧(s:Int)=mG j (fun i=>ws.getD i 0*ls.getD i 0)∧s≤j*37778931862957161709568∧(∀i,i<j→1≤ws.getD i 0∧0≤ls.getD i 0∧ls.getD i 0≤4096)∧ah (fun z=>z=H.size+1) H1 H'∧H'.own (H.size+1)=some [i64 ((s / 18446744073709551616:Nat):Int),u64 ((s%18446744073709551616:Nat):Int)]∧
  env=[(1,.slice a' ls.length c'),(4,ptr H.size),(6,ptr (H.size+1)),(24,.slice a ws.length c),(25,i64 ws.length),(26,i64 j)]) ws.length ⟨0,0,by omega,by omega,rfl,by omega,(fun i hi=>by omega),ah.refl _ _,p1,rfl⟩ ?_
 rintro mm env H2 ⟨j,s,rfl,hj,hs,hsb,vh,e2,p2,rfl⟩
 have g2:aq H H2:=g1.then e2 (fun z hz=>by omega)
 have o2:=e2.own o1 (fun e=>by omega)
 have o2w:=aj (l:=[i64 0,u64 0]) o2
 have f2w:aq H (H2.wr H.size [i64 0,u64 0]):=g2.then ((ah.refl (fun z=>z=H.size) _).wr (fun _=>rfl) _) (fun z hz=>by omega)
 refine vs ?_
 refine am.dec (fun aR=>?_) (fun aR=>?_)<;>refine vs ?_
 ·have jk:j<ws.length:=by omega
  obtain⟨x,hx⟩:∃x,ws[j]? =some x:=⟨_,anx jk⟩
  obtain⟨y,hy⟩:∃y,ls[j]? =some y:=⟨_,anx (by omega)⟩
  have T4:=hb x (anG hx)
  have hxd:=Gn hx
  have Wa:=Gn hy
  obtain⟨_,b,o,lb,rfl,kG,bM⟩:=da.num (h.fresh g2) hx
  obtain⟨_,b',o',UJ,rfl,NW,HI⟩:=da.num (h'.fresh g2) hy
  refine⟨⟨by omega,by omega⟩,?_⟩
  refine v4 kG Int.toNat_natCast anD bM ?_
  refine am.dec (fun h3=>?_) (fun h3=>?_)<;>refine v1 anZ ?_
  ·have hn:¬De ws ls:=fun hc=>by have:=hc.2.2 j jk;omega
   refine v2 o2 (ae o2w) ?_
   exact⟨TA hn,f2w⟩
  refine⟨⟨by omega,by omega⟩,?_⟩
  refine v4 NW Int.toNat_natCast anD HI ?_
  refine am.dec (fun h4=>?_) (fun h4=>?_)<;>refine v1 anZ ?_
  ·have hn:¬De ws ls:=fun hc=>by have:=hc.2.2 j jk;omega
   refine v2 o2 (ae o2w) ?_
   exact⟨TA hn,f2w⟩
  refine⟨⟨by omega,by omega⟩,?_⟩
  refine v4 NW Int.toNat_natCast anD HI ?_
  refine am.dec (fun h5=>?_) (fun h5=>?_)<;>refine v1 anZ ?_
  ·have hn:¬De ws ls:=fun hc=>by have:=hc.2.2 j jk;omega
   refine v2 o2 (ae o2w) ?_
   exact⟨TA hn,f2w⟩
  refine⟨⟨by omega,by omega⟩,?_⟩
  refine v4 NW Int.toNat_natCast anD HI ?_
  obtain⟨X,rfl⟩:∃X:Nat,x=(X:Int):=⟨x.toNat,by omega⟩
  obtain⟨Y,rfl⟩:∃Y:Nat,y=(Y:Int):=⟨y.toNat,by omega⟩
  rw[Gi (n:=(X:Int)) (by omega) (by omega),Gi (n:=(Y:Int)) (by omega) (by omega)]
  refine(OM H2 X Y (by omega) (by omega)).mono ?_
  rintro _ H2' ⟨rfl,e⟩
  obtain rfl:=e.symm
  have hP:X*Y≤9223372036854775807*4096:=Nat.mul_le_mul (by omega) (by omega)
  have Vd:mG (j+1) (fun i=>ws.getD i 0*ls.getD i 0)=((s+X*Y:Nat):Int):=by
   rw[eF,←hs,hxd,Wa]
   push_cast
   rfl
  generalize X*Y=P at*
  have hsj:s≤4096*37778931862957161709568:=aok hsb (aoW _ (by omega))
  have agQ:s+P≤(j+1)*37778931862957161709568:=by rw[aoR];omega
  refine v1 (ae p2) ?_
  refine Vq.mk (fun w=>Q4 (s%18446744073709551616) (P%18446744073709551616) 0 (by omega) (by omega) (by omega) w) ?_
  have hhi:((s / 18446744073709551616:Nat):Int)+(((P / 18446744073709551616:Nat):Int)+(((s%18446744073709551616+P%18446744073709551616+0) / 18446744073709551616:Nat):Int))=(((s+P) / 18446744073709551616:Nat):Int):=by omega
  have WY:(s%18446744073709551616+P%18446744073709551616+0)%18446744073709551616=(s+P)%18446744073709551616:=by omega
  refine v2 (ae p2) p2 ?_
  rw[Gi (n:=((P / 18446744073709551616:Nat):Int)+(((s%18446744073709551616+P%18446744073709551616+0) / 18446744073709551616:Nat):Int)) (by omega) (by omega),wrap64 (n:=((P / 18446744073709551616:Nat):Int)+(((s%18446744073709551616+P%18446744073709551616+0) / 18446744073709551616:Nat):Int)) (by omega) (by omega),hhi,WY,wrap64 (n:=(((s+P) / 18446744073709551616:Nat):Int)) (by omega) (by omega),wrap64 (n:=(j:Int)+1) (by omega) (by omega)]
  have e3:ah (fun z=>z=H.size+1) H2 (H2.wr (H.size+1) [i64 (((s+P) / 18446744073709551616:Nat):Int),u64 (((s+P)%18446744073709551616:Nat):Int)]):=(ah.refl (fun z=>z=H.size+1) _).wr (fun _=>rfl) _
  refine⟨ws.length - (j+1),by omega,j+1,s+P,rfl,by omega,Vd.symm,agQ,fun i hi=>?_,e2.trans e3,aj p2,rfl⟩
  by_cases he:i=j
  ·rw[he,hxd,Wa];omega
  ·exact vh i (by omega)
 ·have jk:j=ws.length:=by omega
  subst jk
  have hc:De ws ls:=⟨h1,hn4,vh⟩
  have o3w:=aj (l:=[i64 ((s / 18446744073709551616:Nat):Int),u64 ((s%18446744073709551616:Nat):Int)]) o2
  refine v3 (ae p2) o2 (ae o3w) ?_
  have hv:Df ws ls=(((s / 18446744073709551616:Nat):Int),s%18446744073709551616):=by
   unfold Df OE JZ
   rw[if_pos hc,←hs]
   refine Prod.ext ?_ ?_
   ·simp only;omega
   ·simp only;omega
  rw[hv,anQ hc]
  refine⟨rfl,g2.then ((ah.refl (fun z=>z=H.size) _).wr (fun _=>rfl) _) (fun z hz=>by omega)⟩
theorem K9{ws:List Int}(h:ie ws):∀x∈js ws,1≤x∧x≤4096:=by
 have h1:=h.n1
 have h2:=h.n2
 intro x hx
 unfold js at hx
 split at hx
 ·have:x=1:=by simpa using hx
  omega
 ·obtain⟨n,hn,rfl⟩:=aou.1 hx
  have:=Ph h1 n hn
  have:=LC (by omega) n hn
  omega
theorem La{ws ls:List Int}(h:ie ws)(hl:ws.length=ls.length)(ha:∀x∈ls,1≤x∧x≤4096):De ws ls:=by
 refine⟨hl,h.n2,fun i hi=>?_⟩
 have e1:ws[i]? =some ws[i]:=anx hi
 have e2:ls[i]? =some (ls[i]'(by omega)):=anx (by omega)
 rw[Gn e1,Gn e2]
 have h1:=h.pos _ (anG e1)
 have h2:=ha _ (anG e2)
 omega
theorem MK{ws:List Int}(h:ie ws):De ws (js ws):=La h (tH ws).symm (K9 h)
def uS(ws ls:List Int):Prop:=ie ws∧ws.length=ls.length∧(∀x∈ls,1≤x∧x≤4096)∧JC 4096 (OK ls)≤0∧JZ ws ls=JZ ws (js ws)
instance(ws ls:List Int):Decidable (uS ws ls):=by unfold uS;exact inferInstance
theorem TB{ls:List Int}(ha:∀x∈ls,x≤4096):∀n∈OK ls,n≤4096:=by
 intro n hn
 unfold OK oX at hn
 obtain⟨x,hx,rfl⟩:=aou.1 hn
 have:=ha x hx
 omega
theorem ab4(a b c d:Int):CO [(0,none,Shape.int),(1,none,Shape.int)] [i64 a,u64 b] [i64 c,u64 d]=some (decide (a=c∧b=d)):=by
 simp only[tB,CO,HG,an7,aox,bB,if_pos rfl]
 by_cases e:a=c
 ·by_cases e2:b=d<;>simp[e,e2]
 ·simp[e]
theorem Jw(H:Hp)(x:Int):ai Tryz.prog rE [i64 x] H fun v H'=>ay (v= .bool (decide (x<1∨4096<x))∧H'=H):=by
 refine ba Cf ⟨rfl,?_⟩
 refine v1 lm.eq_1 ?_
 refine am.dec (fun h=>?_) (fun h=>?_)<;>refine vs ?_
 ·rw[anQ (.inl h)];exact⟨rfl,rfl⟩
 ·refine⟨an4 Value.bool (decide_eq_decide.2 (by omega)),rfl⟩
set_option maxRecDepth 100000 in
set_option maxHeartbeats 4000000 in
theorem BA{H:Hp}(Dt:E6 1 0){a a':Option Addr}{c c':Nat}{ws ls:List Int}(h:da H 1 (.slice a ws.length c) ws.length (ws.map i64))(h':da H 1 (.slice a' ls.length c') ls.length (ls.map i64))(hb:∀x∈ws,x≤9223372036854775807):
  ai Tryz.prog Fl [.slice a ws.length c,.slice a' ls.length c'] H fun v H'=>ay (v= .bool (decide (uS ws ls))∧aq H H'):=by
 refine ba Fv ⟨rfl,?_⟩
 refine v1 oA.eq_1 ?_
 refine(rI h hb).mono ?_
 rintro _ H1' ⟨rfl,e⟩
 obtain rfl:=e.symm
 refine vs ?_
 by_cases hF:ie ws
 rotate_left
 ·rw[anU hF]
  refine v1 anZ ?_
  rw[anU (fun hl:uS ws ls=>hF hl.1)]
  exact⟨rfl,ah.refl _ _⟩
 rw[anQ hF]
 refine v1 anZ ?_
 refine am.dec (fun h1=>?_) (fun h1=>?_)<;>refine v1 anZ ?_
 rotate_left
 ·rw[anU (fun hl:uS ws ls=>by have:=hl.2.1;omega)]
  exact⟨rfl,ah.refl _ _⟩
 have h1:ws.length=ls.length:=by omega
 have BI:=hF.n2
 refine(qQ rE [] (fun x=>decide (x<1∨4096<x)) (fun H'=>H'=H) rfl (fun H' e=>e▸h') (by kernel_rfl) (fun H' x _ e=>(Jw H' x).mono fun v GU hp=>⟨hp.1,hp.2.trans e⟩) (by omega)).mono ?_
 rintro _ H1' ⟨rfl,e⟩
 obtain rfl:=e.symm
 refine vs ?_
 by_cases Jp:∀x∈ls,1≤x∧x≤4096
 rotate_left
 ·have ha:(ls.any fun x=>decide (x<1∨4096<x))=true:=by
   apply anX
   intro hc
   rw[Bool.not_eq_true,apV]at hc
   exact Jp fun x hx=>by have:=hc x hx;simp at this;omega
  rw[ha]
  refine v1 anZ ?_
  rw[anU (fun hl:uS ws ls=>Jp hl.2.2.1)]
  exact⟨rfl,ah.refl _ _⟩
 have ha:(ls.any fun x=>decide (x<1∨4096<x))=false:=by
  rw[apV]
  intro x hx
  have:=Jp x hx
  simp
  omega
 rw[ha]
 refine v1 anZ ?_
 obtain⟨kv,hkv⟩:∃kv,kv=JC 4096 (OK ls):=⟨_,rfl⟩
 have hK:=qR h' (by omega) (TB fun x hx=>(Jp x hx).2) (by omega)
 rw[←hkv]at hK
 refine hK.mono ?_
 clear hK
 rintro _ H2 ⟨rfl,f2⟩
 refine vs ?_
 refine am.dec (fun h3=>?_) (fun h3=>?_)<;>refine v1 anZ ?_
 ·rw[anU (fun hl:uS ws ls=>by have h9:=hl.2.2.2.1;rw[←hkv]at h9;omega)]
  exact⟨rfl,f2⟩
 refine(ii 1 0 (fun _=>Dt) (h.fresh f2) hb).mono ?_
 have hA:qO 1 0 ws=(0,js ws):=by
  unfold qO
  rw[if_neg (by rw[Ol (by unfold lZ;omega)];omega),if_pos hF]
 rintro _ H3 ⟨sv,rfl,⟨a3,c3,rfl,Rt⟩,f3⟩
 rw[hA]at Rt ⊢
 have g3:=f2.trans f3
 refine vs ?_
 refine(rK (h.fresh g3) (h'.fresh g3) hb).mono ?_
 rintro _ H4 ⟨rfl,f4⟩
 have g4:=g3.trans f4
 rw[anQ (La hF h1 Jp)]
 generalize hA1:Df ws ls=A1
 simp(disch:=(first|omega| (simp only[Zs]<;>omega)|fail)) only[go_sem, ↓reduceIte,Zv,Tg]
 obtain⟨f5,b5,z5⟩:=Np H4 36 [i64 0,u64 0] [i64 A1.1,u64 A1.2]
 generalize hB:H4.size=bb at*
 generalize (H4.new 36 [i64 0,u64 0]).wr bb [i64 A1.1,u64 A1.2]=H5 at*
 have g5:=g4.trans f5
 refine(rK (h.fresh g5) ((Rt.fresh f4).fresh f5) hb).mono ?_
 rintro _ H6 ⟨rfl,f6⟩
 have g6:=g5.trans f6
 have b6:=f6.own b5 (fun h=>h)
 rw[anQ (MK hF)]
 generalize hA2:Df ws (js ws)=A2
 simp(disch:=(first|omega| (simp only[Zs]<;>omega)|fail)) only[go_sem, ↓reduceIte,Zv,Tg]
 obtain⟨f7,b7,z7⟩:=Np H6 36 [i64 0,u64 0] [i64 A2.1,u64 A2.2]
 have b7':=f7.own b6 (fun h=>h)
 generalize hC:H6.size=cc at*
 generalize (H6.new 36 [i64 0,u64 0]).wr cc [i64 A2.1,u64 A2.2]=H7 at*
 refine v4 anZ (ae b7) (ae b7') ab4 ?_
 refine⟨?_,g6.trans f7⟩
 refine an4 Value.bool (decide_eq_decide.2 ?_)
 have e1:A1=OE (JZ ws ls):=by rw[←hA1];unfold Df;rw[if_pos (La hF h1 Jp)]
 have e2:A2=OE (JZ ws (js ws)):=by rw[←hA2];unfold Df;rw[if_pos (MK hF)]
 constructor
 ·rintro⟨x1,x2⟩
  have:A1=A2:=Prod.ext (by omega) (by omega)
  rw[e1,e2]at this
  exact⟨hF,h1,Jp,by rw[←hkv];omega,Th this⟩
 ·intro hl
  have:=hl.2.2.2.2
  rw[←this,←e1]at e2
  rw[e2]
  exact⟨rfl,rfl⟩
theorem Vr{ws:List Int}(h1:2≤ws.length):OK (js ws)=Fg ws:=by
 unfold js
 rw[if_neg (by omega)]
 unfold OK
 rw[apy]
 conv=>rhs;rw[←List.map_id (Fg ws)]
 refine ao4 fun n hn=>?_
 have:=LC h1 n hn
 show(oX (n:Int)).toNat=n
 unfold oX
 omega
theorem Vs{ws:List Int}(hF:ie ws){M:Nat}(hM:∀n∈OK (js ws),n≤M):JC M (OK (js ws))≤0∧(2≤ws.length→JC M (OK (js ws))=0):=by
 have h1:=hF.n1
 by_cases h2:2≤ws.length
 ·have:JC M (OK (js ws))=0:=by
   rw[Vr h2]at hM ⊢
   rw[Pe (M':=ws.length) hM (fun n hn=>by have:=Ph h1 n hn;omega)]
   unfold JC
   rw[P0 h1,if_neg (by omega),if_pos rfl]
  exact⟨by omega,fun _=>this⟩
 ·refine⟨?_,fun h=>absurd h h2⟩
  have e:OK (js ws)=[1]:=by unfold js;rw[if_pos (by omega)];rfl
  rw[e]at hM ⊢
  rw[Pe (M':=1) hM (by simp)]
  decide
theorem Q5{ws:List Int}(hF:ie ws):uS ws (js ws):=⟨hF,(tH ws).symm,K9 hF,(Vs hF (TB fun x hx=>(K9 hF x hx).2)).1,rfl⟩
theorem PQ:ie [1,1,2]:=by decide
theorem TC:js [1,1,2]=[2,2,1]:=by decide
theorem Vt:qO 5 0 [1,1,2]=(0,[2,2,1]):=by
 unfold qO
 rw[if_neg (by rw[Ol (by unfold lZ;omega)];omega),if_pos PQ,TC]
theorem TD:uS [1,1,2] [2,2,1]:=by
 have:=Q5 PQ
 rwa[TC]at this
theorem da.Ya(H:Hp)(T:TypeId)(x y z:Int){b:Nat}(hb:b=H.size):aq H (H.new T [i64 x,i64 y,i64 z])∧da (H.new T [i64 x,i64 y,i64 z]) 1 (.slice (some ⟨b,0,none⟩) 3 3) 3 ([x,y,z].map i64):=
 ⟨(ah.refl _ _).new _ _,(Sl.dw (n:=3) (xs:=[i64 x,i64 y,i64 z]) rfl hb).rd⟩
set_option maxHeartbeats 2000000 in
theorem EM(h1:E6 1 0)(h5:E6 5 0)(H:Hp):ai Tryz.prog wJ [] H fun v H'=>ay (v= .bool true∧aq H H'):=by
 refine ba wU ⟨rfl,?_⟩
 refine v1 gE.eq_1 ?_
 obtain⟨f1,r1⟩:=da.Ya H 2 1 1 2 rfl
 generalize H.new 2 [i64 1,i64 1,i64 2]=H1 at*
 refine(ii 5 0 (fun _=>h5) (ws:=[1,1,2]) r1 (by simp)).mono ?_
 rw[Vt]
 rintro _ H2 ⟨sv,rfl,⟨a,c,rfl,r2⟩,f2⟩
 have g2:=f1.trans f2
 refine v1 anZ ?_
 obtain⟨f3,r3⟩:=da.Ya H2 3 2 2 1 rfl
 generalize H2.new 3 [i64 2,i64 2,i64 1]=H3 at*
 have g3:=g2.trans f3
 have r2:=r2.fresh f3
 refine(vB (xs:=[2,2,1]) (ys:=[2,2,1]) r2 r3 (by simp)).mono ?_
 rintro _ H3' ⟨rfl,e⟩
 obtain rfl:=e
 refine v1 anZ ?_
 refine(qR (l:=[2,2,1]) (M:=2) r2 (by simp) (by decide) (by omega)).mono ?_
 rintro _ H4 ⟨rfl,f4⟩
 rw[show JC 2 (OK [2,2,1])=0 by decide]
 have g4:=g3.trans f4
 refine v1 anZ ?_
 obtain⟨f5,r5⟩:=da.Ya H4 2 1 1 2 rfl
 generalize H4.new 2 [i64 1,i64 1,i64 2]=H5 at*
 refine(BA h1 (ws:=[1,1,2]) (ls:=[2,2,1]) r5 ((r2.fresh f4).fresh f5) (by simp)).mono ?_
 rintro _ H6 ⟨rfl,f6⟩
 rw[anQ TD]
 refine vs ?_
 exact⟨rfl,(g4.trans f5).trans f6⟩
theorem TE(kd dd:Int)(ws:List Int):(qO kd dd ws).2.length≤4096:=by
 unfold qO
 split
 ·simp
 ·split
  ·rename_i hF
   show(js ws).length≤4096
   rw[tH]
   exact hF.n2
  ·simp
set_option maxRecDepth 100000 in
set_option maxHeartbeats 1000000 in
theorem tM{Hh:Hp}{v0 v1:Value}(h0:GO Hh (true,[.k (.i .i64),.k (.i .i64)]) v0)(h1:GO Hh (false,[.sl [.i .i64]]) v1):ai Tryz.prog wI [v0,v1] Hh fun v H'=>ay (v= .bool true∧aq Hh H'):=by
 obtain⟨kd,dd,rfl⟩:=OF h0
 obtain⟨ws,a,c,rfl,hr,hm,hw⟩:=MG h1
 clear h0 h1
 have hb:∀x∈ws,x≤9223372036854775807:=fun x hx=>(hw x hx).2
 refine ba wT ⟨rfl,?_⟩
 refine v1 gD.eq_1 ?_
 have f0:aq Hh (Hh.new 23 [i64 kd,i64 dd]):=(ah.refl _ _).new _ _
 have o0:(Hh.new 23 [i64 kd,i64 dd]).own Hh.size=some [i64 kd,i64 dd]:=aE _ _ _
 generalize Hh.new 23 [i64 kd,i64 dd]=H0 at*
 refine(EM S9 QO H0).mono ?_
 rintro _ H1 ⟨rfl,f1⟩
 have g1:=f0.trans f1
 have o1:=f1.own o0 (fun h=>h)
 refine v1 anZ ?_
 refine am.dec (fun c1=>?_) (fun c1=>?_)<;>refine v1 anZ ?_
 case' refine_1=>
  refine am.dec (fun c2=>?_) (fun c2=>?_)<;>refine v1 anZ ?_
  ·exact⟨rfl,g1⟩
 all_goals
  refine v1 (ae o1) ?_
  refine(ii kd dd (fun h=>Tw h) (hr.fresh g1) hb).mono ?_
  rintro _ H2 ⟨sv,rfl,⟨a2,c2,rfl,r2⟩,f2⟩
  have g2:=g1.trans f2
  have o2:=f2.own o1 (fun h=>h)
  refine v1 (ae o2) ?_
  refine(Bw kd dd (hr.fresh g2) hb (aok hm (by decide))).mono ?_
  rintro _ H3 ⟨sv,rfl,⟨a3,c3,rfl,r3⟩,f3⟩
  have g3:=g2.trans f3
  have r2:=r2.fresh f3
  have hl:=TE kd dd ws
  generalize qO kd dd ws=L at*
  refine v1 anZ ?_
  refine(vB (xs:=L.2) (ys:=L.2) r2 r3 (by omega)).mono ?_
  rintro _ H3' ⟨rfl,e⟩
  obtain rfl:=e
  refine v1 anZ ?_
  exact⟨rfl,g3⟩
end Go.Proofs.YtjlnnljohemifaaGreat
