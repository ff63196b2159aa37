/- Texts put behind each other. -/
import Derived.Test.YtjlnnljohemifaaGreatK98
import Derived.Test.YtjlnnljohemifaaGreatK3
import Derived.Test.YtjlnnljohemifaaGreatK17
import Derived.Test.YtjlnnljohemifaaGreatK23
import Derived.Test.YtjlnnljohemifaaGreatK24
import Derived.Test.YtjlnnljohemifaaGreatK25
import Derived.Test.YtjlnnljohemifaaGreatK26
set_option linter.unusedVariables false
set_option linter.unusedSimpArgs false
namespace Go.Proofs.YtjlnnljohemifaaGreat
open Go Go.Vc
theorem NZ(H:Hp)(x y:Nat)(hx:x<18446744073709551616)(hy:y<18446744073709551616):ah Tryz.prog BI [u64 (x:Int),u64 (y:Int)] H fun v H'=>ay (v= .tuple [u64 ((x*y / 18446744073709551616:Nat):Int),u64 ((x*y%18446744073709551616:Nat):Int)].toArray∧H'=H):=fun w hw=>by
 refine(Tryz.bits_Mul64 x y hx hy w).mono ?_
 rintro e w' ⟨rfl,rfl⟩
 exact⟨_,rfl,bZ.refl _,rfl,hw⟩
def C1(ws ls:List Int):Prop:=ws.length=ls.length∧ws.length≤4096∧∀i,i<ws.length→1≤ws.getD i 0∧0≤ls.getD i 0∧ls.getD i 0≤4096
instance(ws ls:List Int):Decidable (C1 ws ls):=by unfold C1;exact inferInstance
def vp(ws ls:List Int):Int:=jd ws.length fun i=>ws.getD i 0*ls.getD i 0
def tG(ws ls:List Int):Int×Nat:=if C1 ws ls then CP (vp ws ls)else(0,0)
theorem F8{l:List Int}{i:Nat}{x:Int}(h:l[i]? =some x):l.getD i 0=x:=by rw[al9,h];rfl
set_option maxRecDepth 100000 in
set_option maxHeartbeats 4000000 in
theorem gB{H:Hp}{a a':Option Addr}{c c':Nat}{ws ls:List Int}(h:ep H 1 (.slice a ws.length c) ws.length (ws.map i64))(h':ep H 1 (.slice a' ls.length c') ls.length (ls.map i64))(hb:∀x∈ws,x≤9223372036854775807):
  ah Tryz.prog Gi [.slice a ws.length c,.slice a' ls.length c'] H fun v H'=>ay (v= .tuple [I4 (tG ws ls),.bool (decide (C1 ws ls))].toArray∧ax H H'):=by
 refine be Gn ⟨rfl,?_⟩
 refine v1 qh.eq_1 ?_
 have f0:ax H (H.new 36 [i64 0,u64 0]):=(ai.refl _ _).new _ _
 have o0:(H.new 36 [i64 0,u64 0]).own H.size=some [i64 0,u64 0]:=aG _ _ _
 have z0:(H.new 36 [i64 0,u64 0]).size=H.size+1:=au _ _ _
 generalize H.new 36 [i64 0,u64 0]=H0 at*
 have S5:¬C1 ws ls→(Value.tuple [I4 (0,0),.bool false].toArray= .tuple [I4 (tG ws ls),.bool (decide (C1 ws ls))].toArray):=by
  intro hn
  unfold tG
  rw[if_neg hn,amm hn]
 have o0w:=aj (l:=[i64 0,u64 0]) o0
 have f0w:ax H (H0.wr H.size [i64 0,u64 0]):=f0.then ((ai.refl (fun z=>z=H.size) _).wr (fun _=>rfl) _) (fun z hz=>by omega)
 refine ak.dec (fun h1=>?_) (fun h1=>?_)<;>refine v1 amp ?_
 rotate_left
 ·have hn:¬C1 ws ls:=fun hc=>by have:=hc.1;omega
  refine v2 o0 (ae o0w) ?_
  exact⟨S5 hn,f0w⟩
 have h1:ws.length=ls.length:=by omega
 refine ak.dec (fun h2=>?_) (fun h2=>?_)<;>refine v1 amp ?_
 ·have hn:¬C1 ws ls:=fun hc=>by have:=hc.2.1;omega
  refine v2 o0 (ae o0w) ?_
  exact⟨S5 hn,f0w⟩
 have hn4:ws.length≤4096:=by omega
 have f1:ax H0 (H0.new 36 [i64 0,u64 0]):=(ai.refl _ _).new _ _
 have p1:(H0.new 36 [i64 0,u64 0]).own (H.size+1)=some [i64 0,u64 0]:=by rw[←z0];exact aG _ _ _
 have g1:=f0.trans f1
 have o1:=f1.own o0 (fun h=>h)
 rw[z0]
 generalize H0.new 36 [i64 0,u64 0]=H1 at*
 refine bA.intro (fun mm env H'=>∃ (j s:Nat),mm=ws.length - j∧j≤ws.length∧(s:Int)=jd j (fun i=>ws.getD i 0*ls.getD i 0)∧s≤j*37778931862957161709568∧(∀i,i<j→1≤ws.getD i 0∧0≤ls.getD i 0∧ls.getD i 0≤4096)∧ai (fun z=>z=H.size+1) H1 H'∧H'.own (H.size+1)=some [i64 ((s / 18446744073709551616:Nat):Int),u64 ((s%18446744073709551616:Nat):Int)]∧
  env=[(1,.slice a' ls.length c'),(4,ptr H.size),(6,ptr (H.size+1)),(24,.slice a ws.length c),(25,i64 ws.length),(26,i64 j)]) ws.length ⟨0,0,by omega,by omega,rfl,by omega,(fun i hi=>by omega),ai.refl _ _,p1,rfl⟩ ?_
 rintro mm env H2 ⟨j,s,rfl,hj,hs,hsb,uX,e2,p2,rfl⟩
 have g2:ax H H2:=g1.then e2 (fun z hz=>by omega)
 have o2:=e2.own o1 (fun e=>by omega)
 have o2w:=aj (l:=[i64 0,u64 0]) o2
 have f2w:ax H (H2.wr H.size [i64 0,u64 0]):=g2.then ((ai.refl (fun z=>z=H.size) _).wr (fun _=>rfl) _) (fun z hz=>by omega)
 refine vs ?_
 refine ak.dec (fun aR=>?_) (fun aR=>?_)<;>refine vs ?_
 ·have kJ:j<ws.length:=by omega
  obtain⟨x,hx⟩:∃x,ws[j]? =some x:=⟨_,al5 kJ⟩
  obtain⟨y,hy⟩:∃y,ls[j]? =some y:=⟨_,al5 (by omega)⟩
  have Pt:=hb x (amb hx)
  have hxd:=F8 hx
  have Vp:=F8 hy
  obtain⟨_,b,o,lb,rfl,mu,bE⟩:=ep.num (h.fresh g2) hx
  obtain⟨_,b',o',Vr,rfl,SF,Hl⟩:=ep.num (h'.fresh g2) hy
  refine⟨⟨by omega,by omega⟩,?_⟩
  refine v4 mu Int.toNat_natCast ama bE ?_
  refine ak.dec (fun h3=>?_) (fun h3=>?_)<;>refine v1 amp ?_
  ·have hn:¬C1 ws ls:=fun hc=>by have:=hc.2.2 j kJ;omega
   refine v2 o2 (ae o2w) ?_
   exact⟨S5 hn,f2w⟩
  refine⟨⟨by omega,by omega⟩,?_⟩
  refine v4 SF Int.toNat_natCast ama Hl ?_
  refine ak.dec (fun h4=>?_) (fun h4=>?_)<;>refine v1 amp ?_
  ·have hn:¬C1 ws ls:=fun hc=>by have:=hc.2.2 j kJ;omega
   refine v2 o2 (ae o2w) ?_
   exact⟨S5 hn,f2w⟩
  refine⟨⟨by omega,by omega⟩,?_⟩
  refine v4 SF Int.toNat_natCast ama Hl ?_
  refine ak.dec (fun h5=>?_) (fun h5=>?_)<;>refine v1 amp ?_
  ·have hn:¬C1 ws ls:=fun hc=>by have:=hc.2.2 j kJ;omega
   refine v2 o2 (ae o2w) ?_
   exact⟨S5 hn,f2w⟩
  refine⟨⟨by omega,by omega⟩,?_⟩
  refine v4 SF Int.toNat_natCast ama Hl ?_
  obtain⟨X,rfl⟩:∃X:Nat,x=(X:Int):=⟨x.toNat,by omega⟩
  obtain⟨Y,rfl⟩:∃Y:Nat,y=(Y:Int):=⟨y.toNat,by omega⟩
  rw[F2 (n:=(X:Int)) (by omega) (by omega),F2 (n:=(Y:Int)) (by omega) (by omega)]
  refine(NZ H2 X Y (by omega) (by omega)).mono ?_
  rintro _ H2' ⟨rfl,e⟩
  obtain rfl:=e.symm
  have hP:X*Y≤9223372036854775807*4096:=Nat.mul_le_mul (by omega) (by omega)
  have W6:jd (j+1) (fun i=>ws.getD i 0*ls.getD i 0)=((s+X*Y:Nat):Int):=by
   rw[dA,←hs,hxd,Vp]
   push_cast
   rfl
  generalize X*Y=P at*
  have Z3:s≤4096*37778931862957161709568:=amM hsb (ana _ (by omega))
  have af1:s+P≤(j+1)*37778931862957161709568:=by rw[am6];omega
  refine v1 (ae p2) ?_
  refine UE.mk (fun w=>Qw (s%18446744073709551616) (P%18446744073709551616) 0 (by omega) (by omega) (by omega) w) ?_
  have hhi:((s / 18446744073709551616:Nat):Int)+(((P / 18446744073709551616:Nat):Int)+(((s%18446744073709551616+P%18446744073709551616+0) / 18446744073709551616:Nat):Int))=(((s+P) / 18446744073709551616:Nat):Int):=by omega
  have Wm:(s%18446744073709551616+P%18446744073709551616+0)%18446744073709551616=(s+P)%18446744073709551616:=by omega
  refine v2 (ae p2) p2 ?_
  rw[F2 (n:=((P / 18446744073709551616:Nat):Int)+(((s%18446744073709551616+P%18446744073709551616+0) / 18446744073709551616:Nat):Int)) (by omega) (by omega),wrap64 (n:=((P / 18446744073709551616:Nat):Int)+(((s%18446744073709551616+P%18446744073709551616+0) / 18446744073709551616:Nat):Int)) (by omega) (by omega),hhi,Wm,wrap64 (n:=(((s+P) / 18446744073709551616:Nat):Int)) (by omega) (by omega),wrap64 (n:=(j:Int)+1) (by omega) (by omega)]
  have e3:ai (fun z=>z=H.size+1) H2 (H2.wr (H.size+1) [i64 (((s+P) / 18446744073709551616:Nat):Int),u64 (((s+P)%18446744073709551616:Nat):Int)]):=(ai.refl (fun z=>z=H.size+1) _).wr (fun _=>rfl) _
  refine⟨ws.length - (j+1),by omega,j+1,s+P,rfl,by omega,W6.symm,af1,fun i hi=>?_,e2.trans e3,aj p2,rfl⟩
  by_cases he:i=j
  ·rw[he,hxd,Vp];omega
  ·exact uX i (by omega)
 ·have kJ:j=ws.length:=by omega
  subst kJ
  have hc:C1 ws ls:=⟨h1,hn4,uX⟩
  have o3w:=aj (l:=[i64 ((s / 18446744073709551616:Nat):Int),u64 ((s%18446744073709551616:Nat):Int)]) o2
  refine v3 (ae p2) o2 (ae o3w) ?_
  have hv:tG ws ls=(((s / 18446744073709551616:Nat):Int),s%18446744073709551616):=by
   unfold tG CP vp
   rw[if_pos hc,←hs]
   refine Prod.ext ?_ ?_
   ·simp only;omega
   ·simp only;omega
  rw[hv,amj hc]
  refine⟨rfl,g2.then ((ai.refl (fun z=>z=H.size) _).wr (fun _=>rfl) _) (fun z hz=>by omega)⟩
theorem F9{ws:List Int}(h:gA ws):∀x∈fC ws,1≤x∧x≤4096:=by
 have h1:=h.n1
 have h2:=h.n2
 intro x hx
 unfold fC at hx
 split at hx
 ·have:x=1:=by simpa using hx
  omega
 ·obtain⟨n,hn,rfl⟩:=amJ.1 hx
  have:=OH h1 n hn
  have:=Lc (by omega) n hn
  omega
theorem Ga{ws ls:List Int}(h:gA ws)(hl:ws.length=ls.length)(ha:∀x∈ls,1≤x∧x≤4096):C1 ws ls:=by
 refine⟨hl,h.n2,fun i hi=>?_⟩
 have e1:ws[i]? =some ws[i]:=al5 hi
 have e2:ls[i]? =some (ls[i]'(by omega)):=al5 (by omega)
 rw[F8 e1,F8 e2]
 have h1:=h.pos _ (amb e1)
 have h2:=ha _ (amb e2)
 omega
theorem C2{ws:List Int}(h:gA ws):C1 ws (fC ws):=Ga h (CO ws).symm (F9 h)
def ni(ws ls:List Int):Prop:=gA ws∧ws.length=ls.length∧(∀x∈ls,1≤x∧x≤4096)∧Dh 4096 (gE ls)≤0∧vp ws ls=vp ws (fC ws)
instance(ws ls:List Int):Decidable (ni ws ls):=by unfold ni;exact inferInstance
theorem KI{ls:List Int}(ha:∀x∈ls,x≤4096):∀n∈gE ls,n≤4096:=by
 intro n hn
 unfold gE eY at hn
 obtain⟨x,hx,rfl⟩:=amJ.1 hn
 have:=ha x hx
 omega
theorem VF(a b c d:Int):Cx [(0,none,Shape.int),(1,none,Shape.int)] [i64 a,u64 b] [i64 c,u64 d]=some (decide (a=c∧b=d)):=by
 simp only[tq,Cx,Hk,amz,amY,bB,if_pos rfl]
 by_cases e:a=c
 ·by_cases e2:b=d<;>simp[e,e2]
 ·simp[e]
theorem Jd(H:Hp)(x:Int):ah Tryz.prog rz [i64 x] H fun v H'=>ay (v= .bool (decide (x<1∨4096<x))∧H'=H):=by
 refine be BZ ⟨rfl,?_⟩
 refine v1 lm.eq_1 ?_
 refine ak.dec (fun h=>?_) (fun h=>?_)<;>refine vs ?_
 ·rw[amj (.inl h)];exact⟨rfl,rfl⟩
 ·refine⟨amt Value.bool (decide_eq_decide.2 (by omega)),rfl⟩
set_option maxRecDepth 100000 in
set_option maxHeartbeats 4000000 in
theorem cY{H:Hp}(Df:EP 1 0){a a':Option Addr}{c c':Nat}{ws ls:List Int}(h:ep H 1 (.slice a ws.length c) ws.length (ws.map i64))(h':ep H 1 (.slice a' ls.length c') ls.length (ls.map i64))(hb:∀x∈ws,x≤9223372036854775807):
  ah Tryz.prog E3 [.slice a ws.length c,.slice a' ls.length c'] H fun v H'=>ay (v= .bool (decide (ni ws ls))∧ax H H'):=by
 refine be Fa ⟨rfl,?_⟩
 refine v1 ou.eq_1 ?_
 refine(rE h hb).mono ?_
 rintro _ H1' ⟨rfl,e⟩
 obtain rfl:=e.symm
 refine vs ?_
 by_cases hF:gA ws
 rotate_left
 ·rw[amm hF]
  refine v1 amp ?_
  rw[amm (fun hl:ni ws ls=>hF hl.1)]
  exact⟨rfl,ai.refl _ _⟩
 rw[amj hF]
 refine v1 amp ?_
 refine ak.dec (fun h1=>?_) (fun h1=>?_)<;>refine v1 amp ?_
 rotate_left
 ·rw[amm (fun hl:ni ws ls=>by have:=hl.2.1;omega)]
  exact⟨rfl,ai.refl _ _⟩
 have h1:ws.length=ls.length:=by omega
 have zD:=hF.n2
 refine(qP rz [] (fun x=>decide (x<1∨4096<x)) (fun H'=>H'=H) rfl (fun H' e=>e▸h') (by kernel_rfl) (fun H' x _ e=>(Jd H' x).mono fun v GF hp=>⟨hp.1,hp.2.trans e⟩) (by omega)).mono ?_
 rintro _ H1' ⟨rfl,e⟩
 obtain rfl:=e.symm
 refine vs ?_
 by_cases I7:∀x∈ls,1≤x∧x≤4096
 rotate_left
 ·have ha:(ls.any fun x=>decide (x<1∨4096<x))=true:=by
   apply amr
   intro hc
   rw[Bool.not_eq_true,aoj]at hc
   exact I7 fun x hx=>by have:=hc x hx;simp at this;omega
  rw[ha]
  refine v1 amp ?_
  rw[amm (fun hl:ni ws ls=>I7 hl.2.2.1)]
  exact⟨rfl,ai.refl _ _⟩
 have ha:(ls.any fun x=>decide (x<1∨4096<x))=false:=by
  rw[aoj]
  intro x hx
  have:=I7 x hx
  simp
  omega
 rw[ha]
 refine v1 amp ?_
 obtain⟨kv,VG⟩:∃kv,kv=Dh 4096 (gE ls):=⟨_,rfl⟩
 have hK:=j8 h' (by omega) (KI fun x hx=>(I7 x hx).2) (by omega)
 rw[←VG]at hK
 refine hK.mono ?_
 clear hK
 rintro _ H2 ⟨rfl,f2⟩
 refine vs ?_
 refine ak.dec (fun h3=>?_) (fun h3=>?_)<;>refine v1 amp ?_
 ·rw[amm (fun hl:ni ws ls=>by have h9:=hl.2.2.2.1;rw[←VG]at h9;omega)]
  exact⟨rfl,f2⟩
 refine(ik 1 0 (fun _=>Df) (h.fresh f2) hb).mono ?_
 have hA:CN 1 0 ws=(0,fC ws):=by
  unfold CN
  rw[if_neg (by rw[NC (by unfold l9;omega)];omega),if_pos hF]
 rintro _ H3 ⟨sv,rfl,⟨a3,c3,rfl,QY⟩,f3⟩
 rw[hA]at QY ⊢
 have g3:=f2.trans f3
 refine vs ?_
 refine(gB (h.fresh g3) (h'.fresh g3) hb).mono ?_
 rintro _ H4 ⟨rfl,f4⟩
 have g4:=g3.trans f4
 rw[amj (Ga hF h1 I7)]
 generalize WM:tG ws ls=A1
 simp(disch:=(first|omega| (simp only[Zs]<;>omega)|fail)) only[go_sem, ↓reduceIte,Zv,I4]
 obtain⟨f5,b5,z5⟩:=MU H4 36 [i64 0,u64 0] [i64 A1.1,u64 A1.2]
 generalize hB:H4.size=bb at*
 generalize (H4.new 36 [i64 0,u64 0]).wr bb [i64 A1.1,u64 A1.2]=H5 at*
 have g5:=g4.trans f5
 refine(gB (h.fresh g5) ((QY.fresh f4).fresh f5) hb).mono ?_
 rintro _ H6 ⟨rfl,f6⟩
 have g6:=g5.trans f6
 have b6:=f6.own b5 (fun h=>h)
 rw[amj (C2 hF)]
 generalize hA2:tG ws (fC ws)=A2
 simp(disch:=(first|omega| (simp only[Zs]<;>omega)|fail)) only[go_sem, ↓reduceIte,Zv,I4]
 obtain⟨f7,b7,z7⟩:=MU H6 36 [i64 0,u64 0] [i64 A2.1,u64 A2.2]
 have b7':=f7.own b6 (fun h=>h)
 generalize hC:H6.size=cc at*
 generalize (H6.new 36 [i64 0,u64 0]).wr cc [i64 A2.1,u64 A2.2]=H7 at*
 refine v4 amp (ae b7) (ae b7') VF ?_
 refine⟨?_,g6.trans f7⟩
 refine amt Value.bool (decide_eq_decide.2 ?_)
 have e1:A1=CP (vp ws ls):=by rw[←WM];unfold tG;rw[if_pos (Ga hF h1 I7)]
 have e2:A2=CP (vp ws (fC ws)):=by rw[←hA2];unfold tG;rw[if_pos (C2 hF)]
 constructor
 ·rintro⟨x1,x2⟩
  have:A1=A2:=Prod.ext (by omega) (by omega)
  rw[e1,e2]at this
  exact⟨hF,h1,I7,by rw[←VG];omega,Mc this⟩
 ·intro hl
  have:=hl.2.2.2.2
  rw[←this,←e1]at e2
  rw[e2]
  exact⟨rfl,rfl⟩
theorem UF{ws:List Int}(h1:2≤ws.length):gE (fC ws)=tN ws:=by
 unfold fC
 rw[if_neg (by omega)]
 unfold gE
 rw[anJ]
 conv=>rhs;rw[←List.map_id (tN ws)]
 refine anE fun n hn=>?_
 have:=Lc h1 n hn
 show(eY (n:Int)).toNat=n
 unfold eY
 omega
theorem Pb{ws:List Int}(hF:gA ws){M:Nat}(hM:∀n∈gE (fC ws),n≤M):Dh M (gE (fC ws))≤0∧(2≤ws.length→Dh M (gE (fC ws))=0):=by
 have h1:=hF.n1
 by_cases h2:2≤ws.length
 ·have:Dh M (gE (fC ws))=0:=by
   rw[UF h2]at hM ⊢
   rw[OC (M':=ws.length) hM (fun n hn=>by have:=OH h1 n hn;omega)]
   unfold Dh
   rw[Pp h1,if_neg (by omega),if_pos rfl]
  exact⟨by omega,fun _=>this⟩
 ·refine⟨?_,fun h=>absurd h h2⟩
  have e:gE (fC ws)=[1]:=by unfold fC;rw[if_pos (by omega)];rfl
  rw[e]at hM ⊢
  rw[OC (M':=1) hM (by simp)]
  decide
theorem JG{ws:List Int}(hF:gA ws):ni ws (fC ws):=⟨hF,(CO ws).symm,F9 hF,(Pb hF (KI fun x hx=>(F9 hF x hx).2)).1,rfl⟩
theorem Pd:gA [1,1,2]:=by decide
theorem S7:fC [1,1,2]=[2,2,1]:=by decide
theorem UG:CN 5 0 [1,1,2]=(0,[2,2,1]):=by
 unfold CN
 rw[if_neg (by rw[NC (by unfold l9;omega)];omega),if_pos Pd,S7]
theorem S8:ni [1,1,2] [2,2,1]:=by
 have:=JG Pd
 rwa[S7]at this
theorem ep.Xx(H:Hp)(T:TypeId)(x y z:Int){b:Nat}(hb:b=H.size):ax H (H.new T [i64 x,i64 y,i64 z])∧ep (H.new T [i64 x,i64 y,i64 z]) 1 (.slice (some ⟨b,0,none⟩) 3 3) 3 ([x,y,z].map i64):=
 ⟨(ai.refl _ _).new _ _,(Sl.dE (n:=3) (xs:=[i64 x,i64 y,i64 z]) rfl hb).rd⟩
set_option maxHeartbeats 2000000 in
theorem Ez(h1:EP 1 0)(h5:EP 5 0)(H:Hp):ah Tryz.prog wz [] H fun v H'=>ay (v= .bool true∧ax H H'):=by
 refine be wJ ⟨rfl,?_⟩
 refine v1 gJ.eq_1 ?_
 obtain⟨f1,r1⟩:=ep.Xx H 2 1 1 2 rfl
 generalize H.new 2 [i64 1,i64 1,i64 2]=H1 at*
 refine(ik 5 0 (fun _=>h5) (ws:=[1,1,2]) r1 (by simp)).mono ?_
 rw[UG]
 rintro _ H2 ⟨sv,rfl,⟨a,c,rfl,r2⟩,f2⟩
 have g2:=f1.trans f2
 refine v1 amp ?_
 obtain⟨f3,r3⟩:=ep.Xx H2 3 2 2 1 rfl
 generalize H2.new 3 [i64 2,i64 2,i64 1]=H3 at*
 have g3:=g2.trans f3
 have r2:=r2.fresh f3
 refine(FP (xs:=[2,2,1]) (ys:=[2,2,1]) r2 r3 (by simp)).mono ?_
 rintro _ H3' ⟨rfl,e⟩
 obtain rfl:=e
 refine v1 amp ?_
 refine(j8 (l:=[2,2,1]) (M:=2) r2 (by simp) (by decide) (by omega)).mono ?_
 rintro _ H4 ⟨rfl,f4⟩
 rw[show Dh 2 (gE [2,2,1])=0 by decide]
 have g4:=g3.trans f4
 refine v1 amp ?_
 obtain⟨f5,r5⟩:=ep.Xx H4 2 1 1 2 rfl
 generalize H4.new 2 [i64 1,i64 1,i64 2]=H5 at*
 refine(cY h1 (ws:=[1,1,2]) (ls:=[2,2,1]) r5 ((r2.fresh f4).fresh f5) (by simp)).mono ?_
 rintro _ H6 ⟨rfl,f6⟩
 rw[amj S8]
 refine vs ?_
 exact⟨rfl,(g4.trans f5).trans f6⟩
theorem Xy{M:Nat}{ns:List Nat}(h:Dh M ns≤0):kS M ns≤2^M:=by
 unfold Dh at h
 split at h
 ·omega
 ·omega
theorem QB{ws:List Int}(h2:2≤ws.length)(i:Nat):(fC ws).getD i 0=((tN ws).getD i 0:Int):=by
 unfold fC
 rw[if_neg (by omega),al9,al9,amo]
 cases(tN ws)[i]? <;>rfl
theorem S9{os:List Int}(ho:∀x∈os,1≤x)(i:Nat):((gE os).getD i 0:Int)=os.getD i 0:=by
 unfold gE
 rw[al9,al9,amo]
 cases h:os[i]? with
 |none=>rfl
 |some x=>
  have:=ho x (amb h)
  show((eY x).toNat:Int)=x
  unfold eY
  omega
theorem QC{ws os:List Int}(hF:gA ws)(hl:os.length=ws.length)(ho:∀x∈os,1≤x){M:Nat}(hM:∀n∈gE os,n≤M)(hk:Dh M (gE os)≤0):vp ws (fC ws)≤vp ws os:=by
 have h1:=hF.n1
 by_cases h2:2≤ws.length
 ·have h3:=MY h1 (fun w hw=>by have:=hF.pos w hw;omega) (ns:=gE os) (by rw[F7,hl]) hM (Xy hk)
  have e1:vp ws (fC ws)=Gf ws (tN ws):=mJ fun i hi=>by rw[QB h2]
  have e2:vp ws os=Gf ws (gE os):=mJ fun i hi=>by rw[S9 ho]
  rw[e1,e2]
  exact h3
 ·have e1:ws.length=1:=by omega
  obtain⟨w,rfl⟩:=List.length_eq_one_iff.1 e1
  obtain⟨x,rfl⟩:=List.length_eq_one_iff.1 (hl.trans e1)
  have hx:=ho x (by simp)
  have hw:=hF.pos w (by simp)
  show jd 1 _≤jd 1 _
  rw[dA,dA]
  show 0+w*1≤0+w*x
  have:=anD hx (show 0≤w by omega)
  omega
theorem Ta{S T:Int}(h:S≤T):Fs (CP S).1 (CP S).2 (CP T).1 (CP T).2≤0:=by
 by_cases e:S=T
 ·subst e
  exact Int.le_of_eq ((PP _ _ _ _).2 ⟨rfl,rfl⟩)
 ·refine Int.le_of_lt ((GI _ _ _ _).2 ?_)
  unfold gu CP
  simp only
  omega
set_option maxRecDepth 100000 in
set_option maxHeartbeats 4000000 in
theorem uJ{Hh:Hp}{v0 v1 v2:Value}(h0:Fq Hh (true,[.k (.i .i64),.k (.i .i64)]) v0)(h1:Fq Hh (false,[.sl [.i .i64]]) v1)(h2:Fq Hh (false,[.sl [.i .i64]]) v2):ah Tryz.prog yk [v0,v1,v2] Hh fun v H'=>ay (v= .bool true∧ax Hh H'):=by
 obtain⟨kd,dd,rfl⟩:=NR h0
 obtain⟨ws,a,c,rfl,hr,hm,hw⟩:=ER h1
 obtain⟨os,a',c',rfl,UH,hm',ND⟩:=ER h2
 clear h0 h1 h2
 have hb:∀x∈ws,x≤9223372036854775807:=fun x hx=>(hw x hx).2
 refine be yJ ⟨rfl,?_⟩
 refine v1 pj.eq_1 ?_
 have f0:ax Hh (Hh.new 23 [i64 kd,i64 dd]):=(ai.refl _ _).new _ _
 have o0:(Hh.new 23 [i64 kd,i64 dd]).own Hh.size=some [i64 kd,i64 dd]:=aG _ _ _
 generalize Hh.new 23 [i64 kd,i64 dd]=H0 at*
 refine(Ez tA Qg H0).mono ?_
 rintro _ H1 ⟨rfl,f1⟩
 have g1:=f0.trans f1
 have o1:=f1.own o0 (fun h=>h)
 refine v1 amp ?_
 refine ak.dec (fun c1=>?_) (fun c1=>?_)<;>refine v2 amp (ae o1) ?_
 ·exact⟨rfl,g1⟩
 refine(GZ kd dd H1).mono ?_
 rintro _ H2 ⟨rfl,f2⟩
 have g2:=g1.trans f2
 have o2:=f2.own o1 (fun h=>h)
 refine vs ?_
 refine ak.dec (fun c2=>?_) (fun c2=>?_)<;>refine v1 amp ?_
 rotate_left
 ·exact⟨rfl,g2⟩
 have hK:=LV.1 c2
 refine(Em (hr.fresh g2) hb (by omega)).mono ?_
 rintro _ H2' ⟨rfl,e⟩
 obtain rfl:=e.symm
 refine vs ?_
 by_cases hF:gA ws
 rotate_left
 ·rw[amm hF]
  refine v1 amp ?_
  exact⟨rfl,g2⟩
 rw[amj hF]
 refine v1 amp ?_
 refine ak.dec (fun c3=>?_) (fun c3=>?_)<;>refine v2 amp (ae o2) ?_
 rotate_left
 ·exact⟨rfl,g2⟩
 have hol:os.length=ws.length:=by omega
 have hA:CN kd dd ws=(0,fC ws):=by unfold CN;rw[if_neg (by omega),if_pos hF]
 have bm:=CO ws
 refine(ik kd dd (fun h=>SV h) (hr.fresh g2) hb).mono ?_
 rw[hA]
 rintro _ H3 ⟨sv,rfl,⟨a3,c3',rfl,r3⟩,f3⟩
 have g3:=g2.trans f3
 refine vs ?_
 refine(gB (hr.fresh g3) r3 hb).mono ?_
 rintro _ H4 ⟨rfl,f4⟩
 have g4:=g3.trans f4
 rw[amj (C2 hF)]
 obtain⟨A,WM⟩:∃A,A=tG ws (fC ws):=⟨_,rfl⟩
 rw[←WM]
 simp(disch:=(first|omega| (simp only[Zs]<;>omega)|fail)) only[go_sem, ↓reduceIte,Zv,I4]
 obtain⟨f5,b5,z5⟩:=MU H4 36 [i64 0,u64 0] [i64 A.1,u64 A.2]
 generalize Sd:H4.size=b at*
 generalize (H4.new 36 [i64 0,u64 0]).wr b [i64 A.1,u64 A.2]=H5 at*
 have g5:=g4.trans f5
 have r5:=(r3.fresh f4).fresh f5
 refine v1 amp ?_
 refine(cY tA (hr.fresh g5) r5 hb).mono ?_
 rintro _ H6 ⟨rfl,f6⟩
 rw[amj (JG hF)]
 have g6:=g5.trans f6
 have b6:=f6.own b5 (fun h=>h)
 have r6:ep H6 1 (.slice a3 (fC ws).length c3') (fC ws).length ((fC ws).map i64):=r5.fresh f6
 obtain⟨M,hM0⟩:∃M:Nat,M=4096:=⟨_,rfl⟩
 have hMl:∀n∈gE (fC ws),n≤M:=by rw[hM0];exact KI (fun x hx=>(F9 hF x hx).2)
 refine v1 amp ?_
 refine ak.dec (fun c4=>?_) (fun c4=>?_)<;>refine v1 amp ?_
 case' refine_1=>
  have K1:=j8 (l:=fC ws) r6 (by rw[bm];omega) hMl (by omega)
  rw[(Pb hF hMl).2 (by have c4:((fC ws).length:Int)>1:=c4;rw[bm]at c4;omega)]at K1
  refine K1.mono ?_
  clear K1
  rintro _ H7 ⟨rfl,f7⟩
  have g7:=g6.trans f7
  have b7:=f7.own b6 (fun h=>h)
  refine v1 amp ?_
 case' refine_2=>
  obtain⟨H7,e7⟩:∃H7,H7=H6:=⟨_,rfl⟩
  have g7:ax Hh H7:=by rw[e7];exact g6
  have b7:H7.own b=some [i64 A.1,u64 A.2]:=by rw[e7];exact b6
  rw[←e7]
  clear e7
 all_goals
  clear g6 b6 r6 f6
  refine bA.intro (fun mm env H'=>∃j:Nat,mm=os.length - j∧j≤os.length∧H'=H7∧(∀x∈os.take j,1≤x∧x≤4096)∧
   env=[(1,.slice a ws.length c),(2,.slice a' os.length c'),(9,ptr b),(71,.slice a' os.length c'),(72,i64 os.length),(73,i64 j)]) os.length ⟨0,by omega,by omega,rfl,by simp,rfl⟩ ?_
  rintro mm env H8 ⟨j,rfl,hj,rfl,hp,rfl⟩
  refine vs ?_
  refine ak.dec (fun aR=>?_) (fun aR=>?_)<;>refine vs ?_
  ·obtain⟨x,hx⟩:∃x,os[j]? =some x:=⟨_,al5 (by omega)⟩
   have Pt:=amb hx
   obtain⟨_,b1,o1',lb,ha',mu,bE⟩:=ep.num (UH.fresh g7) hx
   subst ha'
   refine⟨⟨by omega,by omega⟩,?_⟩
   refine v4 mu Int.toNat_natCast ama bE ?_
   refine ak.dec (fun n1=>?_) (fun n1=>?_)<;>refine v1 amp ?_
   ·refine(cY tA (hr.fresh g7) (UH.fresh g7) hb).mono ?_
    rintro _ H9 ⟨rfl,f9⟩
    rw[amm (fun hl:ni ws os=>by have:=hl.2.2.1 x Pt;omega)]
    refine vs ?_
    exact⟨rfl,g7.trans f9⟩
   refine ak.dec (fun n2=>?_) (fun n2=>?_)<;>refine v1 amp ?_
   ·refine(cY tA (hr.fresh g7) (UH.fresh g7) hb).mono ?_
    rintro _ H9 ⟨rfl,f9⟩
    rw[amm (fun hl:ni ws os=>by have:=hl.2.2.1 x Pt;omega)]
    refine vs ?_
    exact⟨rfl,g7.trans f9⟩
   rw[wrap64 (n:=(j:Int)+1) (by omega) (by omega)]
   refine⟨os.length - (j+1),by omega,j+1,rfl,by omega,trivial,fun y hy=>?_,rfl⟩
   rw[amG,hx,aml]at hy
   rcases hy with hy|hy
   ·exact hp y hy
   ·have:y=x:=by simpa using hy
    omega
  have kJ:j=os.length:=by omega
  subst kJ
  rw[amB]at hp
  have hMo:∀n∈gE os,n≤M:=by rw[hM0];exact KI (fun x hx=>(hp x hx).2)
  obtain⟨kv,VG⟩:∃kv,kv=Dh M (gE os):=⟨_,rfl⟩
  have K2:=Ey (UH.fresh g7) (by omega) hMo (by omega)
  rw[←VG]at K2
  refine K2.mono ?_
  clear K2
  rintro _ H9 ⟨rfl,f9⟩
  have g9:=g7.trans f9
  have b9:=f9.own b7 (fun h=>h)
  refine vs ?_
  refine ak.dec (fun n3=>?_) (fun n3=>?_)<;>refine v1 amp ?_
  ·refine(cY tA (hr.fresh g9) (UH.fresh g9) hb).mono ?_
   rintro _ H10 ⟨rfl,f10⟩
   rw[amm (fun hl:ni ws os=>by
    have h9:=hl.2.2.2.1
    rw[←hM0,←VG]at h9
    omega)]
   refine vs ?_
   exact⟨rfl,g9.trans f10⟩
  have zU:=QC hF hol (fun x hx=>(hp x hx).1) hMo (by rw[←VG];omega)
  have hC:=Ga hF hol.symm hp
  refine(gB (hr.fresh g9) (UH.fresh g9) hb).mono ?_
  rintro _ H10 ⟨rfl,f10⟩
  have g10:=g9.trans f10
  have b10:=f10.own b9 (fun h=>h)
  rw[amj hC]
  obtain⟨B,hB1⟩:∃B,B=tG ws os:=⟨_,rfl⟩
  rw[←hB1]
  simp(disch:=(first|omega| (simp only[Zs]<;>omega)|fail)) only[go_sem, ↓reduceIte,Zv,I4]
  obtain⟨f11,d11,z11⟩:=MU H10 36 [i64 0,u64 0] [i64 B.1,u64 B.2]
  generalize akG:H10.size=d at*
  generalize (H10.new 36 [i64 0,u64 0]).wr d [i64 B.1,u64 B.2]=H11 at*
  have g11:=g10.trans f11
  have Xz:=f11.own b10 (fun h=>h)
  have hAv:A=CP (vp ws (fC ws)):=by rw[WM];unfold tG;rw[if_pos (C2 hF)]
  have hBv:B=CP (vp ws os):=by rw[hB1];unfold tG;rw[if_pos hC]
  have abo:=Ta zU
  rw[←hAv,←hBv]at abo
  have hLe:ni ws os↔(A.1=B.1∧(A.2:Int)=B.2):=by
   constructor
   ·intro hl
    have h9:=hl.2.2.2.2
    rw[hAv,hBv,h9]
    exact⟨rfl,rfl⟩
   ·rintro⟨x1,x2⟩
    have:A=B:=Prod.ext x1 (by omega)
    rw[hAv,hBv]at this
    exact⟨hF,hol.symm,hp,by rw[←hM0,←VG];omega,(Mc this).symm⟩
  refine vs ?_
  refine qZ.intro (fun H'=>H'.own b=some [i64 A.1,u64 A.2]∧H'.own d=some [i64 B.1,u64 B.2]) ⟨Xz,d11⟩ ?_
  refine vs ?_
  refine IQ.intro ?_ ?_
  all_goals
   refine v2 (ae Xz) (ae d11) ?_
   refine⟨⟨Xz,d11⟩,?_⟩
   refine v2 (ae Xz) (ae d11) ?_
   refine⟨⟨Xz,d11⟩,?_⟩
   refine v2 (ae Xz) (ae d11) ?_
   refine(Bl A B H11).mono ?_
   rintro _ H12 ⟨rfl,f12⟩
   have b12:=f12.own Xz (fun h=>h)
   have d12:=f12.own d11 (fun h=>h)
   have g12:=g11.trans f12
   refine vs ?_
   refine⟨⟨b12,d12⟩,?_⟩
   refine vs ?_
   rw[amj abo]
   refine v1 amp ?_
   refine qF.intro (.agg #[i64 A.1,u64 A.2]) (fun H' hI=>by refine v1 (ae hI.1) ?_;trivial) ?_
   refine vs ?_
   refine qF.intro (.agg #[i64 B.1,u64 B.2]) (fun H' hI=>by refine v1 (ae hI.2) ?_;trivial) ?_
   simp(disch:=(first|omega| (simp only[Zs]<;>omega)|fail)) only[go_sem, ↓reduceIte,Zv,VF,Option.map_some]
   refine(cY tA (hr.fresh g12) (UH.fresh g12) hb).mono ?_
   rintro _ H13 ⟨rfl,f13⟩
   have b13:=f13.own b12 (fun h=>h)
   have d13:=f13.own d12 (fun h=>h)
   refine vs ?_
   refine⟨⟨b13,d13⟩,?_⟩
   rw[decide_eq_decide.2 hLe]
   refine vs ?_
   exact⟨amt Value.bool (beq_self_eq_true _),g12.trans f13⟩
end Go.Proofs.YtjlnnljohemifaaGreat
