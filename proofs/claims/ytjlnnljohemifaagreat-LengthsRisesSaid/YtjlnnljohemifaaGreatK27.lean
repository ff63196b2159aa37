/-
  Texts put behind each other by a program: HufC, HufS, Alive26, LengthsRises.
-/
import Derived.Test.YtjlnnljohemifaaGreatK3
import Derived.Test.YtjlnnljohemifaaGreatK17
import Derived.Test.YtjlnnljohemifaaGreatK23
import Derived.Test.YtjlnnljohemifaaGreatK24
import Derived.Test.YtjlnnljohemifaaGreatK25
import Derived.Test.YtjlnnljohemifaaGreatK26
set_option linter.unusedVariables false
set_option linter.unusedSimpArgs false
namespace Go.Proofs.YtjlnnljohemifaaGreat
open Go Go.Vc
theorem NK(H:Hp)(x y:Nat)(hx:x<18446744073709551616)(hy:y<18446744073709551616):ah Tryz.prog BD [u64 (x:Int),u64 (y:Int)] H fun v H'=>ax (v= .tuple [u64 ((x*y / 18446744073709551616:Nat):Int),u64 ((x*y%18446744073709551616:Nat):Int)].toArray∧H'=H):=fun w hw=>by
 refine(Tryz.bits_Mul64 x y hx hy w).mono ?_
 rintro e w' ⟨rfl,rfl⟩
 exact⟨_,rfl,bZ.refl _,rfl,hw⟩
def CU(ws ls:List Int):Prop:=ws.length=ls.length∧ws.length≤4096∧∀i,i<ws.length→1≤ws.getD i 0∧0≤ls.getD i 0∧ls.getD i 0≤4096
instance(ws ls:List Int):Decidable (CU ws ls):=by unfold CU;exact inferInstance
def Jl(ws ls:List Int):Int:=gA ws.length fun i=>ws.getD i 0*ls.getD i 0
def CV(ws ls:List Int):Int×Nat:=if CU ws ls then ND (Jl ws ls)else(0,0)
theorem xW{l:List Int}{i:Nat}{x:Int}(h:l[i]? =some x):l.getD i 0=x:=by rw[List.getD_eq_getElem?_getD,h];rfl
set_option maxRecDepth 100000 in
set_option maxHeartbeats 4000000 in
theorem qZ{H:Hp}{a a':Option Addr}{c c':Nat}{ws ls:List Int}(h:ez H 1 (.slice a ws.length c) ws.length (ws.map i64))(h':ez H 1 (.slice a' ls.length c') ls.length (ls.map i64))(hb:∀x∈ws,x≤9223372036854775807):
  ah Tryz.prog FY [.slice a ws.length c,.slice a' ls.length c'] H fun v H'=>ax (v= .tuple [Sg (CV ws ls),.bool (decide (CU ws ls))].toArray∧ay H H'):=by
 refine bc F3 ⟨rfl,?_⟩
 refine v1 pW.eq_1 ?_
 have f0:ay H (H.new 36 [i64 0,u64 0]):=(ai.refl _ _).new _ _
 have o0:(H.new 36 [i64 0,u64 0]).own H.size=some [i64 0,u64 0]:=aG _ _ _
 have z0:(H.new 36 [i64 0,u64 0]).size=H.size+1:=au _ _ _
 generalize H.new 36 [i64 0,u64 0]=H0 at*
 have SF:¬CU ws ls→(Value.tuple [Sg (0,0),.bool false].toArray= .tuple [Sg (CV ws ls),.bool (decide (CU ws ls))].toArray):=by
  intro hn
  unfold CV
  rw[if_neg hn,decide_eq_false hn]
 have o0w:=aj (l:=[i64 0,u64 0]) o0
 have f0w:ay H (H0.wr H.size [i64 0,u64 0]):=f0.then ((ai.refl (fun z=>z=H.size) _).wr (fun _=>rfl) _) (fun z hz=>by omega)
 refine am.dec (fun h1=>?_) (fun h1=>?_)<;>refine v1 decide_true ?_
 rotate_left
 ·have hn:¬CU ws ls:=fun hc=>by have:=hc.1;omega
  refine v2 o0 (ae o0w) ?_
  exact⟨SF hn,f0w⟩
 have h1:ws.length=ls.length:=by omega
 refine am.dec (fun h2=>?_) (fun h2=>?_)<;>refine v1 decide_true ?_
 ·have hn:¬CU ws ls:=fun hc=>by have:=hc.2.1;omega
  refine v2 o0 (ae o0w) ?_
  exact⟨SF hn,f0w⟩
 have hn4:ws.length≤4096:=by omega
 have f1:ay H0 (H0.new 36 [i64 0,u64 0]):=(ai.refl _ _).new _ _
 have p1:(H0.new 36 [i64 0,u64 0]).own (H.size+1)=some [i64 0,u64 0]:=by rw[←z0];exact aG _ _ _
 have g1:=f0.trans f1
 have o1:=f1.own o0 (fun h=>h)
 rw[z0]
 generalize H0.new 36 [i64 0,u64 0]=H1 at*
 refine bD.intro (fun mm env H'=>∃ (j s:Nat),mm=ws.length - j∧j≤ws.length∧(s:Int)=gA j (fun i=>ws.getD i 0*ls.getD i 0)∧s≤j*37778931862957161709568∧(∀i,i<j→1≤ws.getD i 0∧0≤ls.getD i 0∧ls.getD i 0≤4096)∧ai (fun z=>z=H.size+1) H1 H'∧H'.own (H.size+1)=some [i64 ((s / 18446744073709551616:Nat):Int),u64 ((s%18446744073709551616:Nat):Int)]∧
  env=[(1,.slice a' ls.length c'),(4,ptr H.size),(6,ptr (H.size+1)),(24,.slice a ws.length c),(25,i64 ws.length),(26,i64 j)]) ws.length ⟨0,0,by omega,by omega,rfl,by omega,(fun i hi=>by omega),ai.refl _ _,p1,rfl⟩ ?_
 rintro mm env H2 ⟨j,s,rfl,hj,hs,hsb,uQ,e2,p2,rfl⟩
 have g2:ay H H2:=g1.then e2 (fun z hz=>by omega)
 have o2:=e2.own o1 (fun e=>by omega)
 have o2w:=aj (l:=[i64 0,u64 0]) o2
 have f2w:ay H (H2.wr H.size [i64 0,u64 0]):=g2.then ((ai.refl (fun z=>z=H.size) _).wr (fun _=>rfl) _) (fun z hz=>by omega)
 refine vs ?_
 refine am.dec (fun aR=>?_) (fun aR=>?_)<;>refine vs ?_
 ·have mA:j<ws.length:=by omega
  obtain⟨x,hx⟩:∃x,ws[j]? =some x:=⟨_,List.getElem?_eq_getElem mA⟩
  obtain⟨y,hy⟩:∃y,ls[j]? =some y:=⟨_,List.getElem?_eq_getElem (by omega)⟩
  have Ta:=hb x (List.mem_of_getElem? hx)
  have hxd:=xW hx
  have UZ:=xW hy
  obtain⟨_,b,o,lb,rfl,mw,bM⟩:=ez.num (h.fresh g2) hx
  obtain⟨_,b',o',TS,rfl,IE,GZ⟩:=ez.num (h'.fresh g2) hy
  refine⟨⟨by omega,by omega⟩,?_⟩
  refine v4 mw Int.toNat_natCast Nat.mul_one bM ?_
  refine am.dec (fun h3=>?_) (fun h3=>?_)<;>refine v1 decide_true ?_
  ·have hn:¬CU ws ls:=fun hc=>by have:=hc.2.2 j mA;omega
   refine v2 o2 (ae o2w) ?_
   exact⟨SF hn,f2w⟩
  refine⟨⟨by omega,by omega⟩,?_⟩
  refine v4 IE Int.toNat_natCast Nat.mul_one GZ ?_
  refine am.dec (fun h4=>?_) (fun h4=>?_)<;>refine v1 decide_true ?_
  ·have hn:¬CU ws ls:=fun hc=>by have:=hc.2.2 j mA;omega
   refine v2 o2 (ae o2w) ?_
   exact⟨SF hn,f2w⟩
  refine⟨⟨by omega,by omega⟩,?_⟩
  refine v4 IE Int.toNat_natCast Nat.mul_one GZ ?_
  refine am.dec (fun h5=>?_) (fun h5=>?_)<;>refine v1 decide_true ?_
  ·have hn:¬CU ws ls:=fun hc=>by have:=hc.2.2 j mA;omega
   refine v2 o2 (ae o2w) ?_
   exact⟨SF hn,f2w⟩
  refine⟨⟨by omega,by omega⟩,?_⟩
  refine v4 IE Int.toNat_natCast Nat.mul_one GZ ?_
  obtain⟨X,rfl⟩:∃X:Nat,x=(X:Int):=⟨x.toNat,by omega⟩
  obtain⟨Y,rfl⟩:∃Y:Nat,y=(Y:Int):=⟨y.toNat,by omega⟩
  rw[FM (n:=(X:Int)) (by omega) (by omega),FM (n:=(Y:Int)) (by omega) (by omega)]
  refine(NK H2 X Y (by omega) (by omega)).mono ?_
  rintro _ H2' ⟨rfl,e⟩
  obtain rfl:=e.symm
  have hP:X*Y≤9223372036854775807*4096:=Nat.mul_le_mul (by omega) (by omega)
  have WF:gA (j+1) (fun i=>ws.getD i 0*ls.getD i 0)=((s+X*Y:Nat):Int):=by
   rw[dS,←hs,hxd,UZ]
   push_cast
   rfl
  generalize X*Y=P at*
  have ZC:s≤4096*37778931862957161709568:=Nat.le_trans hsb (Nat.mul_le_mul_right _ (by omega))
  have afv:s+P≤(j+1)*37778931862957161709568:=by rw[Nat.add_mul];omega
  refine v1 (ae p2) ?_
  refine Ui.mk (fun w=>Qe (s%18446744073709551616) (P%18446744073709551616) 0 (by omega) (by omega) (by omega) w) ?_
  have hhi:((s / 18446744073709551616:Nat):Int)+(((P / 18446744073709551616:Nat):Int)+(((s%18446744073709551616+P%18446744073709551616+0) / 18446744073709551616:Nat):Int))=(((s+P) / 18446744073709551616:Nat):Int):=by omega
  have VU:(s%18446744073709551616+P%18446744073709551616+0)%18446744073709551616=(s+P)%18446744073709551616:=by omega
  refine v2 (ae p2) p2 ?_
  rw[FM (n:=((P / 18446744073709551616:Nat):Int)+(((s%18446744073709551616+P%18446744073709551616+0) / 18446744073709551616:Nat):Int)) (by omega) (by omega),wrap64 (n:=((P / 18446744073709551616:Nat):Int)+(((s%18446744073709551616+P%18446744073709551616+0) / 18446744073709551616:Nat):Int)) (by omega) (by omega),hhi,VU,wrap64 (n:=(((s+P) / 18446744073709551616:Nat):Int)) (by omega) (by omega),wrap64 (n:=(j:Int)+1) (by omega) (by omega)]
  have e3:ai (fun z=>z=H.size+1) H2 (H2.wr (H.size+1) [i64 (((s+P) / 18446744073709551616:Nat):Int),u64 (((s+P)%18446744073709551616:Nat):Int)]):=(ai.refl (fun z=>z=H.size+1) _).wr (fun _=>rfl) _
  refine⟨ws.length - (j+1),by omega,j+1,s+P,rfl,by omega,WF.symm,afv,fun i hi=>?_,e2.trans e3,aj p2,rfl⟩
  by_cases he:i=j
  ·rw[he,hxd,UZ];omega
  ·exact uQ i (by omega)
 ·have mA:j=ws.length:=by omega
  subst mA
  have hc:CU ws ls:=⟨h1,hn4,uQ⟩
  have o3w:=aj (l:=[i64 ((s / 18446744073709551616:Nat):Int),u64 ((s%18446744073709551616:Nat):Int)]) o2
  refine v3 (ae p2) o2 (ae o3w) ?_
  have hv:CV ws ls=(((s / 18446744073709551616:Nat):Int),s%18446744073709551616):=by
   unfold CV ND Jl
   rw[if_pos hc,←hs]
   refine Prod.ext ?_ ?_
   ·simp only;omega
   ·simp only;omega
  rw[hv,decide_eq_true hc]
  refine⟨rfl,g2.then ((ai.refl (fun z=>z=H.size) _).wr (fun _=>rfl) _) (fun z hz=>by omega)⟩
theorem Km{ws:List Int}(h:gw ws):∀x∈ij ws,1≤x∧x≤4096:=by
 have h1:=h.n1
 have h2:=h.n2
 intro x hx
 unfold ij at hx
 split at hx
 ·have:x=1:=by simpa using hx
  omega
 ·obtain⟨n,hn,rfl⟩:=List.mem_map.1 hx
  have:=On h1 n hn
  have:=KQ (by omega) n hn
  omega
theorem Ko{ws ls:List Int}(h:gw ws)(hl:ws.length=ls.length)(ha:∀x∈ls,1≤x∧x≤4096):CU ws ls:=by
 refine⟨hl,h.n2,fun i hi=>?_⟩
 have e1:ws[i]? =some ws[i]:=List.getElem?_eq_getElem hi
 have e2:ls[i]? =some (ls[i]'(by omega)):=List.getElem?_eq_getElem (by omega)
 rw[xW e1,xW e2]
 have h1:=h.pos _ (List.mem_of_getElem? e1)
 have h2:=ha _ (List.mem_of_getElem? e2)
 omega
theorem LV{ws:List Int}(h:gw ws):CU ws (ij ws):=Ko h (CJ ws).symm (Km h)
def uC(ws ls:List Int):Prop:=gw ws∧ws.length=ls.length∧(∀x∈ls,1≤x∧x≤4096)∧IU 4096 (NI ls)≤0∧Jl ws ls=Jl ws (ij ws)
instance(ws ls:List Int):Decidable (uC ws ls):=by unfold uC;exact inferInstance
theorem SG{ls:List Int}(ha:∀x∈ls,x≤4096):∀n∈NI ls,n≤4096:=by
 intro n hn
 unfold NI oL at hn
 obtain⟨x,hx,rfl⟩:=List.mem_map.1 hn
 have:=ha x hx
 omega
theorem aaQ(a b c d:Int):Ct [(0,none,Shape.int),(1,none,Shape.int)] [i64 a,u64 b] [i64 c,u64 d]=some (decide (a=c∧b=d)):=by
 simp only[tf,Ct,GY,List.getElem?_cons_zero,List.getElem?_cons_succ,bA,if_pos rfl]
 by_cases e:a=c
 ·by_cases e2:b=d<;>simp[e,e2]
 ·simp[e]
theorem IN(H:Hp)(x:Int):ah Tryz.prog qT [i64 x] H fun v H'=>ax (v= .bool (decide (x<1∨4096<x))∧H'=H):=by
 refine bc BU ⟨rfl,?_⟩
 refine v1 kY.eq_1 ?_
 refine am.dec (fun h=>?_) (fun h=>?_)<;>refine vs ?_
 ·rw[decide_eq_true (.inl h)];exact⟨rfl,rfl⟩
 ·refine⟨congrArg Value.bool (decide_eq_decide.2 (by omega)),rfl⟩
set_option maxRecDepth 100000 in
set_option maxHeartbeats 4000000 in
theorem Bb{H:Hp}(C7:EF 1 0){a a':Option Addr}{c c':Nat}{ws ls:List Int}(h:ez H 1 (.slice a ws.length c) ws.length (ws.map i64))(h':ez H 1 (.slice a' ls.length c') ls.length (ls.map i64))(hb:∀x∈ws,x≤9223372036854775807):
  ah Tryz.prog ES [.slice a ws.length c,.slice a' ls.length c'] H fun v H'=>ax (v= .bool (decide (uC ws ls))∧ay H H'):=by
 refine bc EX ⟨rfl,?_⟩
 refine v1 od.eq_1 ?_
 refine(qX h hb).mono ?_
 rintro _ H1' ⟨rfl,e⟩
 obtain rfl:=e.symm
 refine vs ?_
 by_cases hF:gw ws
 rotate_left
 ·rw[decide_eq_false hF]
  refine v1 decide_true ?_
  rw[decide_eq_false (fun hl:uC ws ls=>hF hl.1)]
  exact⟨rfl,ai.refl _ _⟩
 rw[decide_eq_true hF]
 refine v1 decide_true ?_
 refine am.dec (fun h1=>?_) (fun h1=>?_)<;>refine v1 decide_true ?_
 rotate_left
 ·rw[decide_eq_false (fun hl:uC ws ls=>by have:=hl.2.1;omega)]
  exact⟨rfl,ai.refl _ _⟩
 have h1:ws.length=ls.length:=by omega
 have By:=hF.n2
 refine(qD qT [] (fun x=>decide (x<1∨4096<x)) (fun H'=>H'=H) rfl (fun H' e=>e▸h') (by kernel_rfl) (fun H' x _ e=>(IN H' x).mono fun v Gk hp=>⟨hp.1,hp.2.trans e⟩) (by omega)).mono ?_
 rintro _ H1' ⟨rfl,e⟩
 obtain rfl:=e.symm
 refine vs ?_
 by_cases IH:∀x∈ls,1≤x∧x≤4096
 rotate_left
 ·have ha:(ls.any fun x=>decide (x<1∨4096<x))=true:=by
   apply Classical.byContradiction
   intro hc
   rw[Bool.not_eq_true,List.any_eq_false]at hc
   exact IH fun x hx=>by have:=hc x hx;simp at this;omega
  rw[ha]
  refine v1 decide_true ?_
  rw[decide_eq_false (fun hl:uC ws ls=>IH hl.2.2.1)]
  exact⟨rfl,ai.refl _ _⟩
 have ha:(ls.any fun x=>decide (x<1∨4096<x))=false:=by
  rw[List.any_eq_false]
  intro x hx
  have:=IH x hx
  simp
  omega
 rw[ha]
 refine v1 decide_true ?_
 obtain⟨kv,hkv⟩:∃kv,kv=IU 4096 (NI ls):=⟨_,rfl⟩
 have hK:=qE h' (by omega) (SG fun x hx=>(IH x hx).2) (by omega)
 rw[←hkv]at hK
 refine hK.mono ?_
 clear hK
 rintro _ H2 ⟨rfl,f2⟩
 refine vs ?_
 refine am.dec (fun h3=>?_) (fun h3=>?_)<;>refine v1 decide_true ?_
 ·rw[decide_eq_false (fun hl:uC ws ls=>by have h9:=hl.2.2.2.1;rw[←hkv]at h9;omega)]
  exact⟨rfl,f2⟩
 refine(dX 1 0 (fun _=>C7) (h.fresh f2) hb).mono ?_
 have hA:zq 1 0 ws=(0,ij ws):=by
  unfold zq
  rw[if_neg (by rw[No (by unfold lQ;omega)];omega),if_pos hF]
 rintro _ H3 ⟨sv,rfl,⟨a3,c3,rfl,QD⟩,f3⟩
 rw[hA]at QD ⊢
 have g3:=f2.trans f3
 refine vs ?_
 refine(qZ (h.fresh g3) (h'.fresh g3) hb).mono ?_
 rintro _ H4 ⟨rfl,f4⟩
 have g4:=g3.trans f4
 rw[decide_eq_true (Ko hF h1 IH)]
 generalize Yn:CV ws ls=A1
 simp(disch:=(first|omega| (simp only[Zs]<;>omega)|fail)) only[go_sem, ↓reduceIte,Zv,Sg]
 obtain⟨f5,b5,z5⟩:=OG H4 36 [i64 0,u64 0] [i64 A1.1,u64 A1.2]
 generalize hB:H4.size=bb at*
 generalize (H4.new 36 [i64 0,u64 0]).wr bb [i64 A1.1,u64 A1.2]=H5 at*
 have g5:=g4.trans f5
 refine(qZ (h.fresh g5) ((QD.fresh f4).fresh f5) hb).mono ?_
 rintro _ H6 ⟨rfl,f6⟩
 have g6:=g5.trans f6
 have b6:=f6.own b5 (fun h=>h)
 rw[decide_eq_true (LV hF)]
 generalize hA2:CV ws (ij ws)=A2
 simp(disch:=(first|omega| (simp only[Zs]<;>omega)|fail)) only[go_sem, ↓reduceIte,Zv,Sg]
 obtain⟨f7,b7,z7⟩:=OG H6 36 [i64 0,u64 0] [i64 A2.1,u64 A2.2]
 have b7':=f7.own b6 (fun h=>h)
 generalize hC:H6.size=cc at*
 generalize (H6.new 36 [i64 0,u64 0]).wr cc [i64 A2.1,u64 A2.2]=H7 at*
 refine v4 decide_true (ae b7) (ae b7') aaQ ?_
 refine⟨?_,g6.trans f7⟩
 refine congrArg Value.bool (decide_eq_decide.2 ?_)
 have e1:A1=ND (Jl ws ls):=by rw[←Yn];unfold CV;rw[if_pos (Ko hF h1 IH)]
 have e2:A2=ND (Jl ws (ij ws)):=by rw[←hA2];unfold CV;rw[if_pos (LV hF)]
 constructor
 ·rintro⟨x1,x2⟩
  have:A1=A2:=Prod.ext (by omega) (by omega)
  rw[e1,e2]at this
  exact⟨hF,h1,IH,by rw[←hkv];omega,Sh this⟩
 ·intro hl
  have:=hl.2.2.2.2
  rw[←this,←e1]at e2
  rw[e2]
  exact⟨rfl,rfl⟩
theorem Uj{ws:List Int}(h1:2≤ws.length):NI (ij ws)=yb ws:=by
 unfold ij
 rw[if_neg (by omega)]
 unfold NI
 rw[List.map_map]
 conv=>rhs;rw[←List.map_id (yb ws)]
 refine List.map_congr_left fun n hn=>?_
 have:=KQ h1 n hn
 show(oL (n:Int)).toNat=n
 unfold oL
 omega
theorem Uk{ws:List Int}(hF:gw ws){M:Nat}(hM:∀n∈NI (ij ws),n≤M):IU M (NI (ij ws))≤0∧(2≤ws.length→IU M (NI (ij ws))=0):=by
 have h1:=hF.n1
 by_cases h2:2≤ws.length
 ·have:IU M (NI (ij ws))=0:=by
   rw[Uj h2]at hM ⊢
   rw[Oi (M':=ws.length) hM (fun n hn=>by have:=On h1 n hn;omega)]
   unfold IU
   rw[O6 h1,if_neg (by omega),if_pos rfl]
  exact⟨by omega,fun _=>this⟩
 ·refine⟨?_,fun h=>absurd h h2⟩
  have e:NI (ij ws)=[1]:=by unfold ij;rw[if_pos (by omega)];rfl
  rw[e]at hM ⊢
  rw[Oi (M':=1) hM (by simp)]
  decide
theorem Qf{ws:List Int}(hF:gw ws):uC ws (ij ws):=⟨hF,(CJ ws).symm,Km hF,(Uk hF (SG fun x hx=>(Km hF x hx).2)).1,rfl⟩
theorem OW:gw [1,1,2]:=by decide
theorem SH:ij [1,1,2]=[2,2,1]:=by decide
theorem Ul:zq 5 0 [1,1,2]=(0,[2,2,1]):=by
 unfold zq
 rw[if_neg (by rw[No (by unfold lQ;omega)];omega),if_pos OW,SH]
theorem SI:uC [1,1,2] [2,2,1]:=by
 have:=Qf OW
 rwa[SH]at this
theorem ez.W7(H:Hp)(T:TypeId)(x y z:Int){b:Nat}(hb:b=H.size):ay H (H.new T [i64 x,i64 y,i64 z])∧ez (H.new T [i64 x,i64 y,i64 z]) 1 (.slice (some ⟨b,0,none⟩) 3 3) 3 ([x,y,z].map i64):=
 ⟨(ai.refl _ _).new _ _,(Sl.dQ (n:=3) (xs:=[i64 x,i64 y,i64 z]) rfl hb).rd⟩
set_option maxHeartbeats 2000000 in
theorem Eo(h1:EF 1 0)(h5:EF 5 0)(H:Hp):ah Tryz.prog we [] H fun v H'=>ax (v= .bool true∧ay H H'):=by
 refine bc wC ⟨rfl,?_⟩
 refine v1 gG.eq_1 ?_
 obtain⟨f1,r1⟩:=ez.W7 H 2 1 1 2 rfl
 generalize H.new 2 [i64 1,i64 1,i64 2]=H1 at*
 refine(dX 5 0 (fun _=>h5) (ws:=[1,1,2]) r1 (by simp)).mono ?_
 rw[Ul]
 rintro _ H2 ⟨sv,rfl,⟨a,c,rfl,r2⟩,f2⟩
 have g2:=f1.trans f2
 refine v1 decide_true ?_
 obtain⟨f3,r3⟩:=ez.W7 H2 3 2 2 1 rfl
 generalize H2.new 3 [i64 2,i64 2,i64 1]=H3 at*
 have g3:=g2.trans f3
 have r2:=r2.fresh f3
 refine(vg (xs:=[2,2,1]) (ys:=[2,2,1]) r2 r3 (by simp)).mono ?_
 rintro _ H3' ⟨rfl,e⟩
 obtain rfl:=e
 refine v1 decide_true ?_
 refine(qE (l:=[2,2,1]) (M:=2) r2 (by simp) (by decide) (by omega)).mono ?_
 rintro _ H4 ⟨rfl,f4⟩
 rw[show IU 2 (NI [2,2,1])=0 by decide]
 have g4:=g3.trans f4
 refine v1 decide_true ?_
 obtain⟨f5,r5⟩:=ez.W7 H4 2 1 1 2 rfl
 generalize H4.new 2 [i64 1,i64 1,i64 2]=H5 at*
 refine(Bb h1 (ws:=[1,1,2]) (ls:=[2,2,1]) r5 ((r2.fresh f4).fresh f5) (by simp)).mono ?_
 rintro _ H6 ⟨rfl,f6⟩
 rw[decide_eq_true SI]
 refine vs ?_
 exact⟨rfl,(g4.trans f5).trans f6⟩
theorem afy{x:Int}(h:(Lit.int .i64 x).wf=true): -9223372036854775808≤x∧x≤9223372036854775807:=by
 have e1:IntKind.i64.min= -9223372036854775808:=rfl
 have e2:IntKind.i64.max=9223372036854775807:=rfl
 simp only[Lit.wf,e1,e2,Bool.and_eq_true,decide_eq_true_eq]at h
 omega
theorem LW{H:Hp}{v:Value}(h:Gf H (false,[.sl [.i .i64]]) v):∃ (ks:List Int) (a:Option Addr) (c:Nat),v= .slice a ks.length c∧ez H 1 (.slice a ks.length c) ks.length (ks.map i64)∧ks.length≤maxLen∧∀x∈ks, -9223372036854775808≤x∧x≤9223372036854775807:=by
 obtain⟨rows,hr,hf,hm,a,c,rfl,hc⟩:=Rv h
 obtain⟨ks,h1,h2,h3⟩:=Pt hf
 rw[h1]at hr
 rw[←h2]at hr hm ⊢
 exact⟨ks,a,c,rfl,hr,hm,fun x hx=>afy (h3 x hx)⟩
theorem Qg{H:Hp}{v:Value}(h:Gf H (true,[.k (.i .i64),.k (.i .i64),.k (.i .i64),.k (.i .i64)]) v):∃x y z u:Int,v= .agg #[i64 x,i64 y,i64 z,i64 u]:=by
 obtain⟨cs,rfl,_,_,rfl,⟨x,rfl,hx⟩,_,_,rfl,⟨y,rfl,hy⟩,_,_,rfl,⟨z,rfl,hz⟩,_,_,rfl,⟨u,rfl,hu⟩,rfl⟩:=h
 exact⟨x,y,z,u,rfl⟩
theorem Qh{ws:List Int}(hF:gw ws){i k:Nat}(hi:i<ws.length)(hk:k<ws.length){x y a b:Int}(hx:ws[i]? =some x)(hy:ws[k]? =some y)(ha:(ij ws)[i]? =some a)(hb:(ij ws)[k]? =some b)(aR:y<x):a≤b:=by
 have h1:=hF.n1
 by_cases h2:ws.length=1
 ·have:i=k:=by omega
  subst this
  rw[hx]at hy
  injection hy with hy
  omega
 ·unfold ij at ha hb
  rw[if_neg h2,List.getElem?_map,Jx hi]at ha
  rw[if_neg h2,List.getElem?_map,Jx hk]at hb
  have:=O7 h1 (fun w hw=>by have:=hF.pos w hw;omega) hi hk (by rw[xW hx,xW hy];exact aR)
  simp only[Option.map_some,Option.some.injEq]at ha hb
  omega
set_option maxRecDepth 100000 in
set_option maxHeartbeats 1000000 in
theorem tw{Hh:Hp}{v0 v1:Value}(h0:Gf Hh (true,[.k (.i .i64),.k (.i .i64),.k (.i .i64),.k (.i .i64)]) v0)(h1:Gf Hh (false,[.sl [.i .i64]]) v1):ah Tryz.prog vZ [v0,v1] Hh fun v H'=>ax (v= .bool true∧ay Hh H'):=by
 obtain⟨k1,d1,k2,d2,rfl⟩:=Qg h0
 obtain⟨ws,a,c,rfl,hr,hm,hw⟩:=LW h1
 clear h0 h1
 have hb:∀x∈ws,x≤9223372036854775807:=fun x hx=>(hw x hx).2
 refine bc wB ⟨rfl,?_⟩
 refine v1 gF.eq_1 ?_
 have f0:ay Hh (Hh.new 44 [i64 k1,i64 d1,i64 k2,i64 d2]):=(ai.refl _ _).new _ _
 have o0:(Hh.new 44 [i64 k1,i64 d1,i64 k2,i64 d2]).own Hh.size=some [i64 k1,i64 d1,i64 k2,i64 d2]:=aG _ _ _
 generalize Hh.new 44 [i64 k1,i64 d1,i64 k2,i64 d2]=H0 at*
 refine(Eo Sa PQ H0).mono ?_
 rintro _ H1 ⟨rfl,f1⟩
 have g1:=f0.trans f1
 have o1:=f1.own o0 (fun h=>h)
 refine v1 decide_true ?_
 refine am.dec (fun c1=>?_) (fun c1=>?_)<;>refine v2 decide_true (ae o1) ?_
 ·exact⟨rfl,g1⟩
 refine⟨by decide,?_⟩
 refine v1 (ae o1) ?_
 refine⟨by decide,?_⟩
 refine vs ?_
 refine(xp k1 d1 H1).mono ?_
 rintro _ H2 ⟨rfl,f2⟩
 have g2:=g1.trans f2
 have o2:=f2.own o1 (fun h=>h)
 refine vs ?_
 refine am.dec (fun c2=>?_) (fun c2=>?_)<;>refine v2 decide_true (ae o2) ?_
 rotate_left
 ·exact⟨rfl,g2⟩
 refine⟨by decide,?_⟩
 refine v1 (ae o2) ?_
 refine⟨by decide,?_⟩
 refine vs ?_
 refine(xp k2 d2 H2).mono ?_
 rintro _ H3 ⟨rfl,f3⟩
 have g3:=g2.trans f3
 have o3:=f3.own o2 (fun h=>h)
 refine vs ?_
 refine am.dec (fun c3=>?_) (fun c3=>?_)<;>refine v1 decide_true ?_
 rotate_left
 ·exact⟨rfl,g3⟩
 have hK1:=GC.1 c2
 have X6:=GC.1 c3
 refine(Ee (hr.fresh g3) hb (by omega)).mono ?_
 rintro _ H3' ⟨rfl,e⟩
 obtain rfl:=e.symm
 refine vs ?_
 by_cases hF:gw ws
 rotate_left
 ·rw[decide_eq_false hF]
  refine v1 decide_true ?_
  exact⟨rfl,g3⟩
 rw[decide_eq_true hF]
 refine v1 decide_true ?_
 refine⟨by decide,?_⟩
 refine v1 (ae o3) ?_
 refine⟨by decide,?_⟩
 refine vs ?_
 have Yn:zq k1 d1 ws=(0,ij ws):=by unfold zq;rw[if_neg (by omega),if_pos hF]
 have hA2:zq k2 d2 ws=(0,ij ws):=by unfold zq;rw[if_neg (by omega),if_pos hF]
 have bm:=CJ ws
 refine(dX k1 d1 (fun h=>LU h) (hr.fresh g3) hb).mono ?_
 rw[Yn]
 rintro _ H4 ⟨sv,rfl,⟨a4,c4,rfl,r4⟩,f4⟩
 have g4:=g3.trans f4
 have o4:=f4.own o3 (fun h=>h)
 refine vs ?_
 refine⟨by decide,?_⟩
 refine v1 (ae o4) ?_
 refine⟨by decide,?_⟩
 refine vs ?_
 refine(dX k2 d2 (fun h=>LU h) (hr.fresh g4) hb).mono ?_
 rw[hA2]
 rintro _ H5 ⟨sv,rfl,⟨a5,c5,rfl,r5⟩,f5⟩
 have g5:=g4.trans f5
 have r4:=r4.fresh f5
 refine v1 decide_true ?_
 refine(vg (xs:=ij ws) (ys:=ij ws) r4 r5 (by omega)).mono ?_
 rintro _ H5' ⟨rfl,e⟩
 obtain rfl:=e
 refine v1 decide_true ?_
 refine am.cj (by rw[bm];simp) ?_
 refine vs ?_
 have rw5:=hr.fresh g5
 have hn4:=hF.n2
 generalize hLL:ij ws=ls at*
 refine bD.intro (fun mm env H'=>∃i:Nat,mm=ws.length - i∧i≤ws.length∧H'=H5∧env=[(1,.slice a ws.length c),(5,.slice a4 ls.length c4),(67,i64 ls.length),(68,i64 i)]) ws.length ⟨0,by omega,by omega,rfl,rfl⟩ ?_
 rintro mm env H6 ⟨i,rfl,hi,rfl,rfl⟩
 refine vs ?_
 refine am.dec (fun aR=>?_) (fun aR=>?_)<;>refine vs ?_
 rotate_left
 ·exact⟨rfl,g5⟩
 have mX:i<ws.length:=by omega
 refine bD.intro (fun mm env H'=>∃k:Nat,mm=ws.length - k∧k≤ws.length∧H'=H6∧env=[(1,.slice a ws.length c),(5,.slice a4 ls.length c4),(9,i64 i),(67,i64 ls.length),(68,i64 i),(72,i64 ls.length),(73,i64 k)]) ws.length ⟨0,by omega,by omega,rfl,rfl⟩ ?_
 rintro mm env H7 ⟨k,rfl,hk,rfl,rfl⟩
 refine vs ?_
 refine am.dec (fun D9=>?_) (fun D9=>?_)<;>refine vs ?_
 rotate_left
 ·rw[wrap64 (n:=(i:Int)+1) (by omega) (by omega)]
  exact⟨ws.length - (i+1),by omega,i+1,rfl,by omega,trivial,rfl⟩
 have Ju:k<ws.length:=by omega
 obtain⟨x,hx⟩:∃x,ws[i]? =some x:=⟨_,List.getElem?_eq_getElem mX⟩
 obtain⟨y,hy⟩:∃y,ws[k]? =some y:=⟨_,List.getElem?_eq_getElem Ju⟩
 obtain⟨p,hp⟩:∃p,ls[i]? =some p:=⟨_,List.getElem?_eq_getElem (by omega)⟩
 obtain⟨q,hq⟩:∃q,ls[k]? =some q:=⟨_,List.getElem?_eq_getElem (by omega)⟩
 have aaR:y<x→p≤q:=fun aR=>Qh hF mX Ju hx hy (by rw[hLL];exact hp) (by rw[hLL];exact hq) aR
 obtain⟨_,b,o,lb,rfl,mw,Bn⟩:=ez.num rw5 hx
 obtain⟨_,b',o',TS,Vi,IE,xM⟩:=ez.num rw5 hy
 injection Vi with Vi
 injection Vi with Lt DN
 subst Lt DN
 rw[mw]at IE
 injection IE with IE
 subst IE
 obtain⟨_,b4,o4',lb4,rfl,W8,MF⟩:=ez.num r4 hp
 obtain⟨_,b5,o5,lb5,Vi,Um,hc4⟩:=ez.num r4 hq
 injection Vi with Vi
 injection Vi with Lt DN
 subst Lt DN
 rw[W8]at Um
 injection Um with Um
 subst Um
 refine⟨⟨by omega,by omega⟩,?_⟩
 refine v4 mw Int.toNat_natCast Nat.mul_one Bn ?_
 refine⟨⟨by omega,by omega⟩,?_⟩
 refine v4 mw Int.toNat_natCast Nat.mul_one xM ?_
 refine am.dec (fun hgt=>?_) (fun hgt=>?_)<;>refine v1 decide_true ?_
 ·refine⟨⟨by omega,by omega⟩,?_⟩
  refine v4 W8 Int.toNat_natCast Nat.mul_one MF ?_
  refine⟨⟨by omega,by omega⟩,?_⟩
  refine v4 W8 Int.toNat_natCast Nat.mul_one hc4 ?_
  refine am.dec (fun afz=>?_) (fun afz=>?_)<;>refine v1 decide_true ?_
  ·exfalso
   have:=aaR (by omega)
   omega
  ·rw[wrap64 (n:=(k:Int)+1) (by omega) (by omega)]
   exact⟨ws.length - (k+1),by omega,k+1,rfl,by omega,trivial,rfl⟩
 ·rw[wrap64 (n:=(k:Int)+1) (by omega) (by omega)]
  exact⟨ws.length - (k+1),by omega,k+1,rfl,by omega,trivial,rfl⟩
end Go.Proofs.YtjlnnljohemifaaGreat
