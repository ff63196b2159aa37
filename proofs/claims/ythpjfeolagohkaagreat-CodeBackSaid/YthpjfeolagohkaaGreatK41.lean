/- Texts put behind each other. -/
import Derived.Test.YthpjfeolagohkaaGreatK98
import Derived.Test.YthpjfeolagohkaaGreatK3
import Derived.Test.YthpjfeolagohkaaGreatK20
import Derived.Test.YthpjfeolagohkaaGreatK23
import Derived.Test.YthpjfeolagohkaaGreatK29
import Derived.Test.YthpjfeolagohkaaGreatK40
set_option maxRecDepth 100000
set_option maxHeartbeats 8000000
set_option linter.unusedVariables false
set_option linter.unusedSimpArgs false
namespace Go.Proofs.YthpjfeolagohkaaGreat
open Go Go.Vc
def Il(H:Hp)(v:Value)(xs:List Int)(nb:Option Nat):Prop:=
 ∃a c,v= .slice a xs.length c∧xs.length≤c∧(c=0∨∃b o l,a=some ⟨b,o,none⟩∧nb=some b∧H.own b=some l∧o+c≤l.length∧(l.drop o).take xs.length=xs.map i64)
section
variable {H H' : Hp} {ro ro' : Nat → Rl} {B : Nat} {v : Value} {xs : List Int} {T : Nat → Prop} {nb : Option Nat}
theorem Il.nil(H:Hp)(nb:Option Nat):Il H (.slice none 0 0) [] nb:=⟨none,0,rfl,aoB _,.inl rfl⟩
theorem Il.rd(h:Il H v xs nb):cK H 1 v xs.length (xs.map i64):=by
 obtain⟨a,c,rfl,hc,h⟩:=h
 refine⟨by simp,?_⟩
 rcases h with rfl| ⟨b,o,l,rfl,_,h1,h2,h3⟩
 ·exact .inl ⟨by omega,a,0,by rw[show xs.length=0 by omega]⟩
 ·exact .inr ⟨b,o,c,l,rfl,ae h1,by omega,by rw[aos];exact h3⟩
theorem Il.ext(h:Il H v xs nb)(e:ag T H H')(hT:∀z,nb=some z→¬T z):Il H' v xs nb:=by
 obtain⟨a,c,hv,hc,h⟩:=h
 exact⟨a,c,hv,hc,h.imp_right fun⟨b,o,l,h1,h2,h3,h4⟩=>⟨b,o,l,h1,h2,e.own h3 (hT b h2),h4⟩⟩
theorem Il.cap(h:Il H v xs nb):∃a c,v= .slice a xs.length c∧xs.length≤c:=by
 obtain⟨a,c,hv,hc,_⟩:=h
 exact⟨a,c,hv,hc⟩
theorem Il.lit{T:TypeId}(x:Int):Il (H.new T [i64 x]) (.slice (some ⟨H.size,0,none⟩) 1 1) [x] (some H.size):=
 ⟨_,1,rfl,aoB _,.inr ⟨H.size,0,[i64 x],rfl,rfl,aD _ _ _,by simp,rfl⟩⟩
theorem Il.tail{x:Int}{a:Option Addr}{c:Nat}(h:Il H (.slice a (x::xs).length c) (x::xs) nb)(QB:Decidable ((c:Int)=1)):
  Il H (.slice (@ite (Option Addr) ((c:Int)=1) QB a (Option.map (fun(y:Addr)=>y.add (Int.toNat 1*1)) a)) (((xs.length+1:Nat):Int).toNat - Int.toNat 1) ((c:Int).toNat - Int.toNat 1)) xs nb:=by
 rw[show((xs.length+1:Nat):Int).toNat - Int.toNat 1=xs.length by simp,show(c:Int).toNat - Int.toNat 1=c - 1 by simp]
 obtain⟨a',c',hv,hc,h⟩:=h
 injection hv with e1 e2 e3
 subst e1 e3
 rw[aoI]at hc
 refine⟨_,c - 1,rfl,by omega,?_⟩
 by_cases h1:(c:Int)=1
 ·exact .inl (by omega)
 ·rw[if_neg h1]
  rcases h with h| ⟨b,o,l,rfl,h2,h3,h4,h5⟩
  ·omega
  ·refine .inr ⟨b,o+1,l,rfl,h2,h3,by omega,?_⟩
   rw[aoI,apg]at h5
   have h6:(l.drop (o+1))=(l.drop o).drop 1:=by rw[aqs]
   rw[h6,List.take_drop,Nat.add_comm,h5]
   rfl
theorem Il.push{K:Value→Hp→Prop}{T:TypeId}(h:Il H v xs nb)(x:Int)(hl:xs.length≤1000000)
  (hk:∀w' H' I3,(I3=nb∨∃z,I3=some z∧H.size≤z∧z<H'.size)→Il H' w' (xs++[x]) I3→ag (fun z=>nb=some z) H H'→K w' H'):
  eM T 1 8 [i64 0] v (.slice (some ⟨H.size,0,none⟩) 1 1) (H.new T [i64 x]) K:=by
 have fl:am H (H.new T [i64 x]):=(ag.refl _ _).new _ _
 have h1:=h.rd.fresh fl
 obtain⟨a,c,rfl,hc,h⟩:=h
 have hx:cK (H.new T [i64 x]) 1 (.slice (some ⟨H.size,0,none⟩) 1 1) 1 [i64 x]:=(Sl.cB (size:=1) (n:=1) (xs:=[i64 x]) rfl rfl).rd
 refine cK.rowOf hx (F:=fun m new=>(xs.length+m≤c→m=0→K (.slice a xs.length c) (H.new T [i64 x]))∧
  (xs.length+m≤c→m≠0→rU a fun b o=>aA (DW ((H.new T [i64 x]).own b) ((H.new T [i64 x]).nX b)) fun l=>dW (o+(xs.length+m)*1≤l.length∧fE new) (K (.slice a (xs.length+m) c) ((H.new T [i64 x]).wr b (aY l (o+xs.length*1) new))))∧
  (c<xs.length+m→Builtin.nextslicecap (xs.length+m) c*8≤2^48∧
   rowOf (H.new T [i64 x]) 1 (.slice a xs.length c) fun _ PD=>∀c',xs.length+m≤c'→K (.slice (some ⟨(H.new T [i64 x]).size,0,none⟩) (xs.length+m) c') ((H.new T [i64 x]).new T (PD++new++ce [i64 0] (c' - (xs.length+m)))))) ?_
 refine⟨fun _ h=>absurd h (by omega),fun rS _=>?_,fun aK=>⟨?_,?_⟩⟩
 ·rcases h with rfl| ⟨b,o,l,rfl,h2,h3,h4,h5⟩
  ·omega
  ·have Wy:=fl.own h3 (fun h=>h)
   show aA (DW ((H.new T [i64 x]).own b) ((H.new T [i64 x]).nX b)) _
   rw[Wy]
   refine⟨⟨by omega,fun v hv=>by rw[aoH.1 hv];rfl⟩,?_⟩
   have jx:(xs++[x]).length=xs.length+1:=by simp
   have e2:ag (fun z=>z=b) (H.new T [i64 x]) ((H.new T [i64 x]).wr b (aY l (o+xs.length*1) [i64 x])):=(ag.refl (fun z=>z=b) _).wr (fun _=>rfl) _
   refine hk _ _ nb (.inl rfl) ⟨some ⟨b,o,none⟩,c,by rw[jx],by rw[jx];exact rS,.inr ⟨b,o,aY l (o+xs.length*1) [i64 x],rfl,h2,ah Wy,by rw[fe];exact h4,?_⟩⟩ ((fl.mono fun _ _ h=>h.elim).trans (e2.mono fun z _ e=>by rw[e];exact h2))
   rw[aos]
   apply ao7
   intro k
   rw[ao5,jx]
   by_cases hk:k<xs.length+1
   ·rw[aoT hk,aoX,getElem?_splice [i64 x] l _ _ (by simp;omega)]
    by_cases MJ:k<xs.length
    ·rw[if_neg (by omega),aoF (by simpa using MJ),←h5,aoT MJ,aoX]
    ·have:k=xs.length:=by omega
     rw[if_pos (by simp;omega),aoP (by simp;omega),this]
     simp
   ·rw[aoC (by simp;omega),aoC (by simp;omega)]
 ·have h2:Builtin.nextslicecap (xs.length+1) c≤2*(xs.length+1):=nextslicecap_le aK
  have h3:=apI 8 h2
  omega
 ·refine cK.rowOf (n:=xs.length) (xs:=xs.map i64) h1 ?_
  intro c' GW
  have HG:(H.new T [i64 x]).size=H.size+1:=aq _ _ _
  refine hk _ _ (some (H.new T [i64 x]).size) (.inr ⟨_,rfl,by omega,by simp only[aq];omega⟩) ⟨_,c',by simp,by simpa using GW,.inr ⟨(H.new T [i64 x]).size,0,_,rfl,rfl,aD _ _ _,?_,?_⟩⟩ ((fl.mono fun _ _ h=>h.elim).trans ((ag.refl _ _).new _ _))
  ·simp only[aoy,aoA,tP,aoV,aos]
   omega
  ·rw[apO,ao5]
   exact aqk (by simp)
theorem RK.low{s s':Nat}(r:RK s' ro ro')(hs:s≤s')(hz:∀z,s≤z→ro z= .no):RK s ro ro':=(RK.refl hz).trans r hs
theorem RK.none{s:Nat}(r:RK s ro ro'){z:Nat}(hz:z<s)(h:ro z= .no):ro' z= .no:=by
 rw[r.o z hz (fun x e=>by rw[h]at e;cases e),h]
end
section
variable {H H' : Hp} {ro ro' : Nat → Rl} {fb tb nn c : Nat} {l : List Value} {V : Int → Value} {ch : Int → List Int} {par : Int → Int} {kb : Int → Option Nat} {C : Nat → Prop} {w : Nw} {lt : Int → Int → Bool} {rows : Int → List Int} {W : List Int}
theorem it.Tb{hm:Int→Int}(f:it (aE w) lt ch par rows W){x:Int}(hx:x∈W):0≤x∧x<w.cs.length:=by
 obtain⟨a,b,_⟩:=aC (f.wm x hx).2
 exact⟨a,b⟩
def KC(ro:Nat→Rl)(z:Nat):Prop:=KB ro z∨ro z= .cell
theorem EN(m:ForM H ro fb tb w.cs.length l V ch par kb)(hz:∀z,H.size≤z→ro z= .no)(hn:∃rest,H.own nn=some (ptr c::rest))(cq:CQ H c C w)(hC:∀z,C z→ro z= .cell)(aK:∀a b,aN w a b=true→lt a b=true)
  {x y:Int}(f:it (aE w) lt ch par rows (x::y::W))(hh:aE w x=aE w y)(hd:(ch x).length=(ch y).length):
  af Tryz.prog vQ [ptr fb,.iface 154 (ptr nn),i64 x,i64 y] H fun v H'=>ar (∃p q ro' l' V' qa,v=i64 p∧((p=x∧q=y)∨(p=y∧q=x))∧ForM H' ro' fb tb w.cs.length l' V' (ax ch p (ch p++[q])) (aJ par q p) qa∧
   it (aE w) lt (ax ch p (ch p++[q])) (aJ par q p) rows (p::W)∧CQ H' c C w∧RK H.size ro ro'∧(∀z,H'.size≤z→ro' z= .no)∧ag (KC ro) H H'):=by
 have uN:=f.Tb (hm:=aE w) (x:=x) (by simp)
 have hyr:=f.Tb (hm:=aE w) (x:=y) (by simp)
 obtain⟨x1,x2⟩:=f.wm x (by simp)
 obtain⟨y1,y2⟩:=f.wm y (by simp)
 have Rm:x≠y:=fun e=>by have:=f.wn;rw[e]at this;simp at this
 have wY:=cq.Er
 have Wu:(ch x).length≤w.cs.length:=bU (f.pr.nd x) fun c hc=>m.G2 x c hc
 obtain⟨rest,ho⟩:=hn
 refine aZ wI ?_
 refine vs ?_
 refine⟨_,_,cM,ptr c,rfl,fG (off:=0) (by kernel_rfl) (ae ho) rfl,(cE cq y x).mono ?_⟩
 rintro _ H1 ⟨rfl,c1,e1⟩
 have m1:=m.ext e1 (fun z dP h=>by
  have:=hC z h
  rcases dP with h2|h2| ⟨_,h2⟩<;>(rw[this]at h2;cases h2))
 have z1:=e1.size
 have El:∀z,H1.size≤z→ro z= .no:=fun z h=>hz z (by omega)
 rw[gD (w:=w) (a:=y) (b:=x) y2 x2]
 cases nM:aN w y x
 ·refine vs ?_
  have hl:=aK _ _ (((ap w).OQ x y Rm).resolve_right (by rw[nM];simp))
  refine(sk m1 El uN hyr x1 y1 Rm hd (by omega)).mono ?_
  rintro _ H2 ⟨rfl,nP,l2,V2,DL,m2,r2,dP,e2⟩
  refine vs ?_
  refine⟨x,y,nP,l2,V2,DL,rfl,.inl ⟨rfl,rfl⟩,m2,f.link hh hd hl,c1.ext e2 (fun z h hk=>?_),r2.low z1 hz,dP,(e1.mono fun z _ h=>.inr (hC z h)).trans (e2.mono fun z _ h=>.inl h)⟩
  have:=hC z h
  rcases hk with h2| ⟨_,h2⟩<;>(rw[this]at h2;cases h2)
 ·refine vs ?_
  have hl:=aK _ _ nM
  refine(sk m1 El hyr uN y1 x1 Rm.symm hd.symm (by omega)).mono ?_
  rintro _ H2 ⟨rfl,nP,l2,V2,DL,m2,r2,dP,e2⟩
  refine vs ?_
  refine⟨y,x,nP,l2,V2,DL,rfl,.inr ⟨rfl,rfl⟩,m2,(f.perm (List.Perm.swap ..)).link hh.symm hd.symm hl,c1.ext e2 (fun z h hk=>?_),r2.low z1 hz,dP,(e1.mono fun z _ h=>.inr (hC z h)).trans (e2.mono fun z _ h=>.inl h)⟩
  have:=hC z h
  rcases hk with h2| ⟨_,h2⟩<;>(rw[this]at h2;cases h2)
end
end Go.Proofs.YthpjfeolagohkaaGreat

namespace Go.Proofs.YthpjfeolagohkaaGreat
open Go Go.Vc
def E7(H:Hp)(ro:Nat→Rl)(B:Nat)(v:Value)(xs:List Int):Prop:=
 ∃a c,v= .slice a xs.length c∧xs.length≤c∧(xs=[]∨∃b o l,a=some ⟨b,o,none⟩∧b<B∧¬KC ro b∧H.rd b=some l∧o+xs.length≤l.length∧(l.drop o).take xs.length=xs.map i64)
section
variable {H H' H0 : Hp} {ro ro' YJ : Nat → Rl} {B : Nat} {v : Value} {xs : List Int} {T : Nat → Prop}
theorem E7.rd(h:E7 H ro B v xs):cK H 1 v xs.length (xs.map i64):=by
 obtain⟨a,c,rfl,hc,h⟩:=h
 refine⟨by simp,?_⟩
 rcases h with rfl| ⟨b,o,l,rfl,_,_,h1,h2,h3⟩
 ·exact .inl ⟨rfl,a,c,rfl⟩
 ·exact .inr ⟨b,o,c,l,rfl,h1,by omega,by rw[aos];exact h3⟩
theorem E7.ext(h:E7 H ro B v xs)(e:ag T H H')(hT:∀z,z<B→¬KC ro z→¬T z)(hr:∀z,z<H.size→KC ro' z→KC ro z):E7 H' ro' B v xs:=by
 obtain⟨a,c,hv,hc,h⟩:=h
 exact⟨a,c,hv,hc,h.imp_right fun⟨b,o,l,h1,h2,h3,h4,h5⟩=>⟨b,o,l,h1,h2,fun h=>h3 (hr b (zX h4) h),e.rd h4 (hT b h2 h3),h5⟩⟩
theorem E7.tail{x:Int}{a:Option Addr}{c:Nat}(h:E7 H ro B (.slice a (x::xs).length c) (x::xs))(QB:Decidable ((c:Int)=1)):
  E7 H ro B (.slice (@ite (Option Addr) ((c:Int)=1) QB a (Option.map (fun(y:Addr)=>y.add (Int.toNat 1*1)) a)) (((xs.length+1:Nat):Int).toNat - Int.toNat 1) ((c:Int).toNat - Int.toNat 1)) xs:=by
 rw[show((xs.length+1:Nat):Int).toNat - Int.toNat 1=xs.length by simp,show(c:Int).toNat - Int.toNat 1=c - 1 by simp]
 obtain⟨a',c',hv,hc,h⟩:=h
 injection hv with e1 e2 e3
 subst e1 e3
 rw[aoI]at hc
 refine⟨_,c - 1,rfl,by omega,?_⟩
 by_cases h1:(c:Int)=1
 ·exact .inl (ao4.1 (by omega))
 ·rw[if_neg h1]
  rcases h with h| ⟨b,o,l,rfl,h2,h3,h4,h5,h6⟩
  ·cases h
  ·rw[aoI]at h5 h6
   refine .inr ⟨b,o+1,l,rfl,h2,h3,h4,by omega,?_⟩
   rw[apg]at h6
   have h7:(l.drop (o+1))=(l.drop o).drop 1:=by rw[aqs]
   rw[h7,List.take_drop,Nat.add_comm,h6]
   rfl
theorem E7.head{x:Int}(h:E7 H ro B v (x::xs)):∃b o l c,v= .slice (some ⟨b,o,none⟩) (x::xs).length c∧H.rd b=some l∧b<H.size∧l[o]? =some (i64 x)∧(x::xs).length≤c:=by
 obtain⟨a,c,hv,hc,h⟩:=h
 rcases h with h| ⟨b,o,l,rfl,h2,h3,h4,h5,h6⟩
 ·cases h
 ·refine⟨b,o,l,c,hv,h4,zX h4,?_,hc⟩
  have h7:((x::xs).map i64)[0]? =some (i64 x):=rfl
  rw[←h6,aoU,if_pos (by simp),aoX]at h7
  exact h7
theorem E7.cap(h:E7 H ro B v xs):∃a c,v= .slice a xs.length c∧xs.length≤c:=by
 obtain⟨a,c,hv,hc,_⟩:=h
 exact⟨a,c,hv,hc⟩
theorem RK.kcs{s:Nat}(r:RK s ro ro'){z:Nat}(hz:z<s)(h:KC ro' z):KC ro z:=by
 rcases h with h|h
 ·exact .inl (r.kbs hz h)
 ·refine .inr ?_
  by_cases hk:∃x,ro z= .qz x
  ·obtain⟨x,hx⟩:=hk
   obtain⟨y,hy⟩:=r.k z x hz hx
   rw[hy]at h;cases h
  ·rw[←r.o z hz (fun x hx=>hk ⟨x,hx⟩)];exact h
structure oU(H0:Hp)(YJ:Nat→Rl)(nn fb tb c:Nat)(C:Nat→Prop)(w:Nw)(H:Hp)(ro:Nat→Rl)(l:List Value)(V:Int→Value)(ch:Int→List Int)(par:Int→Int)(kb:Int→Option Nat)(va vb:Value)(a b:List Int):Prop where
 m:ForM H ro fb tb w.cs.length l V ch par kb
 cq:CQ H c C w
 hC:∀z,C z→ro z= .cell
 own:∃rest,H.own nn=some (ptr c::rest)
 hn:ro nn= .SN
 hz:∀z,H.size≤z→ro z= .no
 rk:RK H0.size YJ ro
 ra:E7 H ro H0.size va a
 rb:E7 H ro H0.size vb b
 e:ag (KC YJ) H0 H
variable {nn fb tb c : Nat} {C : Nat → Prop} {w : Nw} {l : List Value} {V : Int → Value} {ch : Int → List Int} {par : Int → Int} {kb : Int → Option Nat} {va vb : Value} {a b : List Int}
theorem oU.Vp(h:oU H0 YJ nn fb tb c C w H ro l V ch par kb va vb a b)(e:ag T H H')(hT:∀z,T z→H0.size≤z∧ro z= .no):oU H0 YJ nn fb tb c C w H' ro l V ch par kb va vb a b:=by
 have bS:∀z r,ro z=r→r≠ .no→¬T z:=fun z r h1 h2 ht=>h2 (by rw[←h1,(hT z ht).2])
 obtain⟨rest,ho⟩:=h.own
 have hs:=e.size
 refine⟨h.m.ext e (fun z hz=>?_),h.cq.ext e (fun z hz=>bS z _ (h.hC z hz) (by intro h;cases h)),h.hC,⟨rest,e.own ho (bS nn _ h.hn (by intro h;cases h))⟩,h.hn,fun z hz=>h.hz z (by omega),h.rk,
  h.ra.ext e (fun z hz _ ht=>by have:=(hT z ht).1;omega) (fun _ _ h=>h),h.rb.ext e (fun z hz _ ht=>by have:=(hT z ht).1;omega) (fun _ _ h=>h),?_⟩
 ·rcases hz with h1|h1| ⟨x,h1⟩<;>exact bS z _ h1 (by intro h;cases h)
 ·exact⟨apc h.e.size e.size,fun z hz hn=>by
   rw[e.aG z (aoO hz h.e.size) (fun ht=>by have:=(hT z ht).1;omega),h.e.aG z hz hn]⟩
end
end Go.Proofs.YthpjfeolagohkaaGreat

namespace Go.Proofs.YthpjfeolagohkaaGreat
open Go Go.Vc
theorem zr{H:Hp}{bx:Nat}{a:Option Addr}{c:Nat}{xs:List Int}(hb:H.own bx=some [.slice a xs.length c])(h:cK H 1 (.slice a xs.length c) xs.length (xs.map i64))(hm:xs.length≤1000000)(x:Int):
  af Tryz.prog iE [i64 x,ptr bx] H fun v H'=>ar (v= .bool (decide (x∈xs))∧H'=H):=by
 refine vr mixed (an:=qU) (by conv=>lhs;cbv) (nt:=7) (by kernel_rfl) (by simp) ?_
 refine v1 (ae hb) ?_
 refine(uO h x (by omega)).mono ?_
 rintro _ H' ⟨rfl,e⟩
 obtain rfl:=e.symm
 refine vs ?_
 exact⟨rfl,rfl⟩
section
variable {H H' : Hp} {ro ro' : Nat → Rl} {nn fb tb c : Nat} {C : Nat → Prop} {w : Nw} {l : List Value} {V : Int → Value} {ch : Int → List Int} {par : Int → Int} {kb : Int → Option Nat} {va vb : Value} {a b W0 : List Int} {lt : Int → Int → Bool} {rows : Int → List Int} {g : Int}
def YK(e:Env)(fb nn bx:Nat)(va vo vn:Value)(k:Nat):Prop:=
 e.find 0=some (ptr fb)∧e.find 1=some (.iface 154 (ptr nn))∧e.find 2=some va∧e.find 7=some (ptr bx)∧e.find 10=some vo∧e.find 11=some vn∧e.find 12=some (i64 k)
theorem Kg{P:Program}{A B:S}{env:Env}{H:Hp}{Kn:Env→Hp→Prop}{Kx:Nat→Env→Hp→Prop}{Kr:Env→Hp→Prop}(I:Env→Hp→Prop)(h:vc P A env H I Kx Kr)(k:∀e h,I e h→vc P B e h Kn Kx Kr):vc P (.seq A B) env H Kn Kx Kr:=
 nY A env H _ _ _ _ _ _ k (fun _ _ _ h=>h) (fun _ _ h=>h) h
theorem oU.ag8(h:oU H ro nn fb tb c C w H' ro' l V ch par kb va vb a b):oU H ro nn fb tb c C w H' ro' l V ch par kb (.slice none 0 0) (.slice none 0 0) [] []:=
 ⟨h.m,h.cq,h.hC,h.own,h.hn,h.hz,h.rk,⟨none,0,rfl,aoB _,.inl rfl⟩,⟨none,0,rfl,aoB _,.inl rfl⟩,h.e⟩
theorem oU.ag9{va':Value}{a':List Int}(h:oU H ro nn fb tb c C w H' ro' l V ch par kb va vb a b)(r:E7 H' ro' H.size va' a'):oU H ro nn fb tb c C w H' ro' l V ch par kb va' vb a' b:=
 ⟨h.m,h.cq,h.hC,h.own,h.hn,h.hz,h.rk,r,h.rb,h.e⟩
theorem oU.Tp{vb':Value}{b':List Int}(h:oU H ro nn fb tb c C w H' ro' l V ch par kb va vb a b)(r:E7 H' ro' H.size vb' b'):oU H ro nn fb tb c C w H' ro' l V ch par kb va vb' a b':=
 ⟨h.m,h.cq,h.hC,h.own,h.hn,h.hz,h.rk,h.ra,r,h.e⟩
theorem oU.Di{H3:Hp}{vo:Value}{out:List Int}{nb I3 fo:Option Nat}(h:oU H ro nn fb tb c C w H' ro' l V ch par kb va vb a b)(bx:H'.own H.size=some [vb])(so:Sl H' 1 vo out.length (out.map i64) fo)
  (hd:∀z,nb=some z∨fo=some z→H.size<z∧z<H'.size∧ro' z= .no)(UP:∀z,nb=some z→fo=some z→False)(e3:ag (fun z=>nb=some z) H' H3)(FP:I3=nb∨∃z,I3=some z∧H'.size≤z∧z<H3.size):
  oU H ro nn fb tb c C w H3 ro' l V ch par kb va vb a b∧H3.own H.size=some [vb]∧Sl H3 1 vo out.length (out.map i64) fo∧(∀z,I3=some z∨fo=some z→H.size<z∧z<H3.size∧ro' z= .no)∧(∀z,I3=some z→fo=some z→False):=by
 have lV:=aB bx
 have hs:=e3.size
 refine⟨h.Vp e3 (fun z hz=>by have:=hd z (.inl hz);exact⟨by omega,this.2.2⟩),e3.own bx (fun hz=>by have:=hd _ (.inl hz);omega),so.ext e3 (fun z h1 h2=>UP z h2 h1),fun z hz=>?_,fun z h1 h2=>?_⟩
 ·rcases hz with hz|hz
  ·rcases FP with h1| ⟨y,h1,h2,h3⟩
   ·rw[h1]at hz
    have:=hd z (.inl hz)
    exact⟨this.1,by omega,this.2.2⟩
   ·rw[h1]at hz
    injection hz with hz
    subst hz
    exact⟨by omega,h3,h.hz _ h2⟩
  ·have:=hd z (.inr hz)
   exact⟨this.1,by omega,this.2.2⟩
 ·rcases FP with h3| ⟨y,h3,h4,h5⟩
  ·exact UP z (by rw[←h3];exact h1) h2
  ·rw[h3]at h1
   injection h1 with h1
   have:=hd z (.inr h2)
   omega
def Tq(H0:Hp)(YJ:Nat→Rl)(nn fb tb c:Nat)(C:Nat→Prop)(w:Nw)(lt:Int→Int→Bool)(rows:Int→List Int)(W0:List Int)(g:Int)(HI:Int→List Int)(k ia ib io:Nat)(pn:Nat→Prop)(H:Hp)(va vb vn vo:Value):Prop:=
 ∃ (a b now out:List Int) (nb fo:Option Nat) (ro:Nat→Rl) (l:List Value) (V:Int→Value) (ch:Int→List Int) (par:Int→Int) (kb:Int→Option Nat),
  oU H0 YJ nn fb tb c C w H ro l V ch par kb va vb a b∧it (aE w) lt ch par rows (now++(a++(b++(out++W0))))∧ny (aE w) ch g k ia ib io a b now out∧pn now.length∧
  H.own H0.size=some [vb]∧ro H0.size= .no∧Il H vn now nb∧Sl H 1 vo out.length (out.map i64) fo∧(∀z,nb=some z∨fo=some z→H0.size<z∧z<H.size∧ro z= .no)∧(∀z,nb=some z→fo=some z→False)∧(∀z∈W0,ch z=HI z)
theorem Dj(h0:oU H ro nn fb tb c C w H ro l V ch par kb va vb a b)(aK:∀a b,aN w a b=true→lt a b=true)(f0:it (aE w) lt ch par rows (a++(b++W0)))(hra:E4 ch a)(YL:E4 ch b)(hg:∀c,c∈a∨c∈b→aE w c=g):
  af Tryz.prog j7 [ptr fb,.iface 154 (ptr nn),va,vb] H fun v H'=>ar (∃out ro' l' V' dA bm qa vo fo,v= .tuple [vo,.bool true].toArray∧oU H ro nn fb tb c C w H' ro' l' V' dA bm qa (.slice none 0 0) (.slice none 0 0) [] []∧
   Sl H' 1 vo out.length (out.map i64) fo∧(∀z,fo=some z→H.size≤z∧ro' z= .no)∧it (aE w) lt dA bm rows (out++W0)∧E4 dA out∧(∀c∈out,aE w c=g)∧∀z∈W0,dA z=ch z):=by
 have wY:=h0.cq.Er
 obtain⟨aa,ca,rfl,hca⟩:=h0.ra.cap
 obtain⟨ab,cb,rfl,Sy⟩:=h0.rb.cap
 obtain⟨n1,n2,n3⟩:=aph.1 f0.wn
 have bE:∀x∈a++(b++W0),(0≤x∧x<w.cs.length)∧par x= -1:=fun x hx=>⟨f0.Tb (hm:=aE w) hx,(f0.wm x hx).1⟩
 have hla:=bU n1 fun c hc=>(bE c (ape _ hc)).1
 have Dt:=bU (aph.1 n2).1 fun c hc=>(bE c (apY _ (ape _ hc))).1
 refine Kw uj ⟨rfl,?_⟩
 refine v1 kA.eq_1 ?_
 have e1:ag (fun z=>H.size≤z) H (H.new 30 [.slice ab b.length cb]):=((ag.refl _ _).new _ _:am H _).mono fun _ _ h=>h.elim
 have bx1:(H.new 30 [.slice ab b.length cb]).own H.size=some [.slice ab b.length cb]:=aD _ _ _
 have z1:(H.new 30 [.slice ab b.length cb]).size=H.size+1:=aq _ _ _
 have h1:=h0.Vp e1 (fun z hz=>⟨hz,h0.hz z hz⟩)
 generalize H.new 30 [.slice ab b.length cb]=H1 at*
 refine(vd h1.m h1.ra.rd (fun x hx=>bE x (ape _ hx)) hra (by omega)).mono ?_
 rintro _ H' ⟨rfl,e⟩
 obtain rfl:=e.symm
 refine v1 (ae bx1) ?_
 refine(vd h1.m h1.rb.rd (fun x hx=>bE x (apY _ (ape _ hx))) YL (by omega)).mono ?_
 rintro _ H' ⟨rfl,e⟩
 obtain rfl:=e.symm
 refine vs ?_
 refine(mY (H:=H1) iE [ptr H.size] (fun x=>decide (x∈b)) (fun H'=>H'=H1) rfl (fun H' hI=>by rw[hI];exact h1.ra.rd) (by kernel_rfl) (fun H' x hx hI=>?_) (by omega)).mono ?_
 ·rw[hI]
  exact zr bx1 h1.rb.rd (by omega) x
 rintro _ H' ⟨rfl,e⟩
 obtain rfl:=e.symm
 have Tr:(a.any fun x=>decide (x∈b))=false:=List.any_eq_false.2 fun x hx=>by
  simp only[ao0]
  exact fun hb=>n3 x hx x (ape _ hb) rfl
 rw[Tr]
 refine vs ?_
 have i0:ny (aE w) ch g 0 0 0 0 a b [] []:=⟨hra,YL,List.Pairwise.nil,fun _ _=>apG _,fun _ _=>apG _,by simp,by simp,fun c hc=>hg c (by simpa using hc)⟩
 have d0:∀z,((none:Option Nat)=some z∨(none:Option Nat)=some z)→H.size<z∧z<H1.size∧ro z= .no:=fun z hz=>by rcases hz with h|h<;>cases h
 have d00:∀z,(none:Option Nat)=some z→(none:Option Nat)=some z→False:=fun z h=>by cases h
 have cz0:Tq H ro nn fb tb c C w lt rows W0 g ch 0 0 0 0 (fun n=>n≤1) H1 (.slice aa a.length ca) (.slice ab b.length cb) (.slice none 0 0) (.slice none 0 0):=
  ⟨a,b,[],[],none,none,ro,l,V,ch,par,kb,h1,f0,i0,apG _,bx1,h0.hz _ (aoB _),Il.nil _ _,Sl.nil _ _,d0,d00,fun _ _=>rfl⟩
 refine aS.intro (fun mm env H'=>∃ (k:Nat) (va vb vn vo:Value),mm=w.cs.length+1 - k∧Tq H ro nn fb tb c C w lt rows W0 g ch k k k k (fun n=>n≤1) H' va vb vn vo∧
  env=[(0,ptr fb),(1,.iface 154 (ptr nn)),(2,va),(7,ptr H.size),(10,vo),(11,vn),(12,i64 k)]) _ ⟨0,_,_,_,_,rfl,cz0,rfl⟩ ?_
 clear h1 i0 bx1 f0 hra YL hg bE n1 n2 n3 hla Dt Tr h0 e1 d0 d00 cz0 hca Sy
 rintro mm env H2 ⟨k,va,vb,vn,vo,rfl,T9,rfl⟩
 obtain⟨a,b,now,out,nb,fo,nP,l2,V2,kU,iW,DL,h2,f2,i2,QR,pe,DM,EO,DN,lU,qo,GG⟩:=id T9
 obtain⟨aa,ca,rfl,hca⟩:=h2.ra.cap
 obtain⟨ab,cb,rfl,Sy⟩:=h2.rb.cap
 obtain⟨an,cn,rfl,Qz⟩:=EO.cap
 obtain⟨ao,co,rfl⟩:=Sl.shape DN
 have Oi:=aB pe
 have gU:=f2.wn
 have dJ:=bU gU fun c hc=>f2.Tb (hm:=aE w) hc
 simp only[aoy]at dJ
 refine v1 (ae pe) ?_
 rw[wrap64 (n:=(a.length:Int)+b.length) (by omega) (by omega),wrap64 (n:=(a.length:Int)+b.length+now.length) (by omega) (by omega)]
 refine ai.dec (fun XJ=>?_) (fun XJ=>?_)
 rotate_left
 ·refine vs ?_
  have Sz:a=[]:=ao4.1 (by omega)
  have RU:b=[]:=ao4.1 (by omega)
  have PA:now=[]:=ao4.1 (by omega)
  subst Sz RU PA
  refine⟨out,nP,l2,V2,kU,iW,DL,_,fo,rfl,h2.ag8,DN,fun z hz=>⟨by have:=lU z (.inr hz);omega,(lU z (.inr hz)).2.2⟩,f2,i2.ro,fun c hc=>i2.hg c (.inr (.inr (.inr hc))),GG⟩
 have aR:∀z,(kU z).length≤w.cs.length:=fun z=>bU (f2.pr.nd z) fun c hc=>h2.m.G2 z c hc
 have hk:k≤w.cs.length:=by
  by_cases Sz:a=[]
  ·by_cases RU:b=[]
   ·obtain⟨x,hx⟩:∃x,x∈now:=by
     cases now with
     |nil=>subst Sz RU;simp at XJ
     |cons x r=>exact⟨x,by simp⟩
    have:=i2.kn x hx
    have:=aR x
    omega
   ·obtain⟨x,r,rfl⟩:=apN RU
    have:=i2.kb x (by simp)
    have:=aR x
    omega
  ·obtain⟨x,r,rfl⟩:=apN Sz
   have:=i2.ka x (by simp)
   have:=aR x
   omega
 clear XJ aR dJ gU
 rw[Ts,Uo,Xs,Xt]
 refine Kg (fun e h=>∃va vb vn vo,Tq H ro nn fb tb c C w lt rows W0 g ch k (k+1) k k (fun n=>n≤2) h va vb vn vo∧YK e fb nn H.size va vo vn k) ?_ ?_
 ·refine vs ?_
  refine ai.dec (fun ga=>?_) (fun ga=>?_)
  ·obtain⟨x,r,rfl⟩:∃x r,a=x::r:=apN (fun h=>by rw[h]at ga;simp at ga)
   obtain⟨pb,po,pl,pc,hv,fw,NK,aV,hpc⟩:=h2.ra.head
   injection hv with E6 C1 hv3
   subst E6 hv3
   refine vs ?_
   refine⟨⟨by omega,by omega⟩,?_⟩
   refine v5 fw aV Int.toNat_zero ao6 Nat.add_zero ?_
   refine(cY h2.m x).mono ?_
   rintro _ H' ⟨rfl,e⟩
   obtain rfl:=e.symm
   refine vs ?_
   refine ai.dec (fun gd=>?_) (fun gd=>?_)
   ·refine vs ?_
    refine⟨⟨by omega,by omega⟩,?_⟩
    refine v5 fw aV Int.toNat_zero ao6 Nat.add_zero ?_
    refine EO.push x (by omega) fun w' H3 I3 FP QS e3=>?_
    obtain⟨h3,Dk,Oj,EK,Dl⟩:=h2.Di pe DN lU qo e3 FP
    refine vs ?_
    have uN:(x::r).length=r.length+1:=aoI
    refine⟨⟨by omega,by omega,by omega,by omega⟩,?_⟩
    refine vs ?_
    have fp:now++(x::r++(b++(out++W0)))=now++[x]++(r++(b++(out++W0))):=by simp
    rw[fp]at f2
    exact⟨_,_,_,_,⟨r,b,now++[x],out,I3,fo,nP,l2,V2,kU,iW,DL,h3.ag9 (h3.ra.tail _),f2,i2.ab2 (by omega),by rw[aoy,aoV];omega,Dk,DM,QS,Oj,EK,Dl,GG⟩,rfl,rfl,rfl,rfl,rfl,rfl,rfl⟩
   ·refine vs ?_
    exact⟨_,_,_,_,⟨x::r,b,now,out,nb,fo,nP,l2,V2,kU,iW,DL,h2,f2,i2.Wo (fun c hc=>by injection hc with hc;rw[←hc];omega),by omega,pe,DM,EO,DN,lU,qo,GG⟩,rfl,rfl,rfl,rfl,rfl,rfl,rfl⟩
  ·refine vs ?_
   have Sz:a=[]:=ao4.1 (by omega)
   exact⟨_,_,_,_,⟨a,b,now,out,nb,fo,nP,l2,V2,kU,iW,DL,h2,f2,i2.Wo (fun c hc=>by rw[Sz]at hc;cases hc),by omega,pe,DM,EO,DN,lU,qo,GG⟩,rfl,rfl,rfl,rfl,rfl,rfl,rfl⟩
 clear T9 h2 f2 i2 QR pe DM EO DN lU qo GG Oi hca Sy Qz
 rintro e2 H2 ⟨va,vb,vn,vo,T9,hv⟩
 obtain⟨a,b,now,out,nb,fo,nP,l2,V2,kU,iW,DL,h2,f2,i2,QR,pe,DM,EO,DN,lU,qo,GG⟩:=id T9
 obtain⟨ab,cb,rfl,Sy⟩:=h2.rb.cap
 obtain⟨an,cn,rfl,Qz⟩:=EO.cap
 have Oi:=aB pe
 obtain⟨GH,E6,C1,GI,oV,oW,oX⟩:=hv
 refine Kg (fun e h=>∃va vb vn vo,Tq H ro nn fb tb c C w lt rows W0 g ch k (k+1) (k+1) k (fun n=>n≤3) h va vb vn vo∧YK e fb nn H.size va vo vn k) ?_ ?_
 ·refine v8 GH E6 C1 GI oV oW oX (ae pe) ?_
  refine ai.dec (fun gb=>?_) (fun gb=>?_)
  ·obtain⟨x,r,rfl⟩:∃x r,b=x::r:=apN (fun h=>by rw[h]at gb;simp at gb)
   obtain⟨pb,po,pl,pc,hv,fw,NK,aV,hpc⟩:=h2.rb.head
   injection hv with Tt acQ Tu
   subst Tt Tu
   refine v8 GH E6 C1 GI oV oW oX (ae pe) ?_
   refine⟨⟨by omega,by omega⟩,?_⟩
   refine v12 fw aV Int.toNat_zero ao6 Nat.add_zero GH E6 C1 GI oV oW oX ?_
   refine(cY h2.m x).mono ?_
   rintro _ H' ⟨rfl,e⟩
   obtain rfl:=e.symm
   refine v7 GH E6 C1 GI oV oW oX ?_
   have uN:(x::r).length=r.length+1:=aoI
   have fp:(now++(a++(x::r++(out++W0)))).Perm (now++[x]++(a++(r++(out++W0)))):=by
    rw[ap8]
    intro z
    simp only[aqg,aqe,apL,List.count_nil]
    omega
   refine ai.dec (fun gd=>?_) (fun gd=>?_)
   ·refine vs ?_
    replace f2:=f2.perm fp
    refine oC.intro (fun _=>True) trivial ?_
    refine vs ?_
    refine II.intro ?_ ?_
    ·refine v6 (ae pe) fw aV Int.toNat_zero ao6 Nat.add_zero ?_
     refine⟨⟨by omega,by omega⟩,?_⟩
     refine v6 (ae pe) fw aV Int.toNat_zero ao6 Nat.add_zero ?_
     refine II.intro ?_ ?_
     ·refine v6 (ae pe) fw aV Int.toNat_zero ao6 Nat.add_zero ?_
      refine II.intro ?_ ?_
      ·refine v6 (ae pe) fw aV Int.toNat_zero ao6 Nat.add_zero ?_
       refine II.intro ?_ ?_
       ·refine vs ?_
        refine EO.push x (by omega) fun w' H3 I3 FP QS e3=>?_
        obtain⟨h3,Dk,Oj,EK,Dl⟩:=h2.Di pe DN lU qo e3 FP
        refine v8 (ae Dk) Dk fw aV Int.toNat_zero ao6 Nat.add_zero aor ?_
        refine⟨⟨by omega,by omega,by omega,by omega⟩,?_⟩
        refine v8 (ae Dk) Dk fw aV Int.toNat_zero ao6 Nat.add_zero aor ?_
        have e4:∀v,ag (fun z=>z=H.size) H3 (H3.wr H.size [v]):=fun v=>(ag.refl (fun z=>z=H.size) _).wr (fun _=>rfl) _
        have Vq:∀v,(H3.wr H.size [v]).own H.size=some [v]:=fun v=>ah Dk
        have h4:=fun v=>h3.Vp (e4 v) (fun z hz=>by rw[hz];exact⟨aoB _,DM⟩)
        exact⟨_,_,_,_,⟨a,r,now++[x],out,I3,fo,nP,l2,V2,kU,iW,DL,(h4 _).Tp ((h4 _).rb.tail _),f2,i2.Me (by omega),by rw[aoy,aoV];omega,Vq _,DM,QS.ext (e4 _) (fun z hz e=>by have:=EK z (.inl hz);omega),Oj.ext (e4 _) (fun z hz e=>by have:=EK z (.inr hz);omega),fun z hz=>by rw[fu];exact EK z hz,Dl,GG⟩,rfl,rfl,rfl,rfl,rfl,rfl,rfl⟩
       ·refine v6 (ae pe) fw aV Int.toNat_zero ao6 Nat.add_zero ?_
        refine⟨⟨by omega,by omega,by omega,by omega⟩,?_⟩
        refine v6 (ae pe) fw aV Int.toNat_zero ao6 Nat.add_zero ?_
        refine EO.push x (by omega) fun w' H3 I3 FP QS e3=>?_
        obtain⟨h3,Dk,Oj,EK,Dl⟩:=h2.Di pe DN lU qo e3 FP
        refine v8 (ae Dk) Dk fw aV Int.toNat_zero ao6 Nat.add_zero aor ?_
        have e4:∀v,ag (fun z=>z=H.size) H3 (H3.wr H.size [v]):=fun v=>(ag.refl (fun z=>z=H.size) _).wr (fun _=>rfl) _
        have Vq:∀v,(H3.wr H.size [v]).own H.size=some [v]:=fun v=>ah Dk
        have h4:=fun v=>h3.Vp (e4 v) (fun z hz=>by rw[hz];exact⟨aoB _,DM⟩)
        exact⟨_,_,_,_,⟨a,r,now++[x],out,I3,fo,nP,l2,V2,kU,iW,DL,(h4 _).Tp ((h4 _).rb.tail _),f2,i2.Me (by omega),by rw[aoy,aoV];omega,Vq _,DM,QS.ext (e4 _) (fun z hz e=>by have:=EK z (.inl hz);omega),Oj.ext (e4 _) (fun z hz e=>by have:=EK z (.inr hz);omega),fun z hz=>by rw[fu];exact EK z hz,Dl,GG⟩,rfl,rfl,rfl,rfl,rfl,rfl,rfl⟩
      ·refine v6 (ae pe) fw aV Int.toNat_zero ao6 Nat.add_zero ?_
       refine⟨⟨by omega,by omega,by omega,by omega⟩,?_⟩
       refine v6 (ae pe) fw aV Int.toNat_zero ao6 Nat.add_zero ?_
       refine EO.push x (by omega) fun w' H3 I3 FP QS e3=>?_
       obtain⟨h3,Dk,Oj,EK,Dl⟩:=h2.Di pe DN lU qo e3 FP
       refine v8 (ae Dk) Dk fw aV Int.toNat_zero ao6 Nat.add_zero aor ?_
       have e4:∀v,ag (fun z=>z=H.size) H3 (H3.wr H.size [v]):=fun v=>(ag.refl (fun z=>z=H.size) _).wr (fun _=>rfl) _
       have Vq:∀v,(H3.wr H.size [v]).own H.size=some [v]:=fun v=>ah Dk
       have h4:=fun v=>h3.Vp (e4 v) (fun z hz=>by rw[hz];exact⟨aoB _,DM⟩)
       exact⟨_,_,_,_,⟨a,r,now++[x],out,I3,fo,nP,l2,V2,kU,iW,DL,(h4 _).Tp ((h4 _).rb.tail _),f2,i2.Me (by omega),by rw[aoy,aoV];omega,Vq _,DM,QS.ext (e4 _) (fun z hz e=>by have:=EK z (.inl hz);omega),Oj.ext (e4 _) (fun z hz e=>by have:=EK z (.inr hz);omega),fun z hz=>by rw[fu];exact EK z hz,Dl,GG⟩,rfl,rfl,rfl,rfl,rfl,rfl,rfl⟩
     ·refine v6 (ae pe) fw aV Int.toNat_zero ao6 Nat.add_zero ?_
      refine⟨⟨by omega,by omega,by omega,by omega⟩,?_⟩
      refine v6 (ae pe) fw aV Int.toNat_zero ao6 Nat.add_zero ?_
      refine EO.push x (by omega) fun w' H3 I3 FP QS e3=>?_
      obtain⟨h3,Dk,Oj,EK,Dl⟩:=h2.Di pe DN lU qo e3 FP
      refine v8 (ae Dk) Dk fw aV Int.toNat_zero ao6 Nat.add_zero aor ?_
      have e4:∀v,ag (fun z=>z=H.size) H3 (H3.wr H.size [v]):=fun v=>(ag.refl (fun z=>z=H.size) _).wr (fun _=>rfl) _
      have Vq:∀v,(H3.wr H.size [v]).own H.size=some [v]:=fun v=>ah Dk
      have h4:=fun v=>h3.Vp (e4 v) (fun z hz=>by rw[hz];exact⟨aoB _,DM⟩)
      exact⟨_,_,_,_,⟨a,r,now++[x],out,I3,fo,nP,l2,V2,kU,iW,DL,(h4 _).Tp ((h4 _).rb.tail _),f2,i2.Me (by omega),by rw[aoy,aoV];omega,Vq _,DM,QS.ext (e4 _) (fun z hz e=>by have:=EK z (.inl hz);omega),Oj.ext (e4 _) (fun z hz e=>by have:=EK z (.inr hz);omega),fun z hz=>by rw[fu];exact EK z hz,Dl,GG⟩,rfl,rfl,rfl,rfl,rfl,rfl,rfl⟩
    ·refine v6 (ae pe) fw aV Int.toNat_zero ao6 Nat.add_zero ?_
     refine⟨⟨by omega,by omega,by omega,by omega⟩,?_⟩
     refine v6 (ae pe) fw aV Int.toNat_zero ao6 Nat.add_zero ?_
     refine⟨⟨by omega,by omega⟩,?_⟩
     refine v6 (ae pe) fw aV Int.toNat_zero ao6 Nat.add_zero ?_
     refine EO.push x (by omega) fun w' H3 I3 FP QS e3=>?_
     obtain⟨h3,Dk,Oj,EK,Dl⟩:=h2.Di pe DN lU qo e3 FP
     refine v8 (ae Dk) Dk fw aV Int.toNat_zero ao6 Nat.add_zero aor ?_
     have e4:∀v,ag (fun z=>z=H.size) H3 (H3.wr H.size [v]):=fun v=>(ag.refl (fun z=>z=H.size) _).wr (fun _=>rfl) _
     have Vq:∀v,(H3.wr H.size [v]).own H.size=some [v]:=fun v=>ah Dk
     have h4:=fun v=>h3.Vp (e4 v) (fun z hz=>by rw[hz];exact⟨aoB _,DM⟩)
     exact⟨_,_,_,_,⟨a,r,now++[x],out,I3,fo,nP,l2,V2,kU,iW,DL,(h4 _).Tp ((h4 _).rb.tail _),f2,i2.Me (by omega),by rw[aoy,aoV];omega,Vq _,DM,QS.ext (e4 _) (fun z hz e=>by have:=EK z (.inl hz);omega),Oj.ext (e4 _) (fun z hz e=>by have:=EK z (.inr hz);omega),fun z hz=>by rw[fu];exact EK z hz,Dl,GG⟩,rfl,rfl,rfl,rfl,rfl,rfl,rfl⟩
   ·refine vs ?_
    exact⟨_,_,_,_,⟨a,x::r,now,out,nb,fo,nP,l2,V2,kU,iW,DL,h2,f2,i2.Wp (fun c hc=>by injection hc with hc;rw[←hc];omega),by omega,pe,DM,EO,DN,lU,qo,GG⟩,rfl,rfl,rfl,rfl,rfl,rfl,rfl⟩
  ·refine v7 GH E6 C1 GI oV oW oX ?_
   have RU:b=[]:=ao4.1 (by omega)
   exact⟨_,_,_,_,⟨a,b,now,out,nb,fo,nP,l2,V2,kU,iW,DL,h2,f2,i2.Wp (fun c hc=>by rw[RU]at hc;cases hc),by omega,pe,DM,EO,DN,lU,qo,GG⟩,rfl,rfl,rfl,rfl,rfl,rfl,rfl⟩
 clear T9 h2 f2 i2 QR pe DM EO DN lU qo GG Oi Sy Qz GH E6 C1 GI oV oW oX
 rintro e3 H2 ⟨va,vb,vn,vo,T9,hv⟩
 obtain⟨a,b,now,out,nb,fo,nP,l2,V2,kU,iW,DL,h2,f2,i2,QR,pe,DM,EO,DN,lU,qo,GG⟩:=id T9
 obtain⟨an,cn,rfl,Qz⟩:=EO.cap
 obtain⟨ao,co,rfl⟩:=Sl.shape DN
 have Oi:=aB pe
 have dJ:=bU f2.wn fun c hc=>f2.Tb (hm:=aE w) hc
 simp only[aoy]at dJ
 obtain⟨GH,E6,C1,GI,oV,oW,oX⟩:=hv
 refine Kg (fun e h=>∃va vb vn vo,Tq H ro nn fb tb c C w lt rows W0 g ch k (k+1) (k+1) (k+1) (fun n=>n=0∨n=2) h va vb vn vo∧YK e fb nn H.size va vo vn k) ?_ ?_
 ·refine v8 GH E6 C1 GI oV oW oX (ae pe) ?_
  rw[if_neg (by decide:¬ (2:Int)=0),Int.tmod_eq_emod_of_nonneg (by omega)]
  refine v7 GH E6 C1 GI oV oW oX ?_
  refine ai.dec (fun gp=>?_) (fun gp=>?_)
  ·obtain⟨x,r,rfl⟩:∃x r,now=x::r:=apN (fun h=>by rw[h]at gp;simp at gp)
   have uN:(x::r).length=r.length+1:=aoI
   obtain⟨a',c',KS,GW,hn'⟩:=id EO
   injection KS with Tt acQ Tu
   subst Tt Tu
   obtain⟨pb,po,pl,rfl,Z3,Qj,MU,hpt⟩:=hn'.resolve_left (by omega)
   have aV:pl[po]? =some (i64 x):=by
    have h7:((x::r).map i64)[0]? =some (i64 x):=rfl
    rw[←hpt,aoU,if_pos (by simp),aoX]at h7
    exact h7
   have fw:=ae Qj
   refine v7 GH E6 C1 GI oV oW oX ?_
   refine⟨⟨by omega,by omega⟩,?_⟩
   refine v5 fw aV Int.toNat_zero ao6 Nat.add_zero ?_
   refine SP DN x (by omega) fun w' H3 SQ Re Oj e3=>?_
   have h3:=h2.Vp e3 (fun z hz=>by have:=lU z (.inr hz);exact⟨by omega,this.2.2⟩)
   have Dk:=e3.own pe (fun hz=>by have:=lU _ (.inr hz);omega)
   have QS:=EO.ext e3 (fun z h1 h2=>qo z h1 h2)
   have G0:=e3.size
   refine v7 GH E6 C1 GI oV oW oX ?_
   refine⟨⟨by omega,by omega,by omega,by omega⟩,?_⟩
   refine v7 GH E6 C1 GI oV oW oX ?_
   have fp:(x::r++(a++(b++(out++W0)))).Perm (r++(a++(b++(out++[x]++W0)))):=by
    rw[ap8]
    intro z
    simp only[aqg,aqe,apL,List.count_nil]
    omega
   have EK:∀z,nb=some z∨SQ=some z→H.size<z∧z<H3.size∧nP z= .no:=fun z hz=>by
    rcases hz with hz|hz
    ·have:=lU z (.inl hz)
     exact⟨this.1,by omega,this.2.2⟩
    ·rcases Re with h1| ⟨y,h1,JI,Wy⟩
     ·rw[h1]at hz
      have:=lU z (.inr hz)
      exact⟨this.1,by omega,this.2.2⟩
     ·rw[h1]at hz
      injection hz with hz
      subst hz
      exact⟨by omega,Wy,h2.hz _ JI⟩
   have Dl:∀z,nb=some z→SQ=some z→False:=fun z h1 JI=>by
    rcases Re with Wy| ⟨y,Wy,h4',h5'⟩
    ·exact qo z h1 (by rw[←Wy];exact JI)
    ·rw[Wy]at JI
     injection JI with JI
     have:=lU z (.inl h1)
     omega
   exact⟨_,_,_,_,⟨a,b,r,out++[x],nb,SQ,nP,l2,V2,kU,iW,DL,h3,f2.perm fp,i2.af3,by omega,Dk,DM,QS.tail _,Oj,EK,Dl,GG⟩,rfl,rfl,rfl,rfl,rfl,rfl,rfl⟩
  ·refine v7 GH E6 C1 GI oV oW oX ?_
   exact⟨_,_,_,_,⟨a,b,now,out,nb,fo,nP,l2,V2,kU,iW,DL,h2,f2,⟨i2.ra,i2.rb,i2.ro,i2.ka,i2.kb,i2.kn,fun c hc=>by have:=i2.ko c hc;omega,i2.hg⟩,by omega,pe,DM,EO,DN,lU,qo,GG⟩,rfl,rfl,rfl,rfl,rfl,rfl,rfl⟩
 clear T9 h2 f2 i2 QR pe DM EO DN lU qo GG Oi Qz GH E6 C1 GI oV oW oX dJ
 rintro e4 H2 ⟨va,vb,vn,vo,T9,hv⟩
 obtain⟨a,b,now,out,nb,fo,nP,l2,V2,kU,iW,DL,h2,f2,i2,QR,pe,DM,EO,DN,lU,qo,GG⟩:=id T9
 obtain⟨an,cn,rfl,Qz⟩:=EO.cap
 have Oi:=aB pe
 obtain⟨GH,E6,C1,GI,oV,oW,oX⟩:=hv
 refine v8 GH E6 C1 GI oV oW oX (ae pe) ?_
 refine ai.dec (fun gp=>?_) (fun gp=>?_)
 ·obtain⟨x,y,rfl⟩:∃x y,now=[x,y]:=by
   match now,gp with
   | [x,y],_=>exact⟨x,y,rfl⟩
   | [],gp=>simp at gp
   | [_],gp=>simp at gp
   |_::_::_::_,gp=>simp at gp;omega
  obtain⟨a',c',KS,GW,hn'⟩:=id EO
  injection KS with Tt acQ Tu
  subst Tt Tu
  have sE:([x,y]:List Int).length=2:=rfl
  obtain⟨pb,po,pl,rfl,Z3,Qj,MU,hpt⟩:=hn'.resolve_left (by omega)
  have YM:pl[po]? =some (i64 x):=by
   have h7:(([x,y]:List Int).map i64)[0]? =some (i64 x):=rfl
   rw[←hpt,aoU,if_pos (by simp),aoX]at h7
   exact h7
  have YN:pl[po+1]? =some (i64 y):=by
   have h7:(([x,y]:List Int).map i64)[1]? =some (i64 y):=rfl
   rw[←hpt,aoU,if_pos (by simp),aoX]at h7
   exact h7
  have fw:=ae Qj
  refine v7 GH E6 C1 GI oV oW oX ?_
  refine⟨⟨by omega,by omega⟩,?_⟩
  refine v12 fw YM Int.toNat_zero ao6 Nat.add_zero GH E6 C1 GI oV oW oX ?_
  refine⟨⟨by omega,by omega⟩,?_⟩
  refine v11 fw YN Int.toNat_one aqp GH E6 C1 GI oV oW oX ?_
  have G6:=i2.kn x (by simp)
  have hyn:=i2.kn y (by simp)
  have OZ:=i2.hg x (.inr (.inr (.inl (by simp))))
  have hyg:=i2.hg y (.inr (.inr (.inl (by simp))))
  refine(EN h2.m h2.hz h2.own h2.cq h2.hC aK (W:=a++(b++(out++W0))) f2 (by omega) (by omega)).mono ?_
  rintro _ H3 ⟨p,q,QT,l3,V3,YO,rfl,Q4,m3,f3,c3,r3,X9,e3⟩
  have acR:∀z,nP z= .no→¬KC nP z:=fun z h1 h2=>by
   rcases h2 with (h2| ⟨_,h2⟩)|h2<;>(rw[h1]at h2;cases h2)
  have G0:=e3.size
  obtain⟨rest,ho⟩:=h2.own
  have ahb:¬KC nP nn:=fun h=>by
   have:=h2.hn
   rcases h with (h| ⟨_,h⟩)|h<;>(rw[this]at h;cases h)
  have h3:oU H ro nn fb tb c C w H3 QT l3 V3 (ax kU p (kU p++[q])) (aJ iW q p) YO va vb a b:=by
   refine⟨m3,c3,fun z hz=>?_,⟨rest,e3.own ho ahb⟩,?_,X9,h2.rk.trans r3 h2.e.size,h2.ra.ext e3 (fun z _ h=>h) (fun z hz h=>r3.kcs hz h),h2.rb.ext e3 (fun z _ h=>h) (fun z hz h=>r3.kcs hz h),?_⟩
   ·have h5:=h2.hC z hz
    rw[r3.o z (h2.cq.slt z hz) (fun x e=>by rw[h5]at e;cases e),h5]
   ·rw[r3.o nn (aB ho) (fun x e=>by rw[h2.hn]at e;cases e),h2.hn]
   ·exact⟨apc h2.e.size e3.size,fun z hz hn=>by
     rw[e3.aG z (aoO hz h2.e.size) (fun h=>hn (h2.rk.kcs hz h)),h2.e.aG z hz hn]⟩
  have Dk:=e3.own pe (acR _ DM)
  have Oj:=DN.ext e3 (fun z hz=>acR z (lU z (.inr hz)).2.2)
  have f4:am H3 (H3.new 3 [i64 p]):=(ag.refl _ _).new _ _
  have f4':ag (fun _=>False) H3 (H3.new 3 [i64 p]):=f4
  have h4:=h3.Vp f4' (fun z hz=>hz.elim)
  have nw4:Il (H3.new 3 [i64 p]) (.slice (some ⟨H3.size,0,none⟩) 1 1) [p] (some H3.size):=Il.lit p
  have Z3:=aoR.1 f3.wn
  have tC:p∉a∧p∉b∧p∉out∧p∉W0:=by
   have:=Z3.1
   simp only[aoL,not_or]at this
   exact⟨this.1,this.2.1,this.2.2.1,this.2.2.2⟩
  have i4:=i2.ab4 (p:=p) (q:=q) (aoB _) (Q4.imp (fun h=>h.1) (fun h=>h.1)) ⟨tC.1,tC.2.1,tC.2.2.1⟩
  have hz4:(H3.new 3 [i64 p]).size=H3.size+1:=aq _ _ _
  have hd4:∀z,some H3.size=some z∨fo=some z→H.size<z∧z< (H3.new 3 [i64 p]).size∧QT z= .no:=fun z hz=>by
   rcases hz with hz|hz
   ·injection hz with hz
    subst hz
    exact⟨by omega,by omega,X9 _ (aoB _)⟩
   ·have:=lU z (.inr hz)
    exact⟨this.1,by omega,r3.none this.2.1 this.2.2⟩
  have ahc:∀z,some H3.size=some z→fo=some z→False:=fun z h1 JI=>by
   injection h1 with h1
   have:=lU z (.inr JI)
   omega
  refine v7 GH E6 C1 GI oV oW oX ?_
  rw[wrap64 (n:=(k:Int)+1) (by omega) (by omega)]
  refine⟨w.cs.length+1 - (k+1),by omega,k+1,va,vb,_,vo,rfl,⟨a,b,[p],out,some H3.size,fo,QT,l3,V3,_,_,YO,h4,f3,i4,by simp,f4.own Dk (fun h=>h),r3.none Oi DM,nw4,Oj.ext f4 (fun _ _ h=>h),hd4,ahc,fun z hz=>?_⟩,rfl⟩
  unfold ax
  rw[if_neg (fun e=>tC.2.2.2 (by rw[←e];exact hz))]
  exact GG z hz
 ·refine v7 GH E6 C1 GI oV oW oX ?_
  have PA:now=[]:=ao4.1 (by omega)
  subst PA
  rw[wrap64 (n:=(k:Int)+1) (by omega) (by omega)]
  exact⟨w.cs.length+1 - (k+1),by omega,k+1,va,vb,_,vo,rfl,⟨a,b,[],out,nb,fo,nP,l2,V2,kU,iW,DL,h2,f2,i2.ab3 (aoB _),by simp,pe,DM,EO,DN,lU,qo,GG⟩,rfl⟩
end
end Go.Proofs.YthpjfeolagohkaaGreat
