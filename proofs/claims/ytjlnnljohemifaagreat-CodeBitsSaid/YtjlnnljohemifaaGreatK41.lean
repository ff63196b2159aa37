/- Texts put behind each other. -/
import Derived.Test.YtjlnnljohemifaaGreatK98
import Derived.Test.YtjlnnljohemifaaGreatK4
import Derived.Test.YtjlnnljohemifaaGreatK21
import Derived.Test.YtjlnnljohemifaaGreatK22
import Derived.Test.YtjlnnljohemifaaGreatK28
import Derived.Test.YtjlnnljohemifaaGreatK29
import Derived.Test.YtjlnnljohemifaaGreatK40
set_option maxRecDepth 100000
set_option maxHeartbeats 8000000
set_option linter.unusedVariables false
set_option linter.unusedSimpArgs false
namespace Go.Proofs.YtjlnnljohemifaaGreat
open Go Go.Vc
def HK(H:Hp)(v:Value)(xs:List Int)(nb:Option Nat):Prop:=
 ∃a c,v= .slice a xs.length c∧xs.length≤c∧(c=0∨∃b o l,a=some ⟨b,o,none⟩∧nb=some b∧H.own b=some l∧o+c≤l.length∧(l.drop o).take xs.length=xs.map i64)
section
variable {H H' : Hp} {ro ro' : Nat → Rl} {B : Nat} {v : Value} {xs : List Int} {T : Nat → Prop} {nb : Option Nat}
theorem HK.nil(H:Hp)(nb:Option Nat):HK H (.slice none 0 0) [] nb:=⟨none,0,rfl,anG _,.inl rfl⟩
theorem HK.rd(h:HK H v xs nb):dc H 1 v xs.length (xs.map i64):=by
 obtain⟨a,c,rfl,hc,h⟩:=h
 refine⟨by simp,?_⟩
 rcases h with rfl| ⟨b,o,l,rfl,_,h1,h2,h3⟩
 ·exact .inl ⟨by omega,a,0,by rw[show xs.length=0 by omega]⟩
 ·exact .inr ⟨b,o,c,l,rfl,ae h1,by omega,by rw[anw];exact h3⟩
theorem HK.ext(h:HK H v xs nb)(e:ag T H H')(hT:∀z,nb=some z→¬T z):HK H' v xs nb:=by
 obtain⟨a,c,hv,hc,h⟩:=h
 exact⟨a,c,hv,hc,h.imp_right fun⟨b,o,l,h1,h2,h3,h4⟩=>⟨b,o,l,h1,h2,e.own h3 (hT b h2),h4⟩⟩
theorem HK.cap(h:HK H v xs nb):∃a c,v= .slice a xs.length c∧xs.length≤c:=by
 obtain⟨a,c,hv,hc,_⟩:=h
 exact⟨a,c,hv,hc⟩
theorem HK.lit{T:TypeId}(x:Int):HK (H.new T [i64 x]) (.slice (some ⟨H.size,0,none⟩) 1 1) [x] (some H.size):=
 ⟨_,1,rfl,anG _,.inr ⟨H.size,0,[i64 x],rfl,rfl,aB _ _ _,by simp,rfl⟩⟩
theorem HK.tail{x:Int}{a:Option Addr}{c:Nat}(h:HK H (.slice a (x::xs).length c) (x::xs) nb)(PN:Decidable ((c:Int)=1)):
  HK H (.slice (@ite (Option Addr) ((c:Int)=1) PN a (Option.map (fun(y:Addr)=>y.add (Int.toNat 1*1)) a)) (((xs.length+1:Nat):Int).toNat - Int.toNat 1) ((c:Int).toNat - Int.toNat 1)) xs nb:=by
 rw[show((xs.length+1:Nat):Int).toNat - Int.toNat 1=xs.length by simp,show(c:Int).toNat - Int.toNat 1=c - 1 by simp]
 obtain⟨a',c',hv,hc,h⟩:=h
 injection hv with e1 e2 e3
 subst e1 e3
 rw[anO]at hc
 refine⟨_,c - 1,rfl,by omega,?_⟩
 by_cases h1:(c:Int)=1
 ·exact .inl (by omega)
 ·rw[if_neg h1]
  rcases h with h| ⟨b,o,l,rfl,h2,h3,h4,h5⟩
  ·omega
  ·refine .inr ⟨b,o+1,l,rfl,h2,h3,by omega,?_⟩
   rw[anO,aom]at h5
   have h6:(l.drop (o+1))=(l.drop o).drop 1:=by rw[apm]
   rw[h6,List.take_drop,Nat.add_comm,h5]
   rfl
theorem HK.push{K:Value→Hp→Prop}{T:TypeId}(h:HK H v xs nb)(x:Int)(hl:xs.length≤1000000)
  (hk:∀w' H' ID,(ID=nb∨∃z,ID=some z∧H.size≤z∧z<H'.size)→HK H' w' (xs++[x]) ID→ag (fun z=>nb=some z) H H'→K w' H'):
  fW T 1 8 [i64 0] v (.slice (some ⟨H.size,0,none⟩) 1 1) (H.new T [i64 x]) K:=by
 have fl:ai H (H.new T [i64 x]):=(ag.refl _ _).new _ _
 have h1:=h.rd.fresh fl
 obtain⟨a,c,rfl,hc,h⟩:=h
 have hx:dc (H.new T [i64 x]) 1 (.slice (some ⟨H.size,0,none⟩) 1 1) 1 [i64 x]:=(Sl.cf (size:=1) (n:=1) (xs:=[i64 x]) rfl rfl).rd
 refine dc.rowOf hx (F:=fun m new=>(xs.length+m≤c→m=0→K (.slice a xs.length c) (H.new T [i64 x]))∧
  (xs.length+m≤c→m≠0→tM a fun b o=>aC (I0 ((H.new T [i64 x]).own b) ((H.new T [i64 x]).BD b)) fun l=>dm (o+(xs.length+m)*1≤l.length∧gz new) (K (.slice a (xs.length+m) c) ((H.new T [i64 x]).wr b (bh l (o+xs.length*1) new))))∧
  (c<xs.length+m→Builtin.nextslicecap (xs.length+m) c*8≤2^48∧
   rowOf (H.new T [i64 x]) 1 (.slice a xs.length c) fun _ QZ=>∀c',xs.length+m≤c'→K (.slice (some ⟨(H.new T [i64 x]).size,0,none⟩) (xs.length+m) c') ((H.new T [i64 x]).new T (QZ++new++cA [i64 0] (c' - (xs.length+m)))))) ?_
 refine⟨fun _ h=>absurd h (by omega),fun oY _=>?_,fun aO=>⟨?_,?_⟩⟩
 ·rcases h with rfl| ⟨b,o,l,rfl,h2,h3,h4,h5⟩
  ·omega
  ·have QD:=fl.own h3 (fun h=>h)
   show aC (I0 ((H.new T [i64 x]).own b) ((H.new T [i64 x]).BD b)) _
   rw[QD]
   refine⟨⟨by omega,fun v hv=>by rw[anC.1 hv];rfl⟩,?_⟩
   have oK:(xs++[x]).length=xs.length+1:=by simp
   have e2:ag (fun z=>z=b) (H.new T [i64 x]) ((H.new T [i64 x]).wr b (bh l (o+xs.length*1) [i64 x])):=(ag.refl (fun z=>z=b) _).wr (fun _=>rfl) _
   refine hk _ _ nb (.inl rfl) ⟨some ⟨b,o,none⟩,c,by rw[oK],by rw[oK];exact oY,.inr ⟨b,o,bh l (o+xs.length*1) [i64 x],rfl,h2,ah QD,by rw[ke];exact h4,?_⟩⟩ ((fl.mono fun _ _ h=>h.elim).trans (e2.mono fun z _ e=>by rw[e];exact h2))
   rw[anw]
   apply aoo
   intro k
   rw[an8,oK]
   by_cases hk:k<xs.length+1
   ·rw[an3 hk,aob,getElem?_splice [i64 x] l _ _ (by simp;omega)]
    by_cases C6:k<xs.length
    ·rw[if_neg (by omega),anJ (by simpa using C6),←h5,an3 C6,aob]
    ·have:k=xs.length:=by omega
     rw[if_pos (by simp;omega),anX (by simp;omega),this]
     simp
   ·rw[anK (by simp;omega),anK (by simp;omega)]
 ·have h2:Builtin.nextslicecap (xs.length+1) c≤2*(xs.length+1):=nextslicecap_le aO
  have h3:=aoT 8 h2
  omega
 ·refine dc.rowOf (n:=xs.length) (xs:=xs.map i64) h1 ?_
  intro c' Kl
  have Pp:(H.new T [i64 x]).size=H.size+1:=aq _ _ _
  refine hk _ _ (some (H.new T [i64 x]).size) (.inr ⟨_,rfl,by omega,by simp only[aq];omega⟩) ⟨_,c',by simp,by simpa using Kl,.inr ⟨(H.new T [i64 x]).size,0,_,rfl,rfl,aB _ _ _,?_,?_⟩⟩ ((fl.mono fun _ _ h=>h.elim).trans ((ag.refl _ _).new _ _))
  ·simp only[anD,anQ,C7,anM,anw]
   omega
  ·rw[List.drop_zero,an8]
   exact List.take_left' (by simp)
theorem RK.low{s s':Nat}(r:RK s' ro ro')(hs:s≤s')(hz:∀z,s≤z→ro z= .no):RK s ro ro':=(RK.refl hz).trans r hs
theorem RK.none{s:Nat}(r:RK s ro ro'){z:Nat}(hz:z<s)(h:ro z= .no):ro' z= .no:=by
 rw[r.o z hz (fun x e=>by rw[h]at e;cases e),h]
end
section
variable {H H' : Hp} {ro ro' : Nat → Rl} {fb tb nn c : Nat} {l : List Value} {V : Int → Value} {ch : Int → List Int} {par : Int → Int} {kb : Int → Option Nat} {C : Nat → Prop} {w : Nw} {lt : Int → Int → Bool} {rows : Int → List Int} {W : List Int}
theorem ju.RX{hm:Int→Int}(f:ju (aG w) lt ch par rows W){x:Int}(hx:x∈W):0≤x∧x<w.cs.length:=by
 obtain⟨a,b,_⟩:=aD (f.wm x hx).2
 exact⟨a,b⟩
def KC(ro:Nat→Rl)(z:Nat):Prop:=KB ro z∨ro z= .cell
theorem En(m:ForM H ro fb tb w.cs.length l V ch par kb)(hz:∀z,H.size≤z→ro z= .no)(hn:∃rest,H.own nn=some (ptr c::rest))(cq:CQ H c C w)(hC:∀z,C z→ro z= .cell)(aO:∀a b,aQ w a b=true→lt a b=true)
  {x y:Int}(f:ju (aG w) lt ch par rows (x::y::W))(hh:aG w x=aG w y)(hd:(ch x).length=(ch y).length):
  af Tryz.prog vQ [ptr fb,.iface 198 (ptr nn),i64 x,i64 y] H fun v H'=>aw (∃p q ro' l' V' tA,v=i64 p∧((p=x∧q=y)∨(p=y∧q=x))∧ForM H' ro' fb tb w.cs.length l' V' (ay ch p (ch p++[q])) (aI par q p) tA∧
   ju (aG w) lt (ay ch p (ch p++[q])) (aI par q p) rows (p::W)∧CQ H' c C w∧RK H.size ro ro'∧(∀z,H'.size≤z→ro' z= .no)∧ag (KC ro) H H'):=by
 have uJ:=f.RX (hm:=aG w) (x:=x) (by simp)
 have Wc:=f.RX (hm:=aG w) (x:=y) (by simp)
 obtain⟨x1,x2⟩:=f.wm x (by simp)
 obtain⟨y1,y2⟩:=f.wm y (by simp)
 have Mk:x≠y:=fun e=>by have:=f.wn;rw[e]at this;simp at this
 have wY:=cq.DY
 have Tg:(ch x).length≤w.cs.length:=bV (f.pr.nd x) fun c hc=>m.GA x c hc
 obtain⟨rest,ho⟩:=hn
 refine bm wJ ?_
 refine vs ?_
 refine⟨_,_,cJ,ptr c,rfl,fD (off:=0) (by kernel_rfl) (ae ho) rfl,(cD cq y x).mono ?_⟩
 rintro _ H1 ⟨rfl,c1,e1⟩
 have m1:=m.ext e1 (fun z dM h=>by
  have:=hC z h
  rcases dM with h2|h2| ⟨_,h2⟩<;>(rw[this]at h2;cases h2))
 have z1:=e1.size
 have Ol:∀z,H1.size≤z→ro z= .no:=fun z h=>hz z (by omega)
 rw[gN (w:=w) (a:=y) (b:=x) y2 x2]
 cases mJ:aQ w y x
 ·refine vs ?_
  have hl:=aO _ _ (((ar w).Ob x y Mk).resolve_right (by rw[mJ];simp))
  refine(sI m1 Ol uJ Wc x1 y1 Mk hd (by omega)).mono ?_
  rintro _ H2 ⟨rfl,nU,l2,V2,Dq,m2,r2,dM,e2⟩
  refine vs ?_
  refine⟨x,y,nU,l2,V2,Dq,rfl,.inl ⟨rfl,rfl⟩,m2,f.link hh hd hl,c1.ext e2 (fun z h hk=>?_),r2.low z1 hz,dM,(e1.mono fun z _ h=>.inr (hC z h)).trans (e2.mono fun z _ h=>.inl h)⟩
  have:=hC z h
  rcases hk with h2| ⟨_,h2⟩<;>(rw[this]at h2;cases h2)
 ·refine vs ?_
  have hl:=aO _ _ mJ
  refine(sI m1 Ol Wc uJ y1 x1 Mk.symm hd.symm (by omega)).mono ?_
  rintro _ H2 ⟨rfl,nU,l2,V2,Dq,m2,r2,dM,e2⟩
  refine vs ?_
  refine⟨y,x,nU,l2,V2,Dq,rfl,.inr ⟨rfl,rfl⟩,m2,(f.perm (List.Perm.swap ..)).link hh.symm hd.symm hl,c1.ext e2 (fun z h hk=>?_),r2.low z1 hz,dM,(e1.mono fun z _ h=>.inr (hC z h)).trans (e2.mono fun z _ h=>.inl h)⟩
  have:=hC z h
  rcases hk with h2| ⟨_,h2⟩<;>(rw[this]at h2;cases h2)
end
end Go.Proofs.YtjlnnljohemifaaGreat

namespace Go.Proofs.YtjlnnljohemifaaGreat
open Go Go.Vc
theorem dc.sub{H:Hp}{size n c:Nat}{a:Option Addr}{xs:List Value}(h:dc H size (.slice a n c) n xs){lo hi:Nat}(h1:lo≤hi)(h2:hi≤n){b':Option Addr}{c':Nat}(hb:lo<hi→b'=a.map (·.add (lo*size))):
  dc H size (.slice b' (hi - lo) c') (hi - lo) ((xs.drop (lo*size)).take ((hi - lo)*size)):=by
 obtain⟨hl,hv⟩:=h
 have e1:(hi - lo)*size=hi*size - lo*size:=Nat.sub_mul _ _ _
 have e2:hi*size≤n*size:=aoT _ h2
 have e3:lo*size≤hi*size:=aoT _ h1
 refine⟨by rw[aoj,List.length_drop,hl];omega,?_⟩
 by_cases aO:lo<hi
 ·rcases hv with ⟨hn,_⟩| ⟨b,o,c2,l,hs,fA,oY,ht⟩
  ·omega
  ·right
   injection hs with eM K7 Gx
   subst eM
   rw[hb aO]
   refine⟨b,o+lo*size,c',l,?_,fA,by omega,?_⟩
   ·simp[Addr.add]
   ·rw[←ht,List.drop_take,apm,apu,aoQ (by omega)]
 ·left
  exact⟨by omega,b',c',by rw[show hi - lo=0 by omega]⟩
theorem Sg{H:Hp}{a:Option Addr}{n c:Nat}{xs:List Int}(h:dc H 1 (.slice a n c) n (xs.map i64)){lo hi:Nat}{lo' hi':Int}(el:lo'=(lo:Int))(eh:hi'=(hi:Int))(h1:lo≤hi)(h2:hi≤n)(h3:n≤c):
  ∃a',Value.slice (if(c:Int)=lo' then a else Option.map (fun x:Addr=>x.add (lo'.toNat*1)) a) (hi'.toNat - lo'.toNat) ((c:Int).toNat - lo'.toNat)= .slice a' (hi - lo) (c - lo)∧
   dc H 1 (.slice a' (hi - lo) (c - lo)) (hi - lo) (((xs.drop lo).take (hi - lo)).map i64)∧hi - lo≤c - lo∧((xs.drop lo).take (hi - lo)).length=hi - lo:=by
 subst el;subst eh
 have hl:=h.1
 rw[anQ,anw]at hl
 refine⟨_,rfl,?_,by omega,by rw[aoj,List.length_drop];omega⟩
 have h4:=dc.sub h (lo:=lo) (hi:=hi) h1 h2 (c':=(c:Int).toNat - (lo:Int).toNat) (b':=if(c:Int)=(lo:Int)then a else Option.map (fun x:Addr=>x.add ((lo:Int).toNat*1)) a) (fun aO=>by rw[if_neg (by omega)];rfl)
 simp only[anw]at h4 ⊢
 rw[←List.map_drop,←List.map_take]at h4
 exact h4
def Ge(H:Hp)(ro:Nat→Rl)(B:Nat)(v:Value)(xs:List Int):Prop:=
 ∃a c,v= .slice a xs.length c∧xs.length≤c∧(xs=[]∨∃b o l,a=some ⟨b,o,none⟩∧b<B∧¬KC ro b∧H.rd b=some l∧o+xs.length≤l.length∧(l.drop o).take xs.length=xs.map i64)
section
variable {H H' H0 : Hp} {ro ro' Xn : Nat → Rl} {B : Nat} {v : Value} {xs : List Int} {T : Nat → Prop}
theorem Ge.rd(h:Ge H ro B v xs):dc H 1 v xs.length (xs.map i64):=by
 obtain⟨a,c,rfl,hc,h⟩:=h
 refine⟨by simp,?_⟩
 rcases h with rfl| ⟨b,o,l,rfl,_,_,h1,h2,h3⟩
 ·exact .inl ⟨rfl,a,c,rfl⟩
 ·exact .inr ⟨b,o,c,l,rfl,h1,by omega,by rw[anw];exact h3⟩
theorem Ge.ext(h:Ge H ro B v xs)(e:ag T H H')(hT:∀z,z<B→¬KC ro z→¬T z)(hr:∀z,z<H.size→KC ro' z→KC ro z):Ge H' ro' B v xs:=by
 obtain⟨a,c,hv,hc,h⟩:=h
 exact⟨a,c,hv,hc,h.imp_right fun⟨b,o,l,h1,h2,h3,h4,h5⟩=>⟨b,o,l,h1,h2,fun h=>h3 (hr b (NY h4) h),e.rd h4 (hT b h2 h3),h5⟩⟩
theorem Ge.tail{x:Int}{a:Option Addr}{c:Nat}(h:Ge H ro B (.slice a (x::xs).length c) (x::xs))(PN:Decidable ((c:Int)=1)):
  Ge H ro B (.slice (@ite (Option Addr) ((c:Int)=1) PN a (Option.map (fun(y:Addr)=>y.add (Int.toNat 1*1)) a)) (((xs.length+1:Nat):Int).toNat - Int.toNat 1) ((c:Int).toNat - Int.toNat 1)) xs:=by
 rw[show((xs.length+1:Nat):Int).toNat - Int.toNat 1=xs.length by simp,show(c:Int).toNat - Int.toNat 1=c - 1 by simp]
 obtain⟨a',c',hv,hc,h⟩:=h
 injection hv with e1 e2 e3
 subst e1 e3
 rw[anO]at hc
 refine⟨_,c - 1,rfl,by omega,?_⟩
 by_cases h1:(c:Int)=1
 ·exact .inl (an5.1 (by omega))
 ·rw[if_neg h1]
  rcases h with h| ⟨b,o,l,rfl,h2,h3,h4,h5,h6⟩
  ·cases h
  ·rw[anO]at h5 h6
   refine .inr ⟨b,o+1,l,rfl,h2,h3,h4,by omega,?_⟩
   rw[aom]at h6
   have h7:(l.drop (o+1))=(l.drop o).drop 1:=by rw[apm]
   rw[h7,List.take_drop,Nat.add_comm,h6]
   rfl
theorem Ge.head{x:Int}(h:Ge H ro B v (x::xs)):∃b o l c,v= .slice (some ⟨b,o,none⟩) (x::xs).length c∧H.rd b=some l∧b<H.size∧l[o]? =some (i64 x)∧(x::xs).length≤c:=by
 obtain⟨a,c,hv,hc,h⟩:=h
 rcases h with h| ⟨b,o,l,rfl,h2,h3,h4,h5,h6⟩
 ·cases h
 ·refine⟨b,o,l,c,hv,h4,NY h4,?_,hc⟩
  have h7:((x::xs).map i64)[0]? =some (i64 x):=rfl
  rw[←h6,an9,if_pos (by simp),aob]at h7
  exact h7
theorem Ge.cap(h:Ge H ro B v xs):∃a c,v= .slice a xs.length c∧xs.length≤c:=by
 obtain⟨a,c,hv,hc,_⟩:=h
 exact⟨a,c,hv,hc⟩
theorem RK.kcs{s:Nat}(r:RK s ro ro'){z:Nat}(hz:z<s)(h:KC ro' z):KC ro z:=by
 rcases h with h|h
 ·exact .inl (r.kbs hz h)
 ·refine .inr ?_
  by_cases hk:∃x,ro z= .pe x
  ·obtain⟨x,hx⟩:=hk
   obtain⟨y,hy⟩:=r.k z x hz hx
   rw[hy]at h;cases h
  ·rw[←r.o z hz (fun x hx=>hk ⟨x,hx⟩)];exact h
structure oU(H0:Hp)(Xn:Nat→Rl)(nn fb tb c:Nat)(C:Nat→Prop)(w:Nw)(H:Hp)(ro:Nat→Rl)(l:List Value)(V:Int→Value)(ch:Int→List Int)(par:Int→Int)(kb:Int→Option Nat)(va vb:Value)(a b:List Int):Prop where
 m:ForM H ro fb tb w.cs.length l V ch par kb
 cq:CQ H c C w
 hC:∀z,C z→ro z= .cell
 own:∃rest,H.own nn=some (ptr c::rest)
 hn:ro nn= .RB
 hz:∀z,H.size≤z→ro z= .no
 rk:RK H0.size Xn ro
 ra:Ge H ro H0.size va a
 rb:Ge H ro H0.size vb b
 e:ag (KC Xn) H0 H
variable {nn fb tb c : Nat} {C : Nat → Prop} {w : Nw} {l : List Value} {V : Int → Value} {ch : Int → List Int} {par : Int → Int} {kb : Int → Option Nat} {va vb : Value} {a b : List Int}
theorem oU.Uf(h:oU H0 Xn nn fb tb c C w H ro l V ch par kb va vb a b)(e:ag T H H')(hT:∀z,T z→H0.size≤z∧ro z= .no):oU H0 Xn nn fb tb c C w H' ro l V ch par kb va vb a b:=by
 have bK:∀z r,ro z=r→r≠ .no→¬T z:=fun z r h1 h2 ht=>h2 (by rw[←h1,(hT z ht).2])
 obtain⟨rest,ho⟩:=h.own
 have hs:=e.size
 refine⟨h.m.ext e (fun z hz=>?_),h.cq.ext e (fun z hz=>bK z _ (h.hC z hz) (by intro h;cases h)),h.hC,⟨rest,e.own ho (bK nn _ h.hn (by intro h;cases h))⟩,h.hn,fun z hz=>h.hz z (by omega),h.rk,
  h.ra.ext e (fun z hz _ ht=>by have:=(hT z ht).1;omega) (fun _ _ h=>h),h.rb.ext e (fun z hz _ ht=>by have:=(hT z ht).1;omega) (fun _ _ h=>h),?_⟩
 ·rcases hz with h1|h1| ⟨x,h1⟩<;>exact bK z _ h1 (by intro h;cases h)
 ·exact⟨aor h.e.size e.size,fun z hz hn=>by
   rw[e.aM z (anT hz h.e.size) (fun ht=>by have:=(hT z ht).1;omega),h.e.aM z hz hn]⟩
end
end Go.Proofs.YtjlnnljohemifaaGreat

namespace Go.Proofs.YtjlnnljohemifaaGreat
open Go Go.Vc
theorem Eo{H:Hp}{a:Option Addr}{c:Nat}{xs:List Int}(f:FuncId)(qj:List Value)(q:Int→Bool)(Inv:Hp→Prop)(hI:Inv H)(fA:∀H',Inv H'→dc H' 1 (.slice a xs.length c) xs.length (xs.map i64))(Dx:ef Tryz.prog f=true)
  (hf:∀H' x,x∈xs→Inv H'→af Tryz.prog f (i64 x::qj) H' fun v Gu=>aw (v= .bool (q x)∧Inv Gu))(hm:xs.length≤1000000000):
  af Tryz.prog fF [.slice a xs.length c,.func (.func f) #[] qj.toArray] H fun v H'=>aw (∃i:Int,v=i64 i∧(0≤i↔xs.any q=true)∧Inv H'):=by
 refine bm fI ?_
 refine vs ?_
 refine bk.intro (fun m env H'=>Inv H'∧∃j:Nat,m=xs.length - j∧j≤xs.length∧(∀e∈xs.take j,q e=false)∧env=[(0,.slice a xs.length c),(1,.func (.func f) #[] qj.toArray),(7,i64 xs.length),(8,i64 j)]) xs.length ⟨hI,0,by omega,by omega,by simp,rfl⟩ ?_
 rintro m env H1 ⟨i1,j,Va,hj,db,rfl⟩
 have h1:=fA H1 i1
 refine vs ?_
 refine am.dec (fun aO=>?_) (fun aO=>?_)<;>refine vs ?_
 ·have gD:j<xs.length:=by omega
  obtain⟨e,he⟩:∃e,xs[j]? =some e:=⟨_,ans gD⟩
  obtain⟨_,b,o,lb,rfl,Jq,bX⟩:=dc.num h1 he
  refine⟨⟨by omega,by omega⟩,?_⟩
  have bL:=anz he
  refine v4 Jq Int.toNat_natCast anw bX ?_
  refine⟨Dx,?_⟩
  refine af.mono (by simpa using hf H1 e bL i1) ?_
  rintro _ H2 ⟨rfl,i2⟩
  refine vs ?_
  cases hx:q e
  ·refine vs ?_
   rw[wrap64 (n:=(j:Int)+1) (by omega) (by omega)]
   refine⟨xs.length - (j+1),by omega,i2,j+1,rfl,by omega,?_,rfl⟩
   intro e' ir
   rw[aoa,he]at ir
   rcases anH.1 ir with ir|ir
   ·exact db e' ir
   ·have:e'=e:=by simpa using ir
    rw[this];exact hx
  ·refine vs ?_
   exact⟨j,rfl,⟨fun _=>List.any_eq_true.2 ⟨e,bL,hx⟩,fun _=>by omega⟩,i2⟩
 ·refine⟨-1,rfl,?_,i1⟩
  have gD:j=xs.length:=by omega
  subst gD
  rw[an4]at db
  have:xs.any q=false:=List.any_eq_false.2 fun e he=>by rw[db e he];simp
  rw[this]
  simp
theorem zv{H:Hp}{a:Option Addr}{c:Nat}{xs:List Int}(f:FuncId)(qj:List Value)(q:Int→Bool)(Inv:Hp→Prop)(hI:Inv H)(fA:∀H',Inv H'→dc H' 1 (.slice a xs.length c) xs.length (xs.map i64))(Dx:ef Tryz.prog f=true)
  (hf:∀H' x,x∈xs→Inv H'→af Tryz.prog f (i64 x::qj) H' fun v Gu=>aw (v= .bool (q x)∧Inv Gu))(hm:xs.length≤1000000000):
  af Tryz.prog kG [.slice a xs.length c,.func (.func f) #[] qj.toArray] H fun v H'=>aw (v= .bool (xs.any q)∧Inv H'):=by
 refine bm kN ?_
 refine vs ?_
 refine(Eo f qj q Inv hI fA Dx hf hm).mono ?_
 rintro _ H1 ⟨i,rfl,hi,i1⟩
 refine vs ?_
 refine⟨anP Value.bool ?_,i1⟩
 cases hx:xs.any q
 ·rw[hx]at hi
  exact anV (fun h=>by cases hi.1 h)
 ·rw[hx]at hi
  exact anI (hi.2 rfl)
theorem zw{H:Hp}{bx:Nat}{a:Option Addr}{c:Nat}{xs:List Int}(hb:H.own bx=some [.slice a xs.length c])(h:dc H 1 (.slice a xs.length c) xs.length (xs.map i64))(hm:xs.length≤1000000)(x:Int):
  af Tryz.prog iS [i64 x,ptr bx] H fun v H'=>aw (v= .bool (decide (x∈xs))∧H'=H):=by
 refine vl mixed (an:=rE) (by conv=>lhs;cbv) (nt:=7) (by kernel_rfl) (by simp) ?_
 refine v1 (ae hb) ?_
 refine(uK h x (by omega)).mono ?_
 rintro _ H' ⟨rfl,e⟩
 obtain rfl:=e.symm
 refine vs ?_
 exact⟨rfl,rfl⟩
section
variable {H H' : Hp} {ro ro' : Nat → Rl} {nn fb tb c : Nat} {C : Nat → Prop} {w : Nw} {l : List Value} {V : Int → Value} {ch : Int → List Int} {par : Int → Int} {kb : Int → Option Nat} {va vb : Value} {a b W0 : List Int} {lt : Int → Int → Bool} {rows : Int → List Int} {g : Int}
def Xo(e:Env)(fb nn bx:Nat)(va vo vn:Value)(k:Nat):Prop:=
 e.find 0=some (ptr fb)∧e.find 1=some (.iface 198 (ptr nn))∧e.find 2=some va∧e.find 7=some (ptr bx)∧e.find 10=some vo∧e.find 11=some vn∧e.find 12=some (i64 k)
theorem JK{P:Program}{A B:S}{env:Env}{H:Hp}{Kn:Env→Hp→Prop}{Kx:Nat→Env→Hp→Prop}{Kr:Env→Hp→Prop}(I:Env→Hp→Prop)(h:vc P A env H I Kx Kr)(k:∀e h,I e h→vc P B e h Kn Kx Kr):vc P (.seq A B) env H Kn Kx Kr:=
 Dd A env H _ _ _ _ _ _ k (fun _ _ _ h=>h) (fun _ _ h=>h) h
theorem oU.afW(h:oU H ro nn fb tb c C w H' ro' l V ch par kb va vb a b):oU H ro nn fb tb c C w H' ro' l V ch par kb (.slice none 0 0) (.slice none 0 0) [] []:=
 ⟨h.m,h.cq,h.hC,h.own,h.hn,h.hz,h.rk,⟨none,0,rfl,anG _,.inl rfl⟩,⟨none,0,rfl,anG _,.inl rfl⟩,h.e⟩
theorem oU.afX{va':Value}{a':List Int}(h:oU H ro nn fb tb c C w H' ro' l V ch par kb va vb a b)(r:Ge H' ro' H.size va' a'):oU H ro nn fb tb c C w H' ro' l V ch par kb va' vb a' b:=
 ⟨h.m,h.cq,h.hC,h.own,h.hn,h.hz,h.rk,r,h.rb,h.e⟩
theorem oU.Sh{vb':Value}{b':List Int}(h:oU H ro nn fb tb c C w H' ro' l V ch par kb va vb a b)(r:Ge H' ro' H.size vb' b'):oU H ro nn fb tb c C w H' ro' l V ch par kb va vb' a b':=
 ⟨h.m,h.cq,h.hC,h.own,h.hn,h.hz,h.rk,h.ra,r,h.e⟩
theorem oU.CU{H3:Hp}{vo:Value}{out:List Int}{nb ID fo:Option Nat}(h:oU H ro nn fb tb c C w H' ro' l V ch par kb va vb a b)(bx:H'.own H.size=some [vb])(so:Sl H' 1 vo out.length (out.map i64) fo)
  (hd:∀z,nb=some z∨fo=some z→H.size<z∧z<H'.size∧ro' z= .no)(TK:∀z,nb=some z→fo=some z→False)(e3:ag (fun z=>nb=some z) H' H3)(Eg:ID=nb∨∃z,ID=some z∧H'.size≤z∧z<H3.size):
  oU H ro nn fb tb c C w H3 ro' l V ch par kb va vb a b∧H3.own H.size=some [vb]∧Sl H3 1 vo out.length (out.map i64) fo∧(∀z,ID=some z∨fo=some z→H.size<z∧z<H3.size∧ro' z= .no)∧(∀z,ID=some z→fo=some z→False):=by
 have me:=aA bx
 have hs:=e3.size
 refine⟨h.Uf e3 (fun z hz=>by have:=hd z (.inl hz);exact⟨by omega,this.2.2⟩),e3.own bx (fun hz=>by have:=hd _ (.inl hz);omega),so.ext e3 (fun z h1 h2=>TK z h2 h1),fun z hz=>?_,fun z h1 h2=>?_⟩
 ·rcases hz with hz|hz
  ·rcases Eg with h1| ⟨y,h1,h2,h3⟩
   ·rw[h1]at hz
    have:=hd z (.inl hz)
    exact⟨this.1,by omega,this.2.2⟩
   ·rw[h1]at hz
    injection hz with hz
    subst hz
    exact⟨by omega,h3,h.hz _ h2⟩
  ·have:=hd z (.inr hz)
   exact⟨this.1,by omega,this.2.2⟩
 ·rcases Eg with h3| ⟨y,h3,h4,h5⟩
  ·exact TK z (by rw[←h3];exact h1) h2
  ·rw[h3]at h1
   injection h1 with h1
   have:=hd z (.inr h2)
   omega
def Si(H0:Hp)(Xn:Nat→Rl)(nn fb tb c:Nat)(C:Nat→Prop)(w:Nw)(lt:Int→Int→Bool)(rows:Int→List Int)(W0:List Int)(g:Int)(Hx:Int→List Int)(k ia ib io:Nat)(pn:Nat→Prop)(H:Hp)(va vb vn vo:Value):Prop:=
 ∃ (a b now out:List Int) (nb fo:Option Nat) (ro:Nat→Rl) (l:List Value) (V:Int→Value) (ch:Int→List Int) (par:Int→Int) (kb:Int→Option Nat),
  oU H0 Xn nn fb tb c C w H ro l V ch par kb va vb a b∧ju (aG w) lt ch par rows (now++(a++(b++(out++W0))))∧nL (aG w) ch g k ia ib io a b now out∧pn now.length∧
  H.own H0.size=some [vb]∧ro H0.size= .no∧HK H vn now nb∧Sl H 1 vo out.length (out.map i64) fo∧(∀z,nb=some z∨fo=some z→H0.size<z∧z<H.size∧ro z= .no)∧(∀z,nb=some z→fo=some z→False)∧(∀z∈W0,ch z=Hx z)
theorem CV(h0:oU H ro nn fb tb c C w H ro l V ch par kb va vb a b)(aO:∀a b,aQ w a b=true→lt a b=true)(f0:ju (aG w) lt ch par rows (a++(b++W0)))(hra:Gc ch a)(Vv:Gc ch b)(hg:∀c,c∈a∨c∈b→aG w c=g):
  af Tryz.prog kJ [ptr fb,.iface 198 (ptr nn),va,vb] H fun v H'=>aw (∃out ro' l' V' dU bF tA vo fo,v= .tuple [vo,.bool true].toArray∧oU H ro nn fb tb c C w H' ro' l' V' dU bF tA (.slice none 0 0) (.slice none 0 0) [] []∧
   Sl H' 1 vo out.length (out.map i64) fo∧(∀z,fo=some z→H.size≤z∧ro' z= .no)∧ju (aG w) lt dU bF rows (out++W0)∧Gc dU out∧(∀c∈out,aG w c=g)∧∀z∈W0,dU z=ch z):=by
 have wY:=h0.cq.DY
 obtain⟨aa,ca,rfl,hca⟩:=h0.ra.cap
 obtain⟨ab,cb,rfl,Gz⟩:=h0.rb.cap
 obtain⟨n1,n2,n3⟩:=aof.1 f0.wn
 have bJ:∀x∈a++(b++W0),(0≤x∧x<w.cs.length)∧par x= -1:=fun x hx=>⟨f0.RX (hm:=aG w) hx,(f0.wm x hx).1⟩
 have hla:=bV n1 fun c hc=>(bJ c (anL _ hc)).1
 have Dc:=bV (aof.1 n2).1 fun c hc=>(bJ c (aoq _ (anL _ hc))).1
 refine Gv ul ⟨rfl,?_⟩
 refine v1 kR.eq_1 ?_
 have e1:ag (fun z=>H.size≤z) H (H.new 24 [.slice ab b.length cb]):=((ag.refl _ _).new _ _:ai H _).mono fun _ _ h=>h.elim
 have bx1:(H.new 24 [.slice ab b.length cb]).own H.size=some [.slice ab b.length cb]:=aB _ _ _
 have z1:(H.new 24 [.slice ab b.length cb]).size=H.size+1:=aq _ _ _
 have h1:=h0.Uf e1 (fun z hz=>⟨hz,h0.hz z hz⟩)
 generalize H.new 24 [.slice ab b.length cb]=H1 at*
 refine(uS h1.m h1.ra.rd (fun x hx=>bJ x (anL _ hx)) hra (by omega)).mono ?_
 rintro _ H' ⟨rfl,e⟩
 obtain rfl:=e.symm
 refine v1 (ae bx1) ?_
 refine(uS h1.m h1.rb.rd (fun x hx=>bJ x (aoq _ (anL _ hx))) Vv (by omega)).mono ?_
 rintro _ H' ⟨rfl,e⟩
 obtain rfl:=e.symm
 refine vs ?_
 refine(zv (H:=H1) iS [ptr H.size] (fun x=>decide (x∈b)) (fun H'=>H'=H1) rfl (fun H' hI=>by rw[hI];exact h1.ra.rd) (by kernel_rfl) (fun H' x hx hI=>?_) (by omega)).mono ?_
 ·rw[hI]
  exact zw bx1 h1.rb.rd (by omega) x
 rintro _ H' ⟨rfl,e⟩
 obtain rfl:=e.symm
 have abq:(a.any fun x=>decide (x∈b))=false:=List.any_eq_false.2 fun x hx=>by
  simp only[anU]
  exact fun hb=>n3 x hx x (anL _ hb) rfl
 rw[abq]
 refine vs ?_
 have i0:nL (aG w) ch g 0 0 0 0 a b [] []:=⟨hra,Vv,List.Pairwise.nil,fun _ _=>ao2 _,fun _ _=>ao2 _,by simp,by simp,fun c hc=>hg c (by simpa using hc)⟩
 have d0:∀z,((none:Option Nat)=some z∨(none:Option Nat)=some z)→H.size<z∧z<H1.size∧ro z= .no:=fun z hz=>by rcases hz with h|h<;>cases h
 have d00:∀z,(none:Option Nat)=some z→(none:Option Nat)=some z→False:=fun z h=>by cases h
 have cz0:Si H ro nn fb tb c C w lt rows W0 g ch 0 0 0 0 (fun n=>n≤1) H1 (.slice aa a.length ca) (.slice ab b.length cb) (.slice none 0 0) (.slice none 0 0):=
  ⟨a,b,[],[],none,none,ro,l,V,ch,par,kb,h1,f0,i0,ao2 _,bx1,h0.hz _ (anG _),HK.nil _ _,Sl.nil _ _,d0,d00,fun _ _=>rfl⟩
 refine bk.intro (fun mm env H'=>∃ (k:Nat) (va vb vn vo:Value),mm=w.cs.length+1 - k∧Si H ro nn fb tb c C w lt rows W0 g ch k k k k (fun n=>n≤1) H' va vb vn vo∧
  env=[(0,ptr fb),(1,.iface 198 (ptr nn)),(2,va),(7,ptr H.size),(10,vo),(11,vn),(12,i64 k)]) _ ⟨0,_,_,_,_,rfl,cz0,rfl⟩ ?_
 clear h1 i0 bx1 f0 hra Vv hg bJ n1 n2 n3 hla Dc abq h0 e1 d0 d00 cz0 hca Gz
 rintro mm env H2 ⟨k,va,vb,vn,vo,rfl,S7,rfl⟩
 obtain⟨a,b,now,out,nb,fo,nU,l2,V2,lq,jm,Dq,h2,f2,i2,P9,ph,Dr,Ep,Ds,jv,qu,Er⟩:=id S7
 obtain⟨aa,ca,rfl,hca⟩:=h2.ra.cap
 obtain⟨ab,cb,rfl,Gz⟩:=h2.rb.cap
 obtain⟨an,cn,rfl,PL⟩:=Ep.cap
 obtain⟨ao,co,rfl⟩:=Sl.shape Ds
 have Nz:=aA ph
 have gk:=f2.wn
 have db:=bV gk fun c hc=>f2.RX (hm:=aG w) hc
 simp only[anD]at db
 refine v1 (ae ph) ?_
 rw[wrap64 (n:=(a.length:Int)+b.length) (by omega) (by omega),wrap64 (n:=(a.length:Int)+b.length+now.length) (by omega) (by omega)]
 refine am.dec (fun Wg=>?_) (fun Wg=>?_)
 rotate_left
 ·refine vs ?_
  have TH:a=[]:=an5.1 (by omega)
  have Q0:b=[]:=an5.1 (by omega)
  have L0:now=[]:=an5.1 (by omega)
  subst TH Q0 L0
  refine⟨out,nU,l2,V2,lq,jm,Dq,_,fo,rfl,h2.afW,Ds,fun z hz=>⟨by have:=jv z (.inr hz);omega,(jv z (.inr hz)).2.2⟩,f2,i2.ro,fun c hc=>i2.hg c (.inr (.inr (.inr hc))),Er⟩
 have aX:∀z,(lq z).length≤w.cs.length:=fun z=>bV (f2.pr.nd z) fun c hc=>h2.m.GA z c hc
 have hk:k≤w.cs.length:=by
  by_cases TH:a=[]
  ·by_cases Q0:b=[]
   ·obtain⟨x,hx⟩:∃x,x∈now:=by
     cases now with
     |nil=>subst TH Q0;simp at Wg
     |cons x r=>exact⟨x,by simp⟩
    have:=i2.kn x hx
    have:=aX x
    omega
   ·obtain⟨x,r,rfl⟩:=aoP Q0
    have:=i2.kb x (by simp)
    have:=aX x
    omega
  ·obtain⟨x,r,rfl⟩:=aoP TH
   have:=i2.ka x (by simp)
   have:=aX x
   omega
 clear Wg aX db gk
 rw[Sj,Tt,V5,V6]
 refine JK (fun e h=>∃va vb vn vo,Si H ro nn fb tb c C w lt rows W0 g ch k (k+1) k k (fun n=>n≤2) h va vb vn vo∧Xo e fb nn H.size va vo vn k) ?_ ?_
 ·refine vs ?_
  refine am.dec (fun ga=>?_) (fun ga=>?_)
  ·obtain⟨x,r,rfl⟩:∃x r,a=x::r:=aoP (fun h=>by rw[h]at ga;simp at ga)
   obtain⟨pb,po,pl,pc,hv,fA,Og,bX,hpc⟩:=h2.ra.head
   injection hv with Dt Dn hv3
   subst Dt hv3
   refine vs ?_
   refine⟨⟨by omega,by omega⟩,?_⟩
   refine v5 fA bX Int.toNat_zero aod Nat.add_zero ?_
   refine(cY h2.m x).mono ?_
   rintro _ H' ⟨rfl,e⟩
   obtain rfl:=e.symm
   refine vs ?_
   refine am.dec (fun gd=>?_) (fun gd=>?_)
   ·refine vs ?_
    refine⟨⟨by omega,by omega⟩,?_⟩
    refine v5 fA bX Int.toNat_zero aod Nat.add_zero ?_
    refine Ep.push x (by omega) fun w' H3 ID Eg Qa e3=>?_
    obtain⟨h3,CW,NA,Gf,CX⟩:=h2.CU ph Ds jv qu e3 Eg
    refine vs ?_
    have uJ:(x::r).length=r.length+1:=anO
    refine⟨⟨by omega,by omega,by omega,by omega⟩,?_⟩
    refine vs ?_
    have fp:now++(x::r++(b++(out++W0)))=now++[x]++(r++(b++(out++W0))):=by simp
    rw[fp]at f2
    exact⟨_,_,_,_,⟨r,b,now++[x],out,ID,fo,nU,l2,V2,lq,jm,Dq,h3.afX (h3.ra.tail _),f2,i2.abg (by omega),by rw[anD,anM];omega,CW,Dr,Qa,NA,Gf,CX,Er⟩,rfl,rfl,rfl,rfl,rfl,rfl,rfl⟩
   ·refine vs ?_
    exact⟨_,_,_,_,⟨x::r,b,now,out,nb,fo,nU,l2,V2,lq,jm,Dq,h2,f2,i2.Vq (fun c hc=>by injection hc with hc;rw[←hc];omega),by omega,ph,Dr,Ep,Ds,jv,qu,Er⟩,rfl,rfl,rfl,rfl,rfl,rfl,rfl⟩
  ·refine vs ?_
   have TH:a=[]:=an5.1 (by omega)
   exact⟨_,_,_,_,⟨a,b,now,out,nb,fo,nU,l2,V2,lq,jm,Dq,h2,f2,i2.Vq (fun c hc=>by rw[TH]at hc;cases hc),by omega,ph,Dr,Ep,Ds,jv,qu,Er⟩,rfl,rfl,rfl,rfl,rfl,rfl,rfl⟩
 clear S7 h2 f2 i2 P9 ph Dr Ep Ds jv qu Er Nz hca Gz PL
 rintro e2 H2 ⟨va,vb,vn,vo,S7,hv⟩
 obtain⟨a,b,now,out,nb,fo,nU,l2,V2,lq,jm,Dq,h2,f2,i2,P9,ph,Dr,Ep,Ds,jv,qu,Er⟩:=id S7
 obtain⟨ab,cb,rfl,Gz⟩:=h2.rb.cap
 obtain⟨an,cn,rfl,PL⟩:=Ep.cap
 have Nz:=aA ph
 obtain⟨HL,Dt,Dn,HM,oV,oW,oX⟩:=hv
 refine JK (fun e h=>∃va vb vn vo,Si H ro nn fb tb c C w lt rows W0 g ch k (k+1) (k+1) k (fun n=>n≤3) h va vb vn vo∧Xo e fb nn H.size va vo vn k) ?_ ?_
 ·refine v8 HL Dt Dn HM oV oW oX (ae ph) ?_
  refine am.dec (fun gb=>?_) (fun gb=>?_)
  ·obtain⟨x,r,rfl⟩:∃x r,b=x::r:=aoP (fun h=>by rw[h]at gb;simp at gb)
   obtain⟨pb,po,pl,pc,hv,fA,Og,bX,hpc⟩:=h2.rb.head
   injection hv with Sk abr Sm
   subst Sk Sm
   refine v8 HL Dt Dn HM oV oW oX (ae ph) ?_
   refine⟨⟨by omega,by omega⟩,?_⟩
   refine v12 fA bX Int.toNat_zero aod Nat.add_zero HL Dt Dn HM oV oW oX ?_
   refine(cY h2.m x).mono ?_
   rintro _ H' ⟨rfl,e⟩
   obtain rfl:=e.symm
   refine v7 HL Dt Dn HM oV oW oX ?_
   have uJ:(x::r).length=r.length+1:=anO
   have fp:(now++(a++(x::r++(out++W0)))).Perm (now++[x]++(a++(r++(out++W0)))):=by
    rw[ao7]
    intro z
    simp only[apj,apg,aoD,List.count_nil]
    omega
   refine am.dec (fun gd=>?_) (fun gd=>?_)
   ·refine vs ?_
    replace f2:=f2.perm fp
    refine jX.intro (fun _=>True) trivial ?_
    refine vs ?_
    refine EB.intro ?_ ?_
    ·refine v6 (ae ph) fA bX Int.toNat_zero aod Nat.add_zero ?_
     refine⟨⟨by omega,by omega⟩,?_⟩
     refine v6 (ae ph) fA bX Int.toNat_zero aod Nat.add_zero ?_
     refine EB.intro ?_ ?_
     ·refine v6 (ae ph) fA bX Int.toNat_zero aod Nat.add_zero ?_
      refine EB.intro ?_ ?_
      ·refine v6 (ae ph) fA bX Int.toNat_zero aod Nat.add_zero ?_
       refine EB.intro ?_ ?_
       ·refine vs ?_
        refine Ep.push x (by omega) fun w' H3 ID Eg Qa e3=>?_
        obtain⟨h3,CW,NA,Gf,CX⟩:=h2.CU ph Ds jv qu e3 Eg
        refine v8 (ae CW) CW fA bX Int.toNat_zero aod Nat.add_zero ant ?_
        refine⟨⟨by omega,by omega,by omega,by omega⟩,?_⟩
        refine v8 (ae CW) CW fA bX Int.toNat_zero aod Nat.add_zero ant ?_
        have e4:∀v,ag (fun z=>z=H.size) H3 (H3.wr H.size [v]):=fun v=>(ag.refl (fun z=>z=H.size) _).wr (fun _=>rfl) _
        have Ug:∀v,(H3.wr H.size [v]).own H.size=some [v]:=fun v=>ah CW
        have h4:=fun v=>h3.Uf (e4 v) (fun z hz=>by rw[hz];exact⟨anG _,Dr⟩)
        exact⟨_,_,_,_,⟨a,r,now++[x],out,ID,fo,nU,l2,V2,lq,jm,Dq,(h4 _).Sh ((h4 _).rb.tail _),f2,i2.LN (by omega),by rw[anD,anM];omega,Ug _,Dr,Qa.ext (e4 _) (fun z hz e=>by have:=Gf z (.inl hz);omega),NA.ext (e4 _) (fun z hz e=>by have:=Gf z (.inr hz);omega),fun z hz=>by rw[ec];exact Gf z hz,CX,Er⟩,rfl,rfl,rfl,rfl,rfl,rfl,rfl⟩
       ·refine v6 (ae ph) fA bX Int.toNat_zero aod Nat.add_zero ?_
        refine⟨⟨by omega,by omega,by omega,by omega⟩,?_⟩
        refine v6 (ae ph) fA bX Int.toNat_zero aod Nat.add_zero ?_
        refine Ep.push x (by omega) fun w' H3 ID Eg Qa e3=>?_
        obtain⟨h3,CW,NA,Gf,CX⟩:=h2.CU ph Ds jv qu e3 Eg
        refine v8 (ae CW) CW fA bX Int.toNat_zero aod Nat.add_zero ant ?_
        have e4:∀v,ag (fun z=>z=H.size) H3 (H3.wr H.size [v]):=fun v=>(ag.refl (fun z=>z=H.size) _).wr (fun _=>rfl) _
        have Ug:∀v,(H3.wr H.size [v]).own H.size=some [v]:=fun v=>ah CW
        have h4:=fun v=>h3.Uf (e4 v) (fun z hz=>by rw[hz];exact⟨anG _,Dr⟩)
        exact⟨_,_,_,_,⟨a,r,now++[x],out,ID,fo,nU,l2,V2,lq,jm,Dq,(h4 _).Sh ((h4 _).rb.tail _),f2,i2.LN (by omega),by rw[anD,anM];omega,Ug _,Dr,Qa.ext (e4 _) (fun z hz e=>by have:=Gf z (.inl hz);omega),NA.ext (e4 _) (fun z hz e=>by have:=Gf z (.inr hz);omega),fun z hz=>by rw[ec];exact Gf z hz,CX,Er⟩,rfl,rfl,rfl,rfl,rfl,rfl,rfl⟩
      ·refine v6 (ae ph) fA bX Int.toNat_zero aod Nat.add_zero ?_
       refine⟨⟨by omega,by omega,by omega,by omega⟩,?_⟩
       refine v6 (ae ph) fA bX Int.toNat_zero aod Nat.add_zero ?_
       refine Ep.push x (by omega) fun w' H3 ID Eg Qa e3=>?_
       obtain⟨h3,CW,NA,Gf,CX⟩:=h2.CU ph Ds jv qu e3 Eg
       refine v8 (ae CW) CW fA bX Int.toNat_zero aod Nat.add_zero ant ?_
       have e4:∀v,ag (fun z=>z=H.size) H3 (H3.wr H.size [v]):=fun v=>(ag.refl (fun z=>z=H.size) _).wr (fun _=>rfl) _
       have Ug:∀v,(H3.wr H.size [v]).own H.size=some [v]:=fun v=>ah CW
       have h4:=fun v=>h3.Uf (e4 v) (fun z hz=>by rw[hz];exact⟨anG _,Dr⟩)
       exact⟨_,_,_,_,⟨a,r,now++[x],out,ID,fo,nU,l2,V2,lq,jm,Dq,(h4 _).Sh ((h4 _).rb.tail _),f2,i2.LN (by omega),by rw[anD,anM];omega,Ug _,Dr,Qa.ext (e4 _) (fun z hz e=>by have:=Gf z (.inl hz);omega),NA.ext (e4 _) (fun z hz e=>by have:=Gf z (.inr hz);omega),fun z hz=>by rw[ec];exact Gf z hz,CX,Er⟩,rfl,rfl,rfl,rfl,rfl,rfl,rfl⟩
     ·refine v6 (ae ph) fA bX Int.toNat_zero aod Nat.add_zero ?_
      refine⟨⟨by omega,by omega,by omega,by omega⟩,?_⟩
      refine v6 (ae ph) fA bX Int.toNat_zero aod Nat.add_zero ?_
      refine Ep.push x (by omega) fun w' H3 ID Eg Qa e3=>?_
      obtain⟨h3,CW,NA,Gf,CX⟩:=h2.CU ph Ds jv qu e3 Eg
      refine v8 (ae CW) CW fA bX Int.toNat_zero aod Nat.add_zero ant ?_
      have e4:∀v,ag (fun z=>z=H.size) H3 (H3.wr H.size [v]):=fun v=>(ag.refl (fun z=>z=H.size) _).wr (fun _=>rfl) _
      have Ug:∀v,(H3.wr H.size [v]).own H.size=some [v]:=fun v=>ah CW
      have h4:=fun v=>h3.Uf (e4 v) (fun z hz=>by rw[hz];exact⟨anG _,Dr⟩)
      exact⟨_,_,_,_,⟨a,r,now++[x],out,ID,fo,nU,l2,V2,lq,jm,Dq,(h4 _).Sh ((h4 _).rb.tail _),f2,i2.LN (by omega),by rw[anD,anM];omega,Ug _,Dr,Qa.ext (e4 _) (fun z hz e=>by have:=Gf z (.inl hz);omega),NA.ext (e4 _) (fun z hz e=>by have:=Gf z (.inr hz);omega),fun z hz=>by rw[ec];exact Gf z hz,CX,Er⟩,rfl,rfl,rfl,rfl,rfl,rfl,rfl⟩
    ·refine v6 (ae ph) fA bX Int.toNat_zero aod Nat.add_zero ?_
     refine⟨⟨by omega,by omega,by omega,by omega⟩,?_⟩
     refine v6 (ae ph) fA bX Int.toNat_zero aod Nat.add_zero ?_
     refine⟨⟨by omega,by omega⟩,?_⟩
     refine v6 (ae ph) fA bX Int.toNat_zero aod Nat.add_zero ?_
     refine Ep.push x (by omega) fun w' H3 ID Eg Qa e3=>?_
     obtain⟨h3,CW,NA,Gf,CX⟩:=h2.CU ph Ds jv qu e3 Eg
     refine v8 (ae CW) CW fA bX Int.toNat_zero aod Nat.add_zero ant ?_
     have e4:∀v,ag (fun z=>z=H.size) H3 (H3.wr H.size [v]):=fun v=>(ag.refl (fun z=>z=H.size) _).wr (fun _=>rfl) _
     have Ug:∀v,(H3.wr H.size [v]).own H.size=some [v]:=fun v=>ah CW
     have h4:=fun v=>h3.Uf (e4 v) (fun z hz=>by rw[hz];exact⟨anG _,Dr⟩)
     exact⟨_,_,_,_,⟨a,r,now++[x],out,ID,fo,nU,l2,V2,lq,jm,Dq,(h4 _).Sh ((h4 _).rb.tail _),f2,i2.LN (by omega),by rw[anD,anM];omega,Ug _,Dr,Qa.ext (e4 _) (fun z hz e=>by have:=Gf z (.inl hz);omega),NA.ext (e4 _) (fun z hz e=>by have:=Gf z (.inr hz);omega),fun z hz=>by rw[ec];exact Gf z hz,CX,Er⟩,rfl,rfl,rfl,rfl,rfl,rfl,rfl⟩
   ·refine vs ?_
    exact⟨_,_,_,_,⟨a,x::r,now,out,nb,fo,nU,l2,V2,lq,jm,Dq,h2,f2,i2.Vr (fun c hc=>by injection hc with hc;rw[←hc];omega),by omega,ph,Dr,Ep,Ds,jv,qu,Er⟩,rfl,rfl,rfl,rfl,rfl,rfl,rfl⟩
  ·refine v7 HL Dt Dn HM oV oW oX ?_
   have Q0:b=[]:=an5.1 (by omega)
   exact⟨_,_,_,_,⟨a,b,now,out,nb,fo,nU,l2,V2,lq,jm,Dq,h2,f2,i2.Vr (fun c hc=>by rw[Q0]at hc;cases hc),by omega,ph,Dr,Ep,Ds,jv,qu,Er⟩,rfl,rfl,rfl,rfl,rfl,rfl,rfl⟩
 clear S7 h2 f2 i2 P9 ph Dr Ep Ds jv qu Er Nz Gz PL HL Dt Dn HM oV oW oX
 rintro e3 H2 ⟨va,vb,vn,vo,S7,hv⟩
 obtain⟨a,b,now,out,nb,fo,nU,l2,V2,lq,jm,Dq,h2,f2,i2,P9,ph,Dr,Ep,Ds,jv,qu,Er⟩:=id S7
 obtain⟨an,cn,rfl,PL⟩:=Ep.cap
 obtain⟨ao,co,rfl⟩:=Sl.shape Ds
 have Nz:=aA ph
 have db:=bV f2.wn fun c hc=>f2.RX (hm:=aG w) hc
 simp only[anD]at db
 obtain⟨HL,Dt,Dn,HM,oV,oW,oX⟩:=hv
 refine JK (fun e h=>∃va vb vn vo,Si H ro nn fb tb c C w lt rows W0 g ch k (k+1) (k+1) (k+1) (fun n=>n=0∨n=2) h va vb vn vo∧Xo e fb nn H.size va vo vn k) ?_ ?_
 ·refine v8 HL Dt Dn HM oV oW oX (ae ph) ?_
  rw[if_neg (by decide:¬ (2:Int)=0),Int.tmod_eq_emod_of_nonneg (by omega)]
  refine v7 HL Dt Dn HM oV oW oX ?_
  refine am.dec (fun gp=>?_) (fun gp=>?_)
  ·obtain⟨x,r,rfl⟩:∃x r,now=x::r:=aoP (fun h=>by rw[h]at gp;simp at gp)
   have uJ:(x::r).length=r.length+1:=anO
   obtain⟨a',c',NU,Kl,ZO⟩:=id Ep
   injection NU with Sk abr Sm
   subst Sk Sm
   obtain⟨pb,po,pl,rfl,Y7,PT,NS,hpt⟩:=ZO.resolve_left (by omega)
   have bX:pl[po]? =some (i64 x):=by
    have h7:((x::r).map i64)[0]? =some (i64 x):=rfl
    rw[←hpt,an9,if_pos (by simp),aob]at h7
    exact h7
   have fA:=ae PT
   refine v7 HL Dt Dn HM oV oW oX ?_
   refine⟨⟨by omega,by omega⟩,?_⟩
   refine v5 fA bX Int.toNat_zero aod Nat.add_zero ?_
   refine RD Ds x (by omega) fun w' H3 RG Qy NA e3=>?_
   have h3:=h2.Uf e3 (fun z hz=>by have:=jv z (.inr hz);exact⟨by omega,this.2.2⟩)
   have CW:=e3.own ph (fun hz=>by have:=jv _ (.inr hz);omega)
   have Qa:=Ep.ext e3 (fun z h1 h2=>qu z h1 h2)
   have Gx:=e3.size
   refine v7 HL Dt Dn HM oV oW oX ?_
   refine⟨⟨by omega,by omega,by omega,by omega⟩,?_⟩
   refine v7 HL Dt Dn HM oV oW oX ?_
   have fp:(x::r++(a++(b++(out++W0)))).Perm (r++(a++(b++(out++[x]++W0)))):=by
    rw[ao7]
    intro z
    simp only[apj,apg,aoD,List.count_nil]
    omega
   have Gf:∀z,nb=some z∨RG=some z→H.size<z∧z<H3.size∧nU z= .no:=fun z hz=>by
    rcases hz with hz|hz
    ·have:=jv z (.inl hz)
     exact⟨this.1,by omega,this.2.2⟩
    ·rcases Qy with h1| ⟨y,h1,Rr,QD⟩
     ·rw[h1]at hz
      have:=jv z (.inr hz)
      exact⟨this.1,by omega,this.2.2⟩
     ·rw[h1]at hz
      injection hz with hz
      subst hz
      exact⟨by omega,QD,h2.hz _ Rr⟩
   have CX:∀z,nb=some z→RG=some z→False:=fun z h1 Rr=>by
    rcases Qy with QD| ⟨y,QD,h4',h5'⟩
    ·exact qu z h1 (by rw[←QD];exact Rr)
    ·rw[QD]at Rr
     injection Rr with Rr
     have:=jv z (.inl h1)
     omega
   exact⟨_,_,_,_,⟨a,b,r,out++[x],nb,RG,nU,l2,V2,lq,jm,Dq,h3,f2.perm fp,i2.afN,by omega,CW,Dr,Qa.tail _,NA,Gf,CX,Er⟩,rfl,rfl,rfl,rfl,rfl,rfl,rfl⟩
  ·refine v7 HL Dt Dn HM oV oW oX ?_
   exact⟨_,_,_,_,⟨a,b,now,out,nb,fo,nU,l2,V2,lq,jm,Dq,h2,f2,⟨i2.ra,i2.rb,i2.ro,i2.ka,i2.kb,i2.kn,fun c hc=>by have:=i2.ko c hc;omega,i2.hg⟩,by omega,ph,Dr,Ep,Ds,jv,qu,Er⟩,rfl,rfl,rfl,rfl,rfl,rfl,rfl⟩
 clear S7 h2 f2 i2 P9 ph Dr Ep Ds jv qu Er Nz PL HL Dt Dn HM oV oW oX db
 rintro e4 H2 ⟨va,vb,vn,vo,S7,hv⟩
 obtain⟨a,b,now,out,nb,fo,nU,l2,V2,lq,jm,Dq,h2,f2,i2,P9,ph,Dr,Ep,Ds,jv,qu,Er⟩:=id S7
 obtain⟨an,cn,rfl,PL⟩:=Ep.cap
 have Nz:=aA ph
 obtain⟨HL,Dt,Dn,HM,oV,oW,oX⟩:=hv
 refine v8 HL Dt Dn HM oV oW oX (ae ph) ?_
 refine am.dec (fun gp=>?_) (fun gp=>?_)
 ·obtain⟨x,y,rfl⟩:∃x y,now=[x,y]:=by
   match now,gp with
   | [x,y],_=>exact⟨x,y,rfl⟩
   | [],gp=>simp at gp
   | [_],gp=>simp at gp
   |_::_::_::_,gp=>simp at gp;omega
  obtain⟨a',c',NU,Kl,ZO⟩:=id Ep
  injection NU with Sk abr Sm
  subst Sk Sm
  have rU:([x,y]:List Int).length=2:=rfl
  obtain⟨pb,po,pl,rfl,Y7,PT,NS,hpt⟩:=ZO.resolve_left (by omega)
  have Xp:pl[po]? =some (i64 x):=by
   have h7:(([x,y]:List Int).map i64)[0]? =some (i64 x):=rfl
   rw[←hpt,an9,if_pos (by simp),aob]at h7
   exact h7
  have Xq:pl[po+1]? =some (i64 y):=by
   have h7:(([x,y]:List Int).map i64)[1]? =some (i64 y):=rfl
   rw[←hpt,an9,if_pos (by simp),aob]at h7
   exact h7
  have fA:=ae PT
  refine v7 HL Dt Dn HM oV oW oX ?_
  refine⟨⟨by omega,by omega⟩,?_⟩
  refine v12 fA Xp Int.toNat_zero aod Nat.add_zero HL Dt Dn HM oV oW oX ?_
  refine⟨⟨by omega,by omega⟩,?_⟩
  refine v11 fA Xq Int.toNat_one Nat.one_mul HL Dt Dn HM oV oW oX ?_
  have Dl:=i2.kn x (by simp)
  have hyn:=i2.kn y (by simp)
  have Om:=i2.hg x (.inr (.inr (.inl (by simp))))
  have hyg:=i2.hg y (.inr (.inr (.inl (by simp))))
  refine(En h2.m h2.hz h2.own h2.cq h2.hC aO (W:=a++(b++(out++W0))) f2 (by omega) (by omega)).mono ?_
  rintro _ H3 ⟨p,q,Qb,l3,V3,Xr,rfl,NP,m3,f3,c3,r3,QB,e3⟩
  have abt:∀z,nU z= .no→¬KC nU z:=fun z h1 h2=>by
   rcases h2 with (h2| ⟨_,h2⟩)|h2<;>(rw[h1]at h2;cases h2)
  have Gx:=e3.size
  obtain⟨rest,ho⟩:=h2.own
  have afZ:¬KC nU nn:=fun h=>by
   have:=h2.hn
   rcases h with (h| ⟨_,h⟩)|h<;>(rw[this]at h;cases h)
  have h3:oU H ro nn fb tb c C w H3 Qb l3 V3 (ay lq p (lq p++[q])) (aI jm q p) Xr va vb a b:=by
   refine⟨m3,c3,fun z hz=>?_,⟨rest,e3.own ho afZ⟩,?_,QB,h2.rk.trans r3 h2.e.size,h2.ra.ext e3 (fun z _ h=>h) (fun z hz h=>r3.kcs hz h),h2.rb.ext e3 (fun z _ h=>h) (fun z hz h=>r3.kcs hz h),?_⟩
   ·have h5:=h2.hC z hz
    rw[r3.o z (h2.cq.slt z hz) (fun x e=>by rw[h5]at e;cases e),h5]
   ·rw[r3.o nn (aA ho) (fun x e=>by rw[h2.hn]at e;cases e),h2.hn]
   ·exact⟨aor h2.e.size e3.size,fun z hz hn=>by
     rw[e3.aM z (anT hz h2.e.size) (fun h=>hn (h2.rk.kcs hz h)),h2.e.aM z hz hn]⟩
  have CW:=e3.own ph (abt _ Dr)
  have NA:=Ds.ext e3 (fun z hz=>abt z (jv z (.inr hz)).2.2)
  have f4:ai H3 (H3.new 3 [i64 p]):=(ag.refl _ _).new _ _
  have f4':ag (fun _=>False) H3 (H3.new 3 [i64 p]):=f4
  have h4:=h3.Uf f4' (fun z hz=>hz.elim)
  have nw4:HK (H3.new 3 [i64 p]) (.slice (some ⟨H3.size,0,none⟩) 1 1) [p] (some H3.size):=HK.lit p
  have Y7:=anN.1 f3.wn
  have vw:p∉a∧p∉b∧p∉out∧p∉W0:=by
   have:=Y7.1
   simp only[anH,not_or]at this
   exact⟨this.1,this.2.1,this.2.2.1,this.2.2.2⟩
  have i4:=i2.abi (p:=p) (q:=q) (anG _) (NP.imp (fun h=>h.1) (fun h=>h.1)) ⟨vw.1,vw.2.1,vw.2.2.1⟩
  have hz4:(H3.new 3 [i64 p]).size=H3.size+1:=aq _ _ _
  have hd4:∀z,some H3.size=some z∨fo=some z→H.size<z∧z< (H3.new 3 [i64 p]).size∧Qb z= .no:=fun z hz=>by
   rcases hz with hz|hz
   ·injection hz with hz
    subst hz
    exact⟨by omega,by omega,QB _ (anG _)⟩
   ·have:=jv z (.inr hz)
    exact⟨this.1,by omega,r3.none this.2.1 this.2.2⟩
  have af0:∀z,some H3.size=some z→fo=some z→False:=fun z h1 Rr=>by
   injection h1 with h1
   have:=jv z (.inr Rr)
   omega
  refine v7 HL Dt Dn HM oV oW oX ?_
  rw[wrap64 (n:=(k:Int)+1) (by omega) (by omega)]
  refine⟨w.cs.length+1 - (k+1),by omega,k+1,va,vb,_,vo,rfl,⟨a,b,[p],out,some H3.size,fo,Qb,l3,V3,_,_,Xr,h4,f3,i4,by simp,f4.own CW (fun h=>h),r3.none Nz Dr,nw4,NA.ext f4 (fun _ _ h=>h),hd4,af0,fun z hz=>?_⟩,rfl⟩
  unfold ay
  rw[if_neg (fun e=>vw.2.2.2 (by rw[←e];exact hz))]
  exact Er z hz
 ·refine v7 HL Dt Dn HM oV oW oX ?_
  have L0:now=[]:=an5.1 (by omega)
  subst L0
  rw[wrap64 (n:=(k:Int)+1) (by omega) (by omega)]
  exact⟨w.cs.length+1 - (k+1),by omega,k+1,va,vb,_,vo,rfl,⟨a,b,[],out,nb,fo,nU,l2,V2,lq,jm,Dq,h2,f2,i2.abh (anG _),by simp,ph,Dr,Ep,Ds,jv,qu,Er⟩,rfl⟩
end
end Go.Proofs.YtjlnnljohemifaaGreat
