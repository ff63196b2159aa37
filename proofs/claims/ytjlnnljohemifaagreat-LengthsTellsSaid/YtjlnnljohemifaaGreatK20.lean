/- Texts put behind each other. -/
import Derived.Test.YtjlnnljohemifaaGreatK98
import Derived.Test.YtjlnnljohemifaaGreatK0
import Derived.Test.YtjlnnljohemifaaGreatK1
import Derived.Test.YtjlnnljohemifaaGreatK9
import Derived.Test.YtjlnnljohemifaaGreatK17
import Derived.Test.YtjlnnljohemifaaGreatK19
set_option linter.unusedVariables false
set_option linter.unusedSimpArgs false
namespace Go.Proofs.YtjlnnljohemifaaGreat
open Go Go.Vc
theorem da.sub{H:Hp}{size n c:Nat}{a:Option Addr}{xs:List Value}(h:da H size (.slice a n c) n xs){lo hi:Nat}(h1:lo≤hi)(h2:hi≤n){b':Option Addr}{c':Nat}(hb:lo<hi→b'=a.map (·.add (lo*size))):
  da H size (.slice b' (hi - lo) c') (hi - lo) ((xs.drop (lo*size)).take ((hi - lo)*size)):=by
 obtain⟨hl,hv⟩:=h
 have e1:(hi - lo)*size=hi*size - lo*size:=Nat.sub_mul _ _ _
 have e2:hi*size≤n*size:=aoW _ h2
 have e3:lo*size≤hi*size:=aoW _ h1
 refine⟨by rw[aot,List.length_drop,hl];omega,?_⟩
 by_cases aR:lo<hi
 ·rcases hv with ⟨hn,_⟩| ⟨b,o,c2,l,hs,kG,vf,ht⟩
  ·omega
  ·right
   injection hs with fE NO Io
   subst fE
   rw[hb aR]
   refine⟨b,o+lo*size,c',l,?_,kG,by omega,?_⟩
   ·simp[Addr.add]
   ·rw[←ht,List.drop_take,apw,apx,apq (by omega)]
 ·left
  exact⟨by omega,b',c',by rw[show hi - lo=0 by omega]⟩
theorem Sv{H:Hp}{a:Option Addr}{n c:Nat}{xs:List Int}(h:da H 1 (.slice a n c) n (xs.map i64)){lo hi:Nat}{lo' hi':Int}(el:lo'=(lo:Int))(eh:hi'=(hi:Int))(h1:lo≤hi)(h2:hi≤n)(h3:n≤c):
  ∃a',Value.slice (if(c:Int)=lo' then a else Option.map (fun x:Addr=>x.add (lo'.toNat*1)) a) (hi'.toNat - lo'.toNat) ((c:Int).toNat - lo'.toNat)= .slice a' (hi - lo) (c - lo)∧
   da H 1 (.slice a' (hi - lo) (c - lo)) (hi - lo) (((xs.drop lo).take (hi - lo)).map i64)∧hi - lo≤c - lo∧((xs.drop lo).take (hi - lo)).length=hi - lo:=by
 subst el;subst eh
 have hl:=h.1
 rw[anW,anD]at hl
 refine⟨_,rfl,?_,by omega,by rw[aot,List.length_drop];omega⟩
 have h4:=da.sub h (lo:=lo) (hi:=hi) h1 h2 (c':=(c:Int).toNat - (lo:Int).toNat) (b':=if(c:Int)=(lo:Int)then a else Option.map (fun x:Addr=>x.add ((lo:Int).toNat*1)) a) (fun aR=>by rw[if_neg (by omega)];rfl)
 simp only[anD]at h4 ⊢
 rw[←List.map_drop,←List.map_take]at h4
 exact h4
theorem CH(l:List Int):gU (l.map i64):=fun v hv=>by
 obtain⟨x,_,rfl⟩:=aou.1 hv
 rfl
theorem EZ{H:Hp}{T B:Nat}{w:Value}{xs:List Int}{fp:Option Nat}{K:Value→Hp→Prop}(jv:∀b,fp=some b→B≤b)(hB:B≤H.size)(s:Sl H 1 w xs.length (xs.map i64) fp)(x:Int)(hl:xs.length≤1000000000000)
  (hk:∀w' H' dv,(∀b,dv=some b→B≤b)→Sl H' 1 w' (xs++[x]).length ((xs++[x]).map i64) dv→ah (fun z=>B≤z) H H'→K w' H'):
  im T 1 8 [i64 0] w (.slice (some ⟨H.size,0,none⟩) 1 1) (H.new T [i64 x]) K:=by
 have fl:aq H (H.new T [i64 x]):=(ah.refl _ _).new _ _
 refine Sl.append (s.ext fl (fun _ _ h=>h)) (Sl.dw (size:=1) (n:=1) (xs:=[i64 x]) rfl rfl).rd rfl (CH [x]) (by omega) ?_
 intro v' H' dv s' e' Nk
 refine hk v' H' dv (fun b hb=>?_) (by rw[anL,aos];exact s') ⟨aok fl.size e'.size,fun z hz hn=>?_⟩
 ·rcases Nk with h| ⟨b',rR,h1,h2⟩
  ·exact jv b (by rw[←h];exact hb)
  ·rw[hb]at rR;injection rR with rR;have:=fl.size;omega
 ·rw[e'.aP z (an3 hz fl.size) (fun h=>hn (jv z h)),fl.aP z hz (fun h=>h)]
theorem aaM{H:Hp}{T B b:Nat}{w:Value}{xs:List Int}{K:Value→Hp→Prop}(hb:B≤b)(hB:B≤H.size)(s:Sl H 1 w xs.length (xs.map i64) (some b))(x:Int)(hl:xs.length≤1000000000000)
  (hk:∀w' H' b',B≤b'→Sl H' 1 w' (xs++[x]).length ((xs++[x]).map i64) (some b')→ah (fun z=>B≤z) H H'→K w' H'):
  im T 1 8 [i64 0] w (.slice (some ⟨H.size,0,none⟩) 1 1) (H.new T [i64 x]) K:=by
 refine EZ (fun b' h=>by injection h with h;omega) hB s x hl fun w' H' dv hf s' e'=>?_
 cases dv with
 |none=>
  obtain⟨_,h0,_⟩:=s'
  simp at h0
 |some b'=>exact hk w' H' b' (hf b' rfl) s' e'
theorem Sw{H:Hp}{T b:Nat}{w:Value}{xs:List Int}{K:Value→Hp→Prop}(s:Sl H 1 w xs.length (xs.map i64) (some b))(x:Int)(hl:xs.length≤1000000000000)
  (hk:∀w' H' b',(b'=b∨H.size≤b')→Sl H' 1 w' (xs++[x]).length ((xs++[x]).map i64) (some b')→ah (fun z=>z=b) H H'→K w' H'):
  im T 1 8 [i64 0] w (.slice (some ⟨H.size,0,none⟩) 1 1) (H.new T [i64 x]) K:=by
 have fl:aq H (H.new T [i64 x]):=(ah.refl _ _).new _ _
 refine Sl.append (s.ext fl (fun _ _ h=>h)) (Sl.dw (size:=1) (n:=1) (xs:=[i64 x]) rfl rfl).rd rfl (CH [x]) (by omega) ?_
 intro v' H' dv s' e' Nk
 have e2:ah (fun z=>z=b) H H':=⟨aok fl.size e'.size,fun z hz hn=>by
  rw[e'.aP z (an3 hz fl.size) (fun h=>hn (by injection h with h;exact h.symm)),fl.aP z hz (fun h=>h)]⟩
 have s2:Sl H' 1 v' (xs++[x]).length ((xs++[x]).map i64) dv:=by rw[anL,aos];exact s'
 rcases Nk with rfl| ⟨b',rfl,h1,h2⟩
 ·exact hk v' H' b (.inl rfl) s2 e2
 ·rw[ar]at h1
  exact hk v' H' b' (.inr (by omega)) s2 e2
theorem Sl.num{H:Hp}{a:Option Addr}{n c:Nat}{xs:List Int}{b:Nat}(h:Sl H 1 (.slice a n c) n (xs.map i64) (some b)){i:Nat}{x:Int}(hx:xs[i]? =some x):
  i<n∧a=some ⟨b,0,none⟩∧∃lb,H.own b=some lb∧lb[i]? =some (i64 x):=by
 have hl:=h.1
 rw[anW,anD]at hl
 have hi:=(anA.1 hx).1
 obtain⟨_,l,c2,hs,ho,hc,vf,ht⟩:=h
 injection hs with fE NO Io
 refine⟨by omega,fE,l,ho,?_⟩
 have h7:(xs.map i64)[i]? =some (i64 x):=by rw[anT,hx];rfl
 rw[←ht,aob,if_pos (by omega)]at h7
 exact h7
def mW(t:Int×Value):List Value:=[i64 t.1,t.2]
def cH(l:List (Int×Value)):List Value:=l.flatMap mW
theorem uJ(t:Int×Value)(l:List (Int×Value)):cH (t::l)=mW t++cH l:=rfl
theorem JN(a b:List (Int×Value)):cH (a++b)=cH a++cH b:=List.flatMap_append ..
theorem Qu(l:List (Int×Value)):(cH l).length=l.length*2:=by
 induction l with
 |nil=>rfl
 |cons r rs ih=>rw[uJ,anL,ih,anY];show 2+_=_;omega
theorem GX:∀ (rs:List (Int×Value)) (i:Nat),(cH rs).drop (i*2)=cH (rs.drop i):=by
 intro rs
 induction rs with
 |nil=>intro i;simp[cH]
 |cons x rs ih=>
  intro i
  cases i with
  |zero=>rfl
  |succ i=>
   rw[uJ,show(i+1)*2=2+i*2 by omega,←apw,List.drop_left' (by rfl)]
   exact ih i
theorem GY:∀ (rs:List (Int×Value)) (i:Nat),(cH rs).take (i*2)=cH (rs.take i):=by
 intro rs
 induction rs with
 |nil=>intro i;simp[cH]
 |cons x rs ih=>
  intro i
  cases i with
  |zero=>simp[cH]
  |succ i=>
   have key:∀ (p q:Value) (l:List Value) (n:Nat),(p::q::l).take (2+n)=p::q::l.take n:=fun p q l n=>by rw[show 2+n=n+1+1 by omega];rfl
   rw[uJ,List.take_succ_cons,uJ,show(i+1)*2=2+i*2 by omega,←ih i]
   exact key _ _ _ _
theorem Sx(rs:List (Int×Value))(i:Nat)(r:Int×Value)(h:rs[i]? =some r):((cH rs).drop (i*2)).take 2=mW r:=by
 have h1:=(anA.1 h)
 obtain⟨hi,h1⟩:=h1
 rw[GX,show(2:Nat)=1*2 by rfl,GY,aoK hi,h1]
 rfl
theorem NV{l:List (Int×Value)}(h:∀t∈l,∃a n c,t.2= .slice a n c):gU (cH l):=fun v hv=>by
 obtain⟨r,hr,h1⟩:=List.mem_flatMap.1 hv
 simp only[mW,anN,apz,or_false]at h1
 rcases h1 with rfl|rfl
 ·rfl
 ·obtain⟨a,n,c,e⟩:=h r hr
  rw[e];rfl
theorem da.UI{H:Hp}{a:Option Addr}{n c:Nat}{rs:List (Int×Value)}(h:da H 2 (.slice a n c) n (cH rs)){i:Nat}{r:Int×Value}(hx:rs[i]? =some r):
  i<n∧∃b o lb,a=some ⟨b,o,none⟩∧H.rd b=some lb∧o+i*2+2≤lb.length∧(lb.drop (o+i*2)).take 2=mW r∧lb[o+i*2]? =some (i64 r.1)∧lb[o+i*2+1]? =some r.2:=by
 obtain⟨hl,hv⟩:=h
 rw[Qu]at hl
 have hi:i<rs.length:=by
  rcases aoN i rs.length with h|h
  ·exact h
  ·rw[anP h]at hx;cases hx
 refine⟨by omega,?_⟩
 rcases hv with ⟨hn,_⟩| ⟨b,o,c2,l,hs,kG,vf,ht⟩
 ·omega
 ·injection hs with fE NO Io
  have h5:(l.drop (o+i*2)).take 2=mW r:=by
   have h7:=Sx rs i r hx
   rw[←ht,List.drop_take,apx,apw,apq (by omega)]at h7
   exact h7
  have key:∀k v,(mW r)[k]? =some v→l[o+i*2+k]? =some v:=fun k v hv=>by
   rw[←h5,aob]at hv
   split at hv
   ·rw[aoc]at hv;exact hv
   ·cases hv
  exact⟨b,o,l,fE,kG,by omega,h5,by simpa using key 0 _ rfl,by simpa using key 1 _ rfl⟩
theorem VY{H:Hp}{a:Option Addr}{n c:Nat}{xs:List (Int×Value)}(h:da H 2 (.slice a n c) n (cH xs)){lo hi:Nat}(h1:lo≤hi)(h2:hi≤n){b':Option Addr}{c':Nat}(hb:lo<hi→b'=a.map (·.add (lo*2))):
  da H 2 (.slice b' (hi - lo) c') (hi - lo) (cH ((xs.drop lo).take (hi - lo))):=by
 have h4:=da.sub h (lo:=lo) (hi:=hi) h1 h2 (c':=c') hb
 rw[GX,GY]at h4
 exact h4
def D5(H:Hp)(S:Nat→Prop)(u:Int×Value)(t:Int×List Int):Prop:=
 u.1=t.1∧∃a c,u.2= .slice a t.2.length c∧da H 1 (.slice a t.2.length c) t.2.length (t.2.map i64)∧t.2.length≤c∧∀x,a=some x→x.block<H.size∧¬S x.block
theorem da.Pu{H H':Hp}{size n c:Nat}{a:Option Addr}{xs:List Value}{S:Nat→Prop}(h:da H size (.slice a n c) n xs)(e:ah S H H')(hs:∀x,a=some x→¬S x.block):da H' size (.slice a n c) n xs:=by
 obtain⟨hl,hv⟩:=h
 refine⟨hl,?_⟩
 rcases hv with h| ⟨b,o,c2,l,Gf,kG,vf,ht⟩
 ·exact .inl h
 ·right
  injection Gf with h1 h2 h3
  exact⟨b,o,c2,l,by rw[h1,h3],e.rd kG (hs ⟨b,o,none⟩ h1),vf,ht⟩
theorem D5.ext{H H':Hp}{S S' E:Nat→Prop}{u:Int×Value}{t:Int×List Int}(h:D5 H S u t)(e:ah E H H')(he:∀z,z<H.size→E z→S z)(hs:∀z,z<H.size→S' z→S z):D5 H' S' u t:=by
 obtain⟨h1,a,c,h2,h3,h4,h5⟩:=h
 refine⟨h1,a,c,h2,da.Pu h3 e (fun x hx hh=>(h5 x hx).2 (he _ (h5 x hx).1 hh)),h4,fun x hx=>⟨an3 (h5 x hx).1 e.size,fun hh=>(h5 x hx).2 (hs _ (h5 x hx).1 hh)⟩⟩
def WZ(us:List (Int×Value)):Prop:=∀u∈us,∃a n c,u.2=Value.slice a n c
set_option maxHeartbeats 1000000 in
theorem pB{H:Hp}{a:Option Addr}{c:Nat}{us:List (Int×Value)}(h:da H 2 (.slice a us.length c) us.length (cH us))(hs:WZ us)(hm:us.length≤1000000)(h0:0<us.length):
  ai Tryz.prog Dx [.slice a us.length c] H fun v H'=>ay (∃p:Nat,v=i64 p∧IsL (us.map (·.1)) p∧aq H H'):=by
 refine ba DJ ⟨rfl,?_⟩
 refine v1 mI.eq_1 ?_
 refine bA.intro (fun m env H'=>aq H H'∧∃ (j p:Nat),m=us.length - j∧j≤us.length∧p<us.length∧(p<j∨(p=0∧j=0))∧(∀ (k:Nat) (x y:Int),k<j→(us.map (·.1))[k]? =some x→(us.map (·.1))[p]? =some y→y≤x∧(k<p→y<x))∧
  env=[(0,.slice a us.length c),(3,i64 p),(6,.slice a us.length c),(7,i64 us.length),(8,i64 j)]) us.length ⟨ah.refl _ _,0,0,by omega,by omega,h0,.inr ⟨rfl,rfl⟩,(fun k x y hk=>by omega),rfl⟩ ?_
 rintro m env H1 ⟨f1,j,p,rfl,hj,hp,Pv,vf,rfl⟩
 refine vs ?_
 refine am.dec (fun aR=>?_) (fun aR=>?_)<;>refine vs ?_
 ·have jk:j<us.length:=by omega
  obtain⟨r,hr⟩:∃r,us[j]? =some r:=⟨_,anx jk⟩
  obtain⟨q,hq⟩:∃q,us[p]? =some q:=⟨_,anx hp⟩
  obtain⟨_,b,o,lb,rfl,kG,hln,Bh,Cz,yz⟩:=da.UI (h.fresh f1) hr
  obtain⟨a2,n2,c2,zP⟩:=hs r (anG hr)
  have VR:mW r=[i64 r.1,.slice a2 n2 c2]:=by unfold mW;rw[zP]
  rw[VR]at Bh
  refine⟨⟨by omega,by omega⟩,?_⟩
  refine v3 kG Int.toNat_natCast Bh ?_
  refine⟨by omega,?_⟩
  have q2:=aE H1 88 [i64 0,.slice none 0 0]
  refine v2 Bh q2 ?_
  have q3:=aj (l:=[i64 r.1,.slice a2 n2 c2]) q2
  have f3:aq H1 ((H1.new 88 [i64 0,.slice none 0 0]).wr H1.size [i64 r.1,.slice a2 n2 c2]):=((ah.refl _ _).new _ _:aq H1 _).then ((ah.refl (fun z=>z=H1.size) _).wr (fun _=>rfl) _) (fun z hz=>by omega)
  generalize (H1.new 88 [i64 0,.slice none 0 0]).wr H1.size [i64 r.1,.slice a2 n2 c2]=H3 at*
  refine v1 (ae q3) ?_
  obtain⟨_,b',o',UJ,ye,NW,ajg,_,hd1,_⟩:=da.UI ((h.fresh f1).fresh f3) hq
  injection ye with ye
  injection ye with hb hoo
  subst hb hoo
  refine⟨⟨by omega,by omega⟩,?_⟩
  refine v4 NW Int.toNat_natCast Nat.add_zero hd1 ?_
  have vu:=R2 (ws:=us.map (·.1)) (j:=j) (b:=p) (x:=r.1) (y:=q.1) (by rw[anT,hr];rfl) (by rw[anT,hq];rfl)
  have hyq:(us.map (·.1))[p]? =some q.1:=by rw[anT,hq];rfl
  have T3:(us.map (·.1))[j]? =some r.1:=by rw[anT,hr];rfl
  refine am.dec (fun g=>?_) (fun g=>?_)<;>refine vs ?_
  ·rw[wrap64 (n:=(j:Int)+1) (by omega) (by omega)]
   refine⟨us.length - (j+1),by omega,f1.trans f3,j+1,j,rfl,by omega,jk,by omega,fun k x y hk hx hy=>?_,rfl⟩
   rw[T3]at hy
   injection hy with hy
   subst hy
   rcases Pv with Pv| ⟨e1,e2⟩
   ·exact(vu Pv (fun k z hk hz=>vf k z q.1 hk hz hyq)).1 g k x hk hx
   ·have:k=j:=by omega
    rw[this,T3]at hx
    injection hx with hx
    omega
  ·rw[wrap64 (n:=(j:Int)+1) (by omega) (by omega)]
   refine⟨us.length - (j+1),by omega,f1.trans f3,j+1,p,rfl,by omega,hp,by omega,fun k x y hk hx hy=>?_,rfl⟩
   rw[hyq]at hy
   injection hy with hy
   subst hy
   rcases Pv with Pv| ⟨e1,e2⟩
   ·exact(vu Pv (fun k z hk hz=>vf k z q.1 hk hz hyq)).2 g k x hk hx
   ·have:k=p:=by omega
    rw[this,hyq]at hx
    injection hx with hx
    omega
 ·have jk:j=us.length:=by omega
  subst jk
  refine⟨p,rfl,⟨by rw[anW];exact hp,fun k x y hx hy=>vf k x y ?_ hx hy⟩,f1⟩
  have:=(anA.1 hx).1
  rwa[anW]at this
theorem Mc{α:Type}(l:List α)(i:Nat):l.eraseIdx i=l.take i++l.drop (i+1):=List.eraseIdx_eq_take_drop_succ l i
set_option maxHeartbeats 1000000 in
theorem qw{H:Hp}{a:Option Addr}{c:Nat}{us:List (Int×Value)}(h:da H 2 (.slice a us.length c) us.length (cH us))(hc:us.length≤c)(hs:WZ us)(hm:us.length≤1000000){i:Nat}(hi:i<us.length):
  ai Tryz.prog Fm [.slice a us.length c,i64 i] H fun v H'=>ay (aq H H'∧∃fp,Sl H' 2 v (us.eraseIdx i).length (cH (us.eraseIdx i)) fp∧∀b,fp=some b→H.size≤b):=by
 refine ba Fw ⟨rfl,?_⟩
 refine v1 oB.eq_1 ?_
 have f1:aq H (H.new 88 []):=(ah.refl _ _).new _ _
 have s1:Sl (H.new 88 []) 2 (.slice (some ⟨H.size,0,none⟩) 0 0) 0 (cH []) (some H.size):=Sl.lit H _ 2 0 [] rfl
 have z1:(H.new 88 []).size=H.size+1:=ar _ _ _
 generalize H.new 88 []=H1 at*
 generalize Value.slice (some ⟨H.size,0,none⟩) 0 0=lv0 at*
 refine⟨⟨by omega,by omega,by omega,by omega⟩,?_⟩
 refine vs ?_
 have r1:=VY (h.fresh f1) (lo:=0) (hi:=i) (by omega) (by omega) (b':=if(c:Int)=0 then a else Option.map (fun x:Addr=>x.add ((0:Int).toNat*2)) a) (c':=(c:Int).toNat - (0:Int).toNat) (fun aR=>by rw[if_neg (by omega)];rfl)
 rw[apI]at r1
 refine Sl.append s1 (m:=i) (ys:=cH (us.take i)) ?_ rfl (NV fun t ht=>hs t (apM ht)) (by omega) fun v2 H2 Qv s2 e2 hf2=>?_
 ·exact r1
 have re:∀b,Qv=some b→H.size≤b:=fun b hb=>by
  rcases hf2 with rfl| ⟨b',rfl,h1,_⟩
  ·injection hb with hb;omega
  ·injection hb with hb;omega
 have g2:aq H H2:=f1.then e2 (fun z hz=>by injection hz with hz;omega)
 refine vs ?_
 rw[wrap64 (n:=(i:Int)+1) (by omega) (by omega)]
 refine⟨⟨by omega,by omega,by omega,by omega⟩,?_⟩
 refine vs ?_
 have r2:=VY (h.fresh g2) (lo:=i+1) (hi:=us.length) (by omega) (by omega) (b':=if(c:Int)=(i:Int)+1 then a else Option.map (fun x:Addr=>x.add (((i:Int)+1).toNat*2)) a) (c':=(c:Int).toNat - ((i:Int)+1).toNat) (fun aR=>by rw[if_neg (by omega)];rfl)
 refine Sl.append s2 (m:=us.length - (i+1)) (ys:=cH ((us.drop (i+1)).take (us.length - (i+1)))) ?_ rfl (NV fun t ht=>hs t (List.mem_of_mem_drop (apM ht))) (by omega) fun v3 H3 fp3 s3 e3 hf3=>?_
 ·exact r2
 refine vs ?_
 have hl:0+i+(us.length - (i+1))=(us.eraseIdx i).length:=by rw[apc,if_pos hi];omega
 have hx:cH []++cH (us.take i)++cH ((us.drop (i+1)).take (us.length - (i+1)))=cH (us.eraseIdx i):=by
  rw[apG (l:=us.drop (i+1)) (by rw[List.length_drop];omega),Mc,JN]
  rfl
 rw[hl,hx]at s3
 refine⟨g2.then e3 (fun z hz=>re z hz),fp3,s3,fun b hb=>?_⟩
 rcases hf3 with rfl| ⟨b',rfl,h1,_⟩
 ·exact re b hb
 ·injection hb with hb
  have:=g2.size
  omega
theorem da.get{H:Hp}{size n:Nat}{v:Value}{xs:List Value}(h:da H size v n xs){i j:Nat}{x:Value}(hj:j<size)(hx:xs[i*size+j]? =some x):
  ∃b o c l,v= .slice (some ⟨b,o,none⟩) n c∧H.rd b=some l∧i<n∧l[o+i*size+j]? =some x:=by
 obtain⟨hl,⟨rfl,a,c,rfl⟩| ⟨b,o,c,l,rfl,h2,h3,h4⟩⟩:=h
 ·rw[anP (by omega)]at hx;cases hx
 ·have aR:i*size+j<n*size:=by
   have:=(anA.1 hx).1;omega
  refine⟨b,o,c,l,rfl,h2,?_,?_⟩
  ·rcases aoN i n with h|h
   ·exact h
   ·have:=aoW size h;omega
  ·rw[←h4,an9 aR,aoc]at hx
   rw[←hx];congr 1;omega
def CI(a b:Int):Int:=if a<b then -1 else if b<a then 1 else 0
theorem nL(a:Int)(H:Hp):ai Tryz.prog BY [i64 a] H fun v H'=>ay (v= .bool false∧H=H'):=by
 refine ba Ch ⟨rfl,?_⟩
 refine v2 lq.eq_1 anZ ?_
 exact⟨rfl,rfl⟩
theorem mE(a:Int)(H:Hp):ai Tryz.prog Ak [u64 a] H fun v H'=>ay (v= .bool false∧H=H'):=by
 refine ba AH ⟨rfl,?_⟩
 refine v2 jI.eq_1 anZ ?_
 exact⟨rfl,rfl⟩
theorem uK(a b:Int)(H:Hp):ai Tryz.prog yC [i64 a,i64 b] H fun v H'=>ay (v=i64 (CI a b)∧H=H'):=by
 refine ba yV ⟨rfl,?_⟩
 refine v1 iA.eq_1 ?_
 refine(nL a H).mono ?_
 rintro _ _ ⟨rfl,rfl⟩
 refine vs ?_
 refine(nL b H).mono ?_
 rintro _ _ ⟨rfl,rfl⟩
 refine vs ?_
 refine am.dec (fun h=>?_) (fun h=>?_)<;>refine vs ?_
 ·exact⟨an4 i64 (by simp[CI,h]),rfl⟩
 ·refine am.dec (fun h2=>?_) (fun h2=>?_)<;>refine vs ?_
  ·exact⟨an4 i64 (by simp[CI,h,show b<a from h2]),rfl⟩
  ·exact⟨an4 i64 (by simp[CI,h,show¬b<a from h2]),rfl⟩
theorem tq(a b:Int)(H:Hp):ai Tryz.prog wK [u64 a,u64 b] H fun v H'=>ay (v=i64 (CI a b)∧H=H'):=by
 refine ba wV ⟨rfl,?_⟩
 refine v1 gF.eq_1 ?_
 refine(mE a H).mono ?_
 rintro _ _ ⟨rfl,rfl⟩
 refine vs ?_
 refine(mE b H).mono ?_
 rintro _ _ ⟨rfl,rfl⟩
 refine vs ?_
 refine am.dec (fun h=>?_) (fun h=>?_)<;>refine vs ?_
 ·exact⟨an4 i64 (by simp[CI,h]),rfl⟩
 ·refine am.dec (fun h2=>?_) (fun h2=>?_)<;>refine vs ?_
  ·exact⟨an4 i64 (by simp[CI,h,show b<a from h2]),rfl⟩
  ·exact⟨an4 i64 (by simp[CI,h,show¬b<a from h2]),rfl⟩
def Zb(xs:List Int):Int:=(xs.find? fun x=>x≠0).getD 0
theorem FK{H:Hp}{v:Value}{n:Nat}{xs:List Int}(h:da H 1 v n (xs.map i64))(hn:n≤1000000)(hs:∃a c,v= .slice a n c):
  ai Tryz.prog Kh [v] H fun r H'=>ay (r=i64 (Zb xs)∧H=H'):=by
 obtain⟨a,c,rfl⟩:=hs
 have bv:xs.length=n:=by have:=h.1;simpa using this
 refine ba Ko ⟨rfl,?_⟩
 refine v1 uf.eq_1 ?_
 refine bA.intro (fun m env H1=>∃k:Nat,env=[(3,i64 0),(6,.slice a n c),(7,i64 n),(8,i64 k)]∧H1=H∧k≤n∧m=n - k∧∀j,j<k→xs[j]? =some 0) n ⟨0,rfl,rfl,by omega,by omega,fun j hj=>by omega⟩ ?_
 rintro m env H1 ⟨k,rfl,rfl,hk,rfl,hz⟩
 refine vs ?_
 refine am.dec (fun aR=>?_) (fun aR=>?_)<;>refine vs ?_
 ·have hkn:k<xs.length:=by omega
  obtain⟨b,o,c',l,hv,hr,_,hg⟩:=da.get h (i:=k) (j:=0) (x:=i64 xs[k]) (by omega) (by simp[hkn])
  injection hv with e1 e2 e3
  subst e1
  refine⟨by omega,?_⟩
  simp only[anD,Nat.add_zero]at hg
  refine v4 hr Int.toNat_natCast anD hg ?_
  refine am.dec (fun h0=>?_) (fun h0=>?_)<;>refine vs ?_
  ·rw[wrap64 (by omega) (by omega)]
   refine⟨n - (k+1),by omega,k+1,rfl,trivial,by omega,rfl,fun j hj=>?_⟩
   by_cases e:j=k
   ·subst e;rw[anx hkn,h0]
   ·exact hz j (by omega)
  ·refine⟨an4 i64 ?_,rfl⟩
   unfold Zb
   have:xs.find? (fun x=>x≠0)=some xs[k]:=by
    rw[List.find?_eq_some_iff_getElem]
    refine⟨by simpa using h0,k,hkn,rfl,fun j hj=>?_⟩
    have:=hz j hj
    rw[anx (by omega)]at this
    injection this with this
    simp[this]
   rw[this];rfl
 ·refine⟨an4 i64 ?_,rfl⟩
  unfold Zb
  have:xs.find? (fun x=>x≠0)=none:=by
   rw[List.find?_eq_none]
   intro x hx
   obtain⟨j,hj,rfl⟩:=apu.1 hx
   have:=hz j (by omega)
   rw[anx hj]at this
   injection this with this
   simp[this]
  rw[this];rfl
def Md(k s k' s':Int):Int:=Zb [CI k k',CI s s']
def gW(k s k' s':Int):Prop:=k<k'∨k=k'∧s<s'
instance(k s k' s':Int):Decidable (gW k s k' s'):=by unfold gW;infer_instance
theorem Me(k s k' s':Int):Md k s k' s'<0↔gW k s k' s':=by
 unfold Md gW Zb CI
 by_cases h1:k<k'
 ·simp[h1]
 ·by_cases h2:k'<k
  ·simp[h1,h2];omega
  ·by_cases h3:s<s'
   ·simp[h1,h2,h3];omega
   ·by_cases h4:s'<s
    ·simp[h1,h2,h3,h4]
    ·simp[h1,h2,h3,h4]
theorem qz(k s k' s':Int)(H:Hp):ai Tryz.prog Fq [wq k s,wq k' s'] H fun v H'=>ay (v=i64 (Md k s k' s')∧aq H H'):=by
 refine ba FA ⟨rfl,?_⟩
 refine v1 oE.eq_1 ?_
 refine⟨_,(uK k k' _).mono fun _ _ h=>⟨h.out.1,h.out.2.symm⟩,?_⟩
 refine(tq s s' _).mono ?_
 rintro _ _ ⟨rfl,rfl⟩
 refine vs ?_
 refine(FK (n:=2) (xs:=[CI k k',CI s s']) (Sl.dw (size:=1) rfl (by simp only[ar])).rd (by omega) ⟨_,_,rfl⟩).mono ?_
 rintro _ _ ⟨rfl,rfl⟩
 exact⟨rfl,(((ah.refl _ _).new _ _).new _ _).new _ _⟩
theorem FL(k s k' s':Int)(H:Hp):ai Tryz.prog Ki [wq k s,wq k' s'] H fun v H'=>ay (v= .bool (decide (gW k s k' s'))∧aq H H'):=by
 refine ba Kp ⟨rfl,?_⟩
 refine v1 ui.eq_1 ?_
 refine(qz k s k' s' _).mono ?_
 rintro _ _ ⟨rfl,hf⟩
 refine vs ?_
 refine⟨an4 Value.bool (by rw[decide_eq_decide];exact Me _ _ _ _),?_⟩
 exact(((ah.refl _ _).new _ _).new _ _).trans hf
def gX(m n:Int):Int:=if n≤0 then m else if n>4611686018427387904 - m then 4611686018427387904 else m+n
theorem D6{H:Hp}{b:Nat}{m:Int}{r:List Value}(h:H.own b=some (i64 m::r))(hm:0≤m∧m≤4611686018427387904)(n:Int)(hn:n≤4611686018427387904):
  ai Tryz.prog yH [ptr b,i64 n] H fun v H'=>ay (v= .tuple [].toArray∧H'=H.wr b (i64 (gX m n)::r)∨v= .tuple [].toArray∧H'=H∧gX m n=m):=by
 refine ba zg ⟨rfl,?_⟩
 refine v1 iK.eq_1 ?_
 refine am.dec (fun h0=>?_) (fun h0=>?_)<;>refine v1 (ae h) ?_
 ·exact .inr ⟨rfl,rfl,by simp[gX,h0]⟩
 ·rw[wrap64 (by omega) (by omega)]
  refine am.dec (fun h1=>?_) (fun h1=>?_)<;>refine v2 (ae h) h ?_
  ·exact .inl ⟨rfl,by rw[gX,if_neg h0,if_pos h1]⟩
  ·exact .inl ⟨rfl,by rw[gX,if_neg h0,if_neg h1,wrap64 (by omega) (by omega)]⟩
abbrev Ce:=Int×Int×Int
def cI(cs:List Ce):List Value:=cs.flatMap fun c=>[i64 c.1,i64 c.2.1,u64 c.2.2]
theorem lR(cs:List Ce):(cI cs).length=cs.length*3:=by
 induction cs with
 |nil=>rfl
 |cons c r ih=>simp only[cI,aps,anL,anY,aoF]at*;omega
theorem Qw(n:Nat):cI (List.replicate n (0,0,0))=cN [.int .i64 0,.int .i64 0,.int .u64 0] n:=by
 simp[cI,cN,List.flatMap_def,apT]
theorem fz.lt2{H:Hp}{b s len:Nat}{rt:Nat→Nat}{gT:Int}(h:fz H b s len rt gT):s<H.size:=by
 obtain⟨⟨sv,cG,Qj,a1,a2,a3⟩,_⟩:=h
 exact a2.lt
structure bJ(H:Hp)(c:Nat)(S:Nat→Prop)(st:Int)(cs:List Ce)(len:Nat)(rt:Nat→Nat)(aX:Int→Option Int):Prop where
 rep:∃fb nb ns mb,H.own c=some [i64 st,.slice (some ⟨fb,0,none⟩) cs.length cs.length,ptr nb,.map (some mb)]∧H.own fb=some (cI cs)∧fz H nb ns len rt 65536∧oJ H mb (fun i=>(aX i).map i64)∧
  (S c∧S fb∧S nb∧S ns∧S mb)∧(c≠fb∧c≠nb∧c≠ns∧c≠mb)∧(fb≠nb∧fb≠ns∧fb≠mb)∧(nb≠mb∧ns≠mb)
 st0:0≤st
 W1:st≤4611686018427387904
 FM:cs.length≤65536
 slt:∀x,S x→x<H.size
theorem bJ.ext{H H':Hp}{c:Nat}{S T:Nat→Prop}{st:Int}{cs:List Ce}{len:Nat}{rt:Nat→Nat}{aX:Int→Option Int}(h:bJ H c S st cs len rt aX)
  (e:ah T H H')(hd:∀x,S x→¬T x):bJ H' c S st cs len rt aX:=by
 obtain⟨⟨fb,nb,ns,mb,a1,a2,a3,a4,⟨s1,s2,s3,s4,s5⟩,a6,a7⟩,h2,h3,h4,h5⟩:=h
 exact⟨⟨fb,nb,ns,mb,e.own a1 (hd _ s1),e.own a2 (hd _ s2),a3.ext e (hd _ s3) (hd _ s4),a4.ext e (hd _ s5),⟨s1,s2,s3,s4,s5⟩,a6,a7⟩,h2,h3,h4,fun x hx=>an3 (h5 x hx) e.size⟩
theorem GZ(cap:Int)(H:Hp):ai Tryz.prog wL [i64 cap] H fun v H'=>ay (
  aq H H'∧((¬ (0≤cap∧cap≤65536)∧v= .tuple [.pointer none,i64 31].toArray)∨
   (0≤cap∧cap≤65536)∧∃c S,v= .tuple [ptr c,i64 0].toArray∧bJ H' c S 0 (List.replicate cap.toNat (0,0,0)) 1 id (fun _=>none)∧(∀x,S x→H.size≤x))):=by
 refine ba LP ⟨rfl,?_⟩
 refine v1 wZ.eq_1 ?_
 refine am.dec (fun h=>?_) (fun h=>?_)<;>refine vs ?_
 ·exact⟨ah.refl _ _,.inl ⟨by omega,rfl⟩⟩
 ·refine am.dec (fun h2=>?_) (fun h2=>?_)<;>refine vs ?_
  ·exact⟨ah.refl _ _,.inl ⟨by omega,rfl⟩⟩
  ·refine(GK 65536 H).mono ?_
   rintro _ H1 ⟨hf,⟨hc,_⟩| ⟨_,nb,ns,rfl,hn,b1,b2,b3,b4⟩⟩
   ·omega
   refine vs ?_
   refine⟨by omega,?_⟩
   refine vs ?_
   have hs:(H1.new 343 (cN [.int .i64 0,.int .i64 0,.int .u64 0] cap.toNat)).own H1.size=some (cI (List.replicate cap.toNat (0,0,0))):=by
    rw[Qw]
    exact aE _ _ _
   have he:ah (fun _=>False) (H1.new 343 (cN [.int .i64 0,.int .i64 0,.int .u64 0] cap.toNat)) _:=
    ((ah.refl _ _).fX).new 308 [.int .i64 0,.slice (some ⟨H1.size,0,none⟩) cap.toNat cap.toNat,.pointer (some ⟨nb,0,none⟩),.map (some (H1.size+1))]
   have hm:oJ (H1.new 343 (cN [.int .i64 0,.int .i64 0,.int .u64 0] cap.toNat)).fX (H1.size+1) (fun _=>none):=by
    have:=oJ.new (H1.new 343 (cN [.int .i64 0,.int .i64 0,.int .u64 0] cap.toNat))
    rwa[ar]at this
   have NN:=hf.size
   have hl:(List.replicate cap.toNat ((0,0,0):Ce)).length=cap.toNat:=aov
   refine⟨(hf.trans ((ah.refl _ _).new 343 _)).trans he,.inr ⟨by omega,H1.size+1+1,fun x=>H.size≤x∧x<H1.size+1+1+1,rfl,⟨⟨H1.size,nb,ns,H1.size+1,by rw[hl];exact bD (by simp only[ar,kE]),he.own hs (fun h=>h),
    (hn.ext ((ah.refl (fun _=>False) _).new 343 _) (fun h=>h) (fun h=>h)).ext he (fun h=>h) (fun h=>h),hm.ext ((ah.refl (fun _=>False) _).new _ _) (fun h=>h),?_,?_,?_,?_⟩,by omega,by omega,by omega,?_⟩,fun x h=>h.1⟩⟩
   ·exact⟨by omega,by omega,by omega,by omega,by omega⟩
   ·exact⟨by omega,by omega,by omega,by omega⟩
   ·exact⟨by omega,by omega,by omega⟩
   ·exact⟨by omega,by omega⟩
   ·intro x hx
    simp only[ar,kE]
    exact hx.2
theorem xx{H:Hp}{c:Nat}{S:Nat→Prop}{st:Int}{cs:List Ce}{len:Nat}{rt:Nat→Nat}{aX:Int→Option Int}(h:bJ H c S st cs len rt aX)(i:Int):
  ai Tryz.prog bF [ptr c,i64 i] H fun v H'=>ay (v= .bool (decide (0<i∧i<len∧rt i.toNat=i.toNat))∧H=H'):=by
 obtain⟨⟨fb,nb,ns,mb,a1,a2,a3,a4,a5,a6,a7⟩,h2,h3,h4,h5⟩:=h
 refine ba Ck ⟨rfl,?_⟩
 refine v2 lz.eq_1 (ae a1) ?_
 refine(GM a3 i).mono ?_
 rintro _ _ ⟨rfl,rfl⟩
 refine vs ?_
 exact⟨rfl,rfl⟩
def dP(aX:Int→Option Int)(i:Int):Int:=(aX i).getD 0
theorem G0{H:Hp}{c:Nat}{S:Nat→Prop}{st:Int}{cs:List Ce}{len:Nat}{rt:Nat→Nat}{aX:Int→Option Int}(h:bJ H c S st cs len rt aX)(i:Int):
  ai Tryz.prog kY [ptr c,i64 i] H fun v H'=>ay (v=i64 (dP aX i)∧H=H'):=by
 obtain⟨⟨fb,nb,ns,mb,a1,a2,a3,a4,a5,a6,a7⟩,h2,h3,h4,h5⟩:=h
 refine ba Cl ⟨rfl,?_⟩
 refine v3 lA.eq_1 (ae a1) a4.look ?_
 refine⟨?_,rfl⟩
 unfold dP
 cases aX i<;>rfl
theorem tu{H:Hp}{c:Nat}{S:Nat→Prop}{st:Int}{cs:List Ce}{len:Nat}{rt:Nat→Nat}{aX:Int→Option Int}(h:bJ H c S st cs len rt aX)(i:Int):
  ai Tryz.prog yG [ptr c,i64 i] H fun v H'=>ay (v= .bool (decide (0≤i∧i<cs.length))∧H=H'):=by
 obtain⟨⟨fb,nb,ns,mb,a1,a2,a3,a4,a5,a6,a7⟩,h2,h3,h4,h5⟩:=h
 refine ba zd ⟨rfl,?_⟩
 refine v1 iH.eq_1 ?_
 refine am.dec (fun h=>?_) (fun h=>?_)<;>refine v1 (ae a1) ?_
 ·exact⟨an4 Value.bool (by rw[decide_eq_decide];omega),rfl⟩
 ·exact⟨an4 Value.bool (anU (by omega)).symm,rfl⟩
theorem yj{cs:List Ce}{i:Nat}{c:Ce}(hi:cs[i]? =some c):
  (cI cs)[i*3]? =some (i64 c.1)∧(cI cs)[i*3+1]? =some (i64 c.2.1)∧(cI cs)[i*3+2]? =some (u64 c.2.2)∧((cI cs).drop (i*3+1)).take 2=[i64 c.2.1,u64 c.2.2]:=by
 have hx:∀ (cs:List Ce) (i:Nat) (c:Ce),cs[i]? =some c→(cI cs)[i*3]? =some (i64 c.1)∧(cI cs)[i*3+1]? =some (i64 c.2.1)∧(cI cs)[i*3+2]? =some (u64 c.2.2):=by
  intro cs
  induction cs with
  |nil=>intro i c h;simp at h
  |cons a r ih=>
   intro i c h
   have e:cI (a::r)=i64 a.1::i64 a.2.1::u64 a.2.2::cI r:=rfl
   rw[e]
   cases i with
   |zero=>simp at h;subst h;exact⟨rfl,rfl,rfl⟩
   |succ i=>
    have:=ih i c (by simpa using h)
    rw[show(i+1)*3=i*3+3 by omega]
    simpa using this
 obtain⟨x0,x1,x2⟩:=hx cs i c hi
 refine⟨x0,x1,x2,?_⟩
 apply aoj
 intro k
 rw[aob]
 match k with
 |0=>simpa using x1
 |1=>rw[if_pos (by omega),aoc];exact x2
 |k+2=>rw[if_neg (by omega)];rfl
def cZ(cs:List Ce)(i:Int):Prop:=0≤i∧∃c,cs[i.toNat]? =some c∧0<c.1
instance(cs:List Ce)(i:Int):Decidable (cZ cs i):=
 match h:cs[i.toNat]? with
 |none=>.isFalse fun⟨_,c,h1,_⟩=>by rw[h]at h1;simp at h1
 |some c=>if h0:0≤i∧0<c.1 then .isTrue ⟨h0.1,c,h,h0.2⟩else .isFalse fun⟨h1,c',h2,h3⟩=>by rw[h]at h2;injection h2 with h2;subst h2;exact h0 ⟨h1,h3⟩
theorem fK{H:Hp}{c:Nat}{S:Nat→Prop}{st:Int}{cs:List Ce}{len:Nat}{rt:Nat→Nat}{aX:Int→Option Int}(h:bJ H c S st cs len rt aX)(i:Int):
  ai Tryz.prog DC [ptr c,i64 i] H fun v H'=>ay (v= .bool (decide (cZ cs i))∧H=H'):=by
 have ht:=tu h i
 obtain⟨⟨fb,nb,ns,mb,a1,a2,a3,a4,a5,a6,a7⟩,h2,h3,h4,h5⟩:=h
 refine ba DQ ⟨rfl,?_⟩
 refine v1 mN.eq_1 ?_
 refine ht.mono ?_
 rintro _ _ ⟨rfl,rfl⟩
 refine vs ?_
 refine am.dec (fun h=>?_) (fun h=>?_)<;>refine v1 (ae a1) ?_
 ·obtain⟨x,hx⟩:∃x,cs[i.toNat]? =some x:=⟨_,anx (by omega)⟩
  obtain⟨x0,x1,x2,x3⟩:=yj hx
  refine⟨by omega,?_⟩
  refine v4 (ae a2) x0 Nat.add_zero anB ?_
  exact⟨an4 Value.bool (by rw[decide_eq_decide];exact⟨fun hh=>⟨h.1,x,hx,hh⟩,fun⟨_,c,e1,e2⟩=>by rw[hx]at e1;injection e1 with e1;subst e1;exact e2⟩),rfl⟩
 ·exact⟨an4 Value.bool (anU (by rintro⟨x,c,x1,x2⟩;have:=(anA.1 x1).1;omega)).symm,rfl⟩
theorem JO(cs:List Ce)(i:Nat)(c:Ce)(hi:i<cs.length):bk (cI cs) (i*3) [i64 c.1,i64 c.2.1,u64 c.2.2]=cI (cs.set i c):=by
 simp only[bk]
 induction cs generalizing i with
 |nil=>simp at hi
 |cons a r ih=>
  have e:cI (a::r)=i64 a.1::i64 a.2.1::u64 a.2.2::cI r:=rfl
  cases i with
  |zero=>rfl
  |succ i=>
   have e2:cI ((a::r).set (i+1) c)=i64 a.1::i64 a.2.1::u64 a.2.2::cI (r.set i c):=rfl
   rw[e,e2,show(i+1)*3=i*3+1+1+1 by omega]
   simp only[aop]
   rw[ih i (by simpa using hi)]
theorem FN{H:Hp}{c:Nat}{S:Nat→Prop}{st:Int}{cs:List Ce}{len:Nat}{rt:Nat→Nat}{aX:Int→Option Int}(h:bJ H c S st cs len rt aX):
  ai Tryz.prog dF [ptr c] H fun v H'=>ay (
   (len=65537∧v=i64 0∧H=H')∨
   (len≠65537∧v=i64 len∧∃S',bJ H' c S' st cs (len+1) (fun i=>if i=len then i else rt i) aX∧ah S H H'∧∀x,S' x→S x∨H.size≤x)):=by
 obtain⟨⟨fb,nb,ns,mb,a1,a2,a3,a4,a5,a6,a7⟩,h2,h3,h4,h5⟩:=h
 refine ba AW ⟨rfl,?_⟩
 refine v2 jS.eq_1 (ae a1) ?_
 refine(FH a3).mono ?_
 rintro _ H1 (⟨hl,rfl,rfl⟩| ⟨hl,rfl,s',b1,b2,b3⟩)
 ·refine vs ?_
  exact .inl ⟨by omega,rfl,rfl⟩
 ·refine vs ?_
  obtain⟨s1,s2,s3,s4,s5⟩:=a5
  obtain⟨d1,d2,d3,d4⟩:=a6
  obtain⟨⟨d5,d6,d7⟩,d8,d9⟩:=a7
  have l1:=aG a1
  have l2:=aG a2
  have l3:=a4.lt
  refine .inr ⟨by omega,rfl,fun x=>S x∨x=s',⟨⟨fb,nb,s',mb,b2.own a1 (by omega),b2.own a2 (by omega),b1,a4.ext b2 (by omega),⟨.inl s1,.inl s2,.inl s3,.inr rfl,.inl s5⟩,⟨d1,d2,by omega,d4⟩,⟨d5,by omega,d7⟩,d8,by omega⟩,h2,h3,h4,fun x hx=>hx.elim (fun h=>an3 (h5 x h) b2.size) (fun h=>by rw[h];exact b1.lt2)⟩,
   b2.mono (fun x _ hx=>hx.elim (fun e=>e▸s3) (fun e=>e▸s4)),?_⟩
  rintro x (hx|rfl)
  ·exact .inl hx
  ·rcases b3 with rfl|b3
   ·exact .inl s4
   ·exact .inr b3.1
theorem G1{H:Hp}{c:Nat}{S:Nat→Prop}{st:Int}{cs:List Ce}{len:Nat}{rt:Nat→Nat}{aX:Int→Option Int}(h:bJ H c S st cs len rt aX)(g i k s:Int)
  (hm:dP aX g≤1000000∧0≤dP aX g):
  ai Tryz.prog kZ [ptr c,i64 g,i64 i,wq k s] H fun v H'=>ay (
   let ok:=(0<g∧g<len∧rt g.toNat=g.toNat)∧(0≤i∧i<cs.length)∧¬cZ cs i
   (¬ok∧v= .bool false∧bJ H' c S st cs len rt aX∧ah S H H')∨
   (ok∧v= .bool true∧bJ H' c S st (cs.set i.toNat (g,k,s)) len rt (fun j=>if j=g then some (dP aX g+1)else aX j)∧ah S H H')):=by
 have rA:ah (fun _=>False) H (H.new 224 [i64 k,u64 s]):=(ah.refl _ _).new _ _
 have h':=h.ext rA (fun _ _ h=>h)
 refine ba Cn ⟨rfl,?_⟩
 simp(disch:=(first|omega| (simp only[Zs]<;>omega)|fail)) only[go_sem, ↓reduceIte,Zv,lC,wq]
 refine(xx h' g).mono ?_
 rintro _ _ ⟨rfl,rfl⟩
 refine vs ?_
 have Sy:∀v,v=Value.bool false→¬ ((0<g∧g<len∧rt g.toNat=g.toNat)∧(0≤i∧i<cs.length)∧¬cZ cs i)→
   ((¬ ((0<g∧g<len∧rt g.toNat=g.toNat)∧(0≤i∧i<cs.length)∧¬cZ cs i)∧v= .bool false∧bJ (H.new 224 [i64 k,u64 s]) c S st cs len rt aX∧ah S H (H.new 224 [i64 k,u64 s]))∨
   (((0<g∧g<len∧rt g.toNat=g.toNat)∧(0≤i∧i<cs.length)∧¬cZ cs i)∧v= .bool true∧bJ (H.new 224 [i64 k,u64 s]) c S st (cs.set i.toNat (g,k,s)) len rt (fun j=>if j=g then some (dP aX g+1)else aX j)∧ah S H (H.new 224 [i64 k,u64 s]))):=
  fun v hv hn=>.inl ⟨hn,hv,h',(ah.refl _ _).new _ _⟩
 refine am.dec (fun hg=>?_) (fun hg=>?_)<;>refine vs ?_
 ·refine(tu h' i).mono ?_
  rintro _ _ ⟨rfl,rfl⟩
  refine vs ?_
  refine am.dec (fun hi=>?_) (fun hi=>?_)<;>refine vs ?_
  ·refine(fK h' i).mono ?_
   rintro _ _ ⟨rfl,rfl⟩
   refine vs ?_
   refine am.dec (fun bQ=>?_) (fun bQ=>?_)<;>refine vs ?_
   ·exact Sy _ rfl (fun hc=>hc.2.2 bQ)
   ·obtain⟨⟨fb,nb,ns,mb,a1,a2,a3,a4,a5,a6,a7⟩,h2,h3,h4,h5⟩:=h'
    refine v1 (ae a1) ?_
    refine⟨by omega,?_⟩
    refine v1 a2 ?_
    refine⟨by rw[lR];omega,?_⟩
    rw[show bk (cI cs) (i.toNat*3) (aM (Value.agg #[Value.int .i64 g,i64 k,u64 s]))=cI (cs.set i.toNat (g,k,s))from JO cs i.toNat (g,k,s) (by omega)]
    obtain⟨s1,s2,s3,s4,s5⟩:=a5
    obtain⟨d1,d2,d3,d4⟩:=a6
    obtain⟨⟨d5,d6,d7⟩,d8,d9⟩:=a7
    have e1:ah (fun x=>x=fb) (H.new 224 [i64 k,u64 s]) ((H.new 224 [i64 k,u64 s]).wr fb (cI (cs.set i.toNat (g,k,s)))):=(ah.refl (fun x=>x=fb) _).wr (fun _=>rfl) _
    have a1':=e1.own a1 d1
    have WN:((H.new 224 [i64 k,u64 s]).wr fb (cI (cs.set i.toNat (g,k,s)))).own fb=_:=aj a2
    have a3':=a3.ext e1 (Ne.symm d5) (Ne.symm d6)
    have a4':=a4.ext e1 (Ne.symm d7)
    have el:jw false (Value.int .i64 0) ((aX g).map i64)=i64 (dP aX g):=by unfold dP;cases aX g<;>rfl
    refine v3 (ae a1') a4'.look el ?_
    rw[wrap64 (by omega) (by omega)]
    refine a4'.Zc fun H2 m2 e2=>?_
    refine vs ?_
    refine .inr ⟨⟨hg,hi,bQ⟩,rfl,⟨⟨fb,nb,ns,mb,by rw[anC];exact e2.own a1' d4,e2.own WN d7,a3'.ext e2 d8 d9,?_,⟨s1,s2,s3,s4,s5⟩,⟨d1,d2,d3,d4⟩,⟨d5,d6,d7⟩,d8,d9⟩,h2,h3,by rw[anC];exact h4,fun x hx=>an3 (h5 x hx) (aok e1.size e2.size)⟩,?_⟩
    ·have:(fun j=>Option.map i64 (if j=g then some (dP aX g+1)else aX j))=KA (fun j=>(aX j).map i64) g (i64 (dP aX g+1)):=by
      funext j;unfold KA;by_cases hj:j=g<;>simp[hj]
     rw[this];exact m2
    ·exact(((ah.refl S H).new 224 [i64 k,u64 s]).trans (e1.mono fun x _ hx=>hx▸s2)).trans (e2.mono fun x _ hx=>hx▸s5)
  ·exact Sy _ rfl (fun hc=>hi hc.2.1)
 ·exact Sy _ rfl (fun hc=>hg hc.1)
theorem Qx{m n:Int}(h0:0≤m)(h1:m≤4611686018427387904):0≤gX m n∧gX m n≤4611686018427387904:=by
 unfold gX;split
 ·exact⟨h0,h1⟩
 ·split<;>omega
def Bi(a b:Int)(x y:Ce):Prop:=Md x.2.1 x.2.2 y.2.1 y.2.2<0∨Md x.2.1 x.2.2 y.2.1 y.2.2=0∧a<b
instance(a b:Int)(x y:Ce):Decidable (Bi a b x y):=inferInstanceAs (Decidable (_∨_∧_))
theorem D7{H:Hp}{c:Nat}{S:Nat→Prop}{st:Int}{cs:List Ce}{len:Nat}{rt:Nat→Nat}{aX:Int→Option Int}(h:bJ H c S st cs len rt aX)(a b:Int):
  ai Tryz.prog cS [ptr c,i64 a,i64 b] H fun v H'=>ay (
   (¬ (cZ cs a∧cZ cs b)∧v= .bool false∧H=H')∨
   (cZ cs a∧cZ cs b)∧∃x y,cs[a.toNat]? =some x∧cs[b.toNat]? =some y∧v= .bool (decide (Bi a b x y))∧bJ H' c S (gX st 1) cs len rt aX∧ah S H H'):=by
 have h':=h
 obtain⟨⟨fb,nb,ns,mb,a1,a2,a3,a4,a5,a6,a7⟩,h2,h3,h4,h5⟩:=h
 refine ba ze ⟨rfl,?_⟩
 refine v1 iI.eq_1 ?_
 refine(fK h' a).mono ?_
 rintro _ _ ⟨rfl,rfl⟩
 refine vs ?_
 refine am.dec (fun ha=>?_) (fun ha=>?_)<;>refine vs ?_
 ·refine(fK h' b).mono ?_
  rintro _ _ ⟨rfl,rfl⟩
  refine vs ?_
  refine am.dec (fun hb=>?_) (fun hb=>?_)<;>refine vs ?_
  ·obtain⟨UK,x,hx,ik⟩:=id ha
   obtain⟨Qy,y,hy,hy0⟩:=id hb
   refine(D6 a1 ⟨h2,h3⟩ 1 (by omega)).mono ?_
   rintro v H1 hH
   obtain⟨rfl,b1,b2,b3,b4⟩:v= .tuple [].toArray∧H1.own c=some [i64 (gX st 1),.slice (some ⟨fb,0,none⟩) cs.length cs.length,ptr nb,.map (some mb)]∧H1.own fb=some (cI cs)∧bJ H1 c S (gX st 1) cs len rt aX∧ah S H H1:=by
    have vu:=Qx (n:=1) h2 h3
    rcases hH.out with ⟨rfl,rfl⟩| ⟨rfl,rfl,hs⟩
    ·obtain⟨s1,s2,s3,s4,s5⟩:=a5
     obtain⟨d1,d2,d3,d4⟩:=a6
     have e1:ah (fun x=>x=c) H (H.wr c [i64 (gX st 1),.slice (some ⟨fb,0,none⟩) cs.length cs.length,ptr nb,.map (some mb)]):=(ah.refl (fun x=>x=c) _).wr (fun _=>rfl) _
     exact⟨rfl,aj a1,e1.own a2 (Ne.symm d1),⟨⟨fb,nb,ns,mb,aj a1,e1.own a2 (Ne.symm d1),a3.ext e1 (Ne.symm d2) (Ne.symm d3),a4.ext e1 (Ne.symm d4),⟨s1,s2,s3,s4,s5⟩,⟨d1,d2,d3,d4⟩,a7⟩,vu.1,vu.2,h4,fun x hx=>an3 (h5 x hx) e1.size⟩,e1.mono fun x _ hx=>hx▸s1⟩
    ·rw[hs]
     exact⟨rfl,a1,a2,h',ah.refl _ _⟩
   have al:=(anA.1 hx).1
   have bl:=(anA.1 hy).1
   obtain⟨x1,x2,x3,x4⟩:=yj hx
   obtain⟨y1,y2,y3,y4⟩:=yj hy
   have fl:=lR cs
   refine v1 (ae b1) ?_
   refine⟨by omega,?_⟩
   refine v3 (ae b1) (ae b2) x4 ?_
   refine⟨by omega,?_⟩
   refine v2 (ae b1) x4 ?_
   refine⟨by omega,?_⟩
   refine v3 (ae b1) (ae b2) y4 ?_
   refine⟨by omega,?_⟩
   refine v2 x4 y4 ?_
   refine(qz x.2.1 x.2.2 y.2.1 y.2.2 _).mono ?_
   rintro _ H2 ⟨rfl,hf⟩
   refine vs ?_
   have b5:=b3.ext hf (fun _ _ h=>h)
   have b6:=b4.trans (hf.mono fun _ _ h=>h.elim)
   refine am.dec (fun aR=>?_) (fun aR=>?_)<;>refine vs ?_
   ·exact .inr ⟨⟨ha,hb⟩,x,y,hx,hy,an4 Value.bool (anQ (show Bi a b x y from .inl aR)).symm,b5,b6⟩
   ·refine am.dec (fun heq=>?_) (fun heq=>?_)<;>refine vs ?_
    ·exact .inr ⟨⟨ha,hb⟩,x,y,hx,hy,an4 Value.bool (by rw[decide_eq_decide];exact⟨fun hh=>.inr ⟨heq,hh⟩,fun hh=>hh.elim (fun e=>absurd e aR) (·.2)⟩),b5,b6⟩
    ·exact .inr ⟨⟨ha,hb⟩,x,y,hx,hy,an4 Value.bool (anU (show¬Bi a b x y from fun hh=>hh.elim aR (fun e=>heq e.1))).symm,b5,b6⟩
  ·exact .inl ⟨fun hc=>hb hc.2,rfl,rfl⟩
 ·exact .inl ⟨fun hc=>ha hc.1,rfl,rfl⟩
theorem bJ.names{H H1:Hp}{c:Nat}{S:Nat→Prop}{st:Int}{cs:List Ce}{len:Nat}{rt rt':Nat→Nat}{aX:Int→Option Int}{fb nb ns mb:Nat}(h:bJ H c S st cs len rt aX)
  (a1:H.own c=some [i64 st,.slice (some ⟨fb,0,none⟩) cs.length cs.length,ptr nb,.map (some mb)])(a2:H.own fb=some (cI cs))(a4:oJ H mb (fun i=>(aX i).map i64))
  (a5:S c∧S fb∧S nb∧S ns∧S mb)(a6:c≠fb∧c≠nb∧c≠ns∧c≠mb)(a7:fb≠nb∧fb≠ns∧fb≠mb)(a8:nb≠mb∧ns≠mb)
  (n:fz H1 nb ns len rt' 65536)(e:ah (fun x=>x=nb∨x=ns) H H1):
  bJ H1 c S st cs len rt' aX∧ah S H H1∧H1.own c=some [i64 st,.slice (some ⟨fb,0,none⟩) cs.length cs.length,ptr nb,.map (some mb)]∧oJ H1 mb (fun i=>(aX i).map i64):=by
 obtain⟨s1,s2,s3,s4,s5⟩:=a5
 have b1:=e.own a1 (by omega)
 have b4:=a4.ext e (by omega)
 exact⟨⟨⟨fb,nb,ns,mb,b1,e.own a2 (by omega),n,b4,⟨s1,s2,s3,s4,s5⟩,a6,a7,a8⟩,h.st0,h.W1,h.FM,fun x hx=>an3 (h.slt x hx) e.size⟩,e.mono fun x _ hx=>hx.elim (fun h=>h▸s3) (fun h=>h▸s4),b1,b4⟩
theorem vw{H:Hp}{c:Nat}{S:Nat→Prop}{st:Int}{cs:List Ce}{len:Nat}{rt:Nat→Nat}{aX:Int→Option Int}(h:bJ H c S st cs len rt aX)(hl:∀x∈cs,x.1<len)(i:Int):
  ai Tryz.prog jC [ptr c,i64 i] H fun v H'=>ay (
   (¬cZ cs i∧v= .tuple [i64 0,.bool false].toArray∧H=H')∨
   (cZ cs i∧∃x,cs[i.toNat]? =some x∧v= .tuple [i64 (rt x.1.toNat),.bool true].toArray∧bJ H' c S st cs len rt aX∧ah S H H')):=by
 have h':=h
 obtain⟨⟨fb,nb,ns,mb,a1,a2,a3,a4,a5,a6,a7,a8⟩,h2,h3,h4,h5⟩:=h
 refine ba AT ⟨rfl,?_⟩
 refine v1 jP.eq_1 ?_
 refine(fK h' i).mono ?_
 rintro _ _ ⟨rfl,rfl⟩
 refine vs ?_
 refine am.dec (fun hi=>?_) (fun hi=>?_)<;>refine vs ?_
 ·obtain⟨FO,x,hx,ik⟩:=id hi
  have rG:=(anA.1 hx).1
  obtain⟨x1,x2,x3,x4⟩:=yj hx
  refine v1 (ae a1) ?_
  refine⟨by omega,?_⟩
  refine v4 (ae a2) x1 Nat.add_zero anB ?_
  refine(FJ a3 x.1).mono ?_
  rintro _ H1 (⟨hn,_⟩| ⟨_,rfl,n1,e1⟩)
  ·exact absurd ⟨ik,hl x (anG hx)⟩ hn
  refine vs ?_
  obtain⟨b1,b2,_⟩:=h'.names a1 a2 a4 a5 a6 a7 a8 n1 e1
  exact .inr ⟨hi,x,hx,rfl,b1,b2⟩
 ·exact .inl ⟨hi,rfl,rfl⟩
theorem D8{H:Hp}{c:Nat}{S:Nat→Prop}{st:Int}{cs:List Ce}{len:Nat}{rt:Nat→Nat}{aX:Int→Option Int}(h:bJ H c S st cs len rt aX)(i:Int):
  ai Tryz.prog bj [ptr c,i64 i] H fun v H'=>ay (bJ H' c S st cs len rt aX∧aq H H'∧(
   (¬cZ cs i∧v= .tuple [wq 0 0,.bool false].toArray)∨
   (cZ cs i∧∃x,cs[i.toNat]? =some x∧v= .tuple [wq x.2.1 x.2.2,.bool true].toArray))):=by
 have e0:aq H (H.new 224 [.int .i64 0,.int .u64 0]):=(ah.refl _ _).new _ _
 have h':=h.ext e0 (fun _ _ h=>h)
 refine ba yZ ⟨rfl,?_⟩
 refine v1 iE.eq_1 ?_
 refine(fK h' i).mono ?_
 rintro _ _ ⟨rfl,rfl⟩
 refine vs ?_
 refine am.dec (fun hi=>?_) (fun hi=>?_)<;>refine vs ?_
 ·obtain⟨FO,x,hx,ik⟩:=id hi
  have rG:=(anA.1 hx).1
  obtain⟨x1,x2,x3,x4⟩:=yj hx
  have fl:=lR cs
  obtain⟨⟨fb,nb,ns,mb,a1,a2,a3,a4,a5,a6,a7,a8⟩,h2,h3,h4,h5⟩:=id h'
  refine v1 (ae a1) ?_
  refine⟨by omega,?_⟩
  refine v1 (ae a2) ?_
  refine⟨by omega,?_⟩
  simp(disch:=(first|omega| (simp only[Zs]<;>omega)|fail)) only[go_sem, ↓reduceIte,Zv,x4,uE (aE H 224 [.int .i64 0,.int .u64 0])]
  have e1:aq H ((H.new 224 [.int .i64 0,.int .u64 0]).wr H.size [i64 x.2.1,u64 x.2.2]):=e0.wr (fun h=>absurd h (Nat.lt_irrefl _)) _
  exact⟨h.ext e1 (fun _ _ h=>h),e1,.inr ⟨hi,x,hx,rfl⟩⟩
 ·simp(disch:=(first|omega| (simp only[Zs]<;>omega)|fail)) only[go_sem, ↓reduceIte,Zv,uE (aE H 224 [.int .i64 0,.int .u64 0])]
  have e1:aq H ((H.new 224 [.int .i64 0,.int .u64 0]).wr H.size [.int .i64 0,.int .u64 0]):=e0.wr (fun h=>absurd h (Nat.lt_irrefl _)) _
  exact⟨h.ext e1 (fun _ _ h=>h),e1,.inl ⟨hi,rfl⟩⟩
def cY(m:Int→Option Int)(i n:Int):Int→Option Int:=fun j=>if j=i then some n else m j
def uL(m:Int→Option Int)(i:Int):Int→Option Int:=fun j=>if j=i then none else m j
theorem Mf(m:Int→Option Int)(i n:Int):KA (fun j=>(m j).map i64) i (i64 n)=fun j=>(cY m i n j).map i64:=by
 funext j;unfold KA cY;by_cases hj:j=i<;>simp[hj]
theorem Mh(m:Int→Option Int)(i:Int):NX (fun j=>(m j).map i64) i=fun j=>(uL m i j).map i64:=by
 funext j;unfold NX uL;by_cases hj:j=i<;>simp[hj]
theorem E0(m:Int→Option Int)(g:Int):jw false (Value.int .i64 0) ((m g).map i64)=i64 (dP m g):=by
 unfold dP;cases m g<;>rfl
theorem FP{H:Hp}{c:Nat}{S:Nat→Prop}{st:Int}{cs:List Ce}{len:Nat}{rt:Nat→Nat}{aX:Int→Option Int}(h:bJ H c S st cs len rt aX)(hl:∀x∈cs,x.1<len)(i:Int)(hm:∀j,0≤dP aX j∧dP aX j≤1000000):
  ai Tryz.prog jD [ptr c,i64 i] H fun v H'=>ay (
   (¬cZ cs i∧v= .bool false∧H=H')∨
   (cZ cs i∧v= .bool true∧∃x,cs[i.toNat]? =some x∧
    bJ H' c S st (cs.set i.toNat (0,0,0)) len rt (if dP aX (rt x.1.toNat) - 1=0 then uL (cY aX (rt x.1.toNat) (dP aX (rt x.1.toNat) - 1)) (rt x.1.toNat)else cY aX (rt x.1.toNat) (dP aX (rt x.1.toNat) - 1))∧ah S H H')):=by
 refine ba AV ⟨rfl,?_⟩
 refine v1 jR.eq_1 ?_
 refine(vw h hl i).mono ?_
 rintro _ H1 (⟨hi,rfl,rfl⟩| ⟨hi,x,hx,rfl,b1,b2⟩)
 ·refine vs ?_
  exact .inl ⟨hi,rfl,rfl⟩
 ·have rG:=(anA.1 hx).1
  have FO:=hi.1
  have fl:=lR cs
  obtain⟨⟨fb,nb,ns,mb,a1,a2,a3,a4,a5,a6,a7,a8⟩,h2,h3,h4,h5⟩:=b1
  have hmg:=hm (rt x.1.toNat)
  refine v1 (ae a1) ?_
  refine⟨by omega,?_⟩
  refine v1 a2 ?_
  refine⟨by omega,?_⟩
  rw[show bk (cI cs) (i.toNat*3) (aM (Value.agg #[Value.int .i64 0,Value.int .i64 0,Value.int .u64 0]))=cI (cs.set i.toNat (0,0,0))from JO cs i.toNat (0,0,0) (by omega)]
  have e2:ah (fun x=>x=fb) H1 (H1.wr fb (cI (cs.set i.toNat (0,0,0)))):=(ah.refl (fun x=>x=fb) _).wr (fun _=>rfl) _
  have c1:=e2.own a1 a6.1
  have c2:(H1.wr fb (cI (cs.set i.toNat (0,0,0)))).own fb=_:=aj a2
  have c3:=a3.ext e2 (Ne.symm a7.1) (Ne.symm a7.2.1)
  have c4:=a4.ext e2 (Ne.symm a7.2.2)
  refine v3 (ae c1) c4.look E0 ?_
  rw[wrap64 (by omega) (by omega)]
  refine c4.Zc fun H2 m2 e3=>?_
  rw[Mf]at m2
  have d1:=e3.own c1 a6.2.2.2
  have hs:dP (cY aX (rt x.1.toNat) (dP aX (rt x.1.toNat) - 1)) (rt x.1.toNat)=dP aX (rt x.1.toNat) - 1:=by simp[dP,cY]
  refine v4 (ae d1) m2.look E0 hs ?_
  have Ip:ah S H1 H2:=(e2.mono fun x _ hx=>hx▸a5.2.1).trans (e3.mono fun x _ hx=>hx▸a5.2.2.2.2)
  refine am.dec (fun h0=>?_) (fun h0=>?_)<;>refine v1 (ae d1) ?_
  ·refine m2.del fun H3 m3 e4=>?_
   rw[Mh]at m3
   refine vs ?_
   refine .inr ⟨hi,rfl,x,hx,?_,(b2.trans Ip).trans (e4.mono fun x _ hx=>hx▸a5.2.2.2.2)⟩
   rw[if_pos h0]
   exact⟨⟨fb,nb,ns,mb,by rw[anC];exact e4.own d1 a6.2.2.2,(e4.own (e3.own c2 a7.2.2) a7.2.2),(c3.ext e3 a8.1 a8.2).ext e4 a8.1 a8.2,m3,a5,a6,a7,a8⟩,h2,h3,by rw[anC];exact h4,fun x hx=>an3 (h5 x hx) (aok Ip.size e4.size)⟩
  ·refine .inr ⟨hi,rfl,x,hx,?_,b2.trans Ip⟩
   rw[if_neg h0]
   exact⟨⟨fb,nb,ns,mb,by rw[anC];exact d1,e3.own c2 a7.2.2,c3.ext e3 a8.1 a8.2,m2,a5,a6,a7,a8⟩,h2,h3,by rw[anC];exact h4,fun x hx=>an3 (h5 x hx) Ip.size⟩
theorem NY(cs:List Ce)(i:Nat)(x:Ce)(k s:Int)(hx:cs[i]? =some x):bk (cI cs) (i*3+1) [i64 k,u64 s]=cI (cs.set i (x.1,k,s)):=by
 simp only[bk]
 induction cs generalizing i with
 |nil=>simp at hx
 |cons a r ih=>
  have e:cI (a::r)=i64 a.1::i64 a.2.1::u64 a.2.2::cI r:=rfl
  cases i with
  |zero=>
   simp at hx
   subst hx
   rfl
  |succ i=>
   have e2:cI ((a::r).set (i+1) (x.1,k,s))=i64 a.1::i64 a.2.1::u64 a.2.2::cI (r.set i (x.1,k,s)):=rfl
   rw[e,e2,show(i+1)*3+1=i*3+1+1+1+1 by omega]
   simp only[aop]
   rw[ih i (by simpa using hx)]
theorem D9{H:Hp}{c:Nat}{S:Nat→Prop}{st:Int}{cs:List Ce}{len:Nat}{rt:Nat→Nat}{aX:Int→Option Int}(h:bJ H c S st cs len rt aX)(i k s:Int):
  ai Tryz.prog iz [ptr c,i64 i,wq k s] H fun v H'=>ay (
   (¬ (cZ cs i∧∀x,cs[i.toNat]? =some x→¬gW x.2.1 x.2.2 k s)∧v= .bool false∧bJ H' c S st cs len rt aX∧aq H H')∨
   (cZ cs i∧v= .bool true∧∃x,cs[i.toNat]? =some x∧¬gW x.2.1 x.2.2 k s∧bJ H' c S st (cs.set i.toNat (x.1,k,s)) len rt aX∧ah S H H')):=by
 have e0:aq H (H.new 224 [i64 k,u64 s]):=(ah.refl _ _).new _ _
 have h':=h.ext e0 (fun _ _ h=>h)
 refine ba zc ⟨rfl,?_⟩
 simp(disch:=(first|omega| (simp only[Zs]<;>omega)|fail)) only[go_sem, ↓reduceIte,Zv,iG,wq]
 refine(fK h' i).mono ?_
 rintro _ _ ⟨rfl,rfl⟩
 refine vs ?_
 refine am.dec (fun hi=>?_) (fun hi=>?_)<;>refine vs ?_
 ·obtain⟨FO,x,hx,ik⟩:=id hi
  have rG:=(anA.1 hx).1
  obtain⟨x1,x2,x3,x4⟩:=yj hx
  have fl:=lR cs
  obtain⟨⟨fb,nb,ns,mb,a1,a2,a3,a4,a5,a6,a7,a8⟩,h2,h3,h4,h5⟩:=id h'
  refine v1 (ae a1) ?_
  refine⟨by omega,?_⟩
  refine v1 (ae a2) ?_
  refine⟨by omega,?_⟩
  refine v1 x4 ?_
  refine(FL x.2.1 x.2.2 k s _).mono ?_
  rintro _ H2 ⟨rfl,hf⟩
  have g1:=hf.own a1 (fun h=>h)
  have g2:=hf.own a2 (fun h=>h)
  have hr:=hf.own (aE H 224 [i64 k,u64 s]) (fun h=>h)
  refine vs ?_
  refine am.dec (fun gk=>?_) (fun gk=>?_)<;>refine vs ?_
  ·exact .inl ⟨fun hc=>hc.2 x hx gk,rfl,h'.ext hf (fun _ _ h=>h),e0.trans hf⟩
  ·refine v2 (ae g1) (ae hr) ?_
   refine⟨by omega,?_⟩
   refine v3 (ae g1) (ae hr) g2 ?_
   refine⟨by omega,?_⟩
   refine vs ?_
   have UD:((cI cs).set (i.toNat*3+1) (i64 k)).set (i.toNat*3+1+1) (u64 s)=cI (cs.set i.toNat (x.1,k,s)):=NY cs i.toNat x k s hx
   rw[UD]
   have e3:ah (fun x=>x=fb) H2 (H2.wr fb (cI (cs.set i.toNat (x.1,k,s)))):=(ah.refl (fun x=>x=fb) _).wr (fun _=>rfl) _
   refine .inr ⟨hi,rfl,x,hx,gk,⟨⟨fb,nb,ns,mb,by rw[anC];exact e3.own g1 a6.1,aj g2,(a3.ext hf (fun h=>h) (fun h=>h)).ext e3 (Ne.symm a7.1) (Ne.symm a7.2.1),(a4.ext hf (fun h=>h)).ext e3 (Ne.symm a7.2.2),a5,a6,a7,a8⟩,h2,h3,by rw[anC];exact h4,fun x hx=>an3 (h5 x hx) (aok hf.size e3.size)⟩,
    ((e0.trans hf).mono fun _ _ h=>h.elim).trans (e3.mono fun x _ hx=>hx▸a5.2.1)⟩
 ·exact .inl ⟨fun hc=>hi hc.1,rfl,h',e0⟩
structure Nw where
 hs:List Bool
 cs:List Ce
def Nw.has(w:Nw)(h:Int):Prop:=1≤h∧w.hs[h.toNat]? =some true
instance(w:Nw)(h:Int):Decidable (w.has h):=inferInstanceAs (Decidable (_∧_))
def Nw.len(w:Nw)(h:Int):Int:=if 0<h then(w.cs.countP fun c=>decide (c.1=h):Nat)else 0
def Nw.put(w:Nw)(i:Int)(c:Ce):Nw:=⟨w.hs,w.cs.set i.toNat c⟩
def Nw.make(w:Nw):Nw:=⟨w.hs++[true],w.cs⟩
def Nw.ahead(w:Nw)(a b:Int):Bool:=
 decide (cZ w.cs a) && decide (cZ w.cs b) && (match w.cs[a.toNat]?,w.cs[b.toNat]? with|some x,some y=>decide (Bi a b x y)|_,_=>false)
theorem Nw.Bj(w:Nw)(h:Int):0≤w.len h∧w.len h≤w.cs.length:=by
 unfold Nw.len
 have:=List.countP_le_length (p:=fun c:Ce=>decide (c.1=h)) (l:=w.cs)
 split<;>omega
structure qA(w:Nw)(cs:List Ce)(len:Nat)(rt:Nat→Nat)(aX:Int→Option Int):Prop where
 hl:w.hs.length=len
 h0:w.hs[0]? =some false
 hh:∀h,1≤h→h<len→w.hs[h]? =some (decide (rt h=h))
 cl:w.cs=cs.map fun c=>(if 0<c.1 then((rt c.1.toNat:Nat):Int)else 0,c.2)
 lt:∀c∈cs,0≤c.1∧c.1<len
 mn:∀h:Int,dP aX h=w.len h
 low:∀i,i<len→rt i<len
 LW:∀i,i<len→rt (rt i)=rt i
 nz:∀i,i<len→rt i=0→i=0
def bz(H:Hp)(c:Nat)(S:Nat→Prop)(st:Int)(w:Nw):Prop:=∃cs len rt aX,bJ H c S st cs len rt aX∧qA w cs len rt aX
theorem bz.ext{H H':Hp}{c:Nat}{S T:Nat→Prop}{st:Int}{w:Nw}(h:bz H c S st w)(e:ah T H H')(hd:∀x,S x→¬T x):bz H' c S st w:=by
 obtain⟨cs,len,rt,aX,h1,h2⟩:=h
 exact⟨cs,len,rt,aX,h1.ext e hd,h2⟩
theorem bz.fresh{H H':Hp}{c:Nat}{S:Nat→Prop}{st:Int}{w:Nw}(h:bz H c S st w)(e:aq H H'):bz H' c S st w:=h.ext e fun _ _ h=>h
theorem bz.slt{H:Hp}{c:Nat}{S:Nat→Prop}{st:Int}{w:Nw}(h:bz H c S st w):∀x,S x→x<H.size:=by
 obtain⟨cs,len,rt,aX,h1,h2⟩:=h
 exact h1.slt
theorem bz.FM{H:Hp}{c:Nat}{S:Nat→Prop}{st:Int}{w:Nw}(h:bz H c S st w):w.cs.length≤65536:=by
 obtain⟨cs,len,rt,aX,h1,h2⟩:=h
 rw[h2.cl,anW]
 exact h1.FM
theorem bz.st{H:Hp}{c:Nat}{S:Nat→Prop}{st:Int}{w:Nw}(h:bz H c S st w):0≤st∧st≤4611686018427387904:=by
 obtain⟨cs,len,rt,aX,h1,h2⟩:=h
 exact⟨h1.st0,h1.W1⟩
theorem qA.Nn{w:Nw}{cs:List Ce}{len:Nat}{rt:Nat→Nat}{aX:Int→Option Int}(h:qA w cs len rt aX)(i:Int):cZ w.cs i↔cZ cs i:=by
 unfold cZ
 rw[h.cl]
 simp only[anT]
 constructor
 ·rintro⟨h0,c,hc,hp⟩
  cases hx:cs[i.toNat]? with
  |none=>rw[hx]at hc;cases hc
  |some x=>
   rw[hx]at hc
   simp only[Option.map_some,anK]at hc
   subst hc
   refine⟨h0,x,rfl,?_⟩
   by_cases ik:0<x.1
   ·exact ik
   ·simp[ik]at hp
 ·rintro⟨h0,x,hx,hp⟩
  refine⟨h0,_,by rw[hx];rfl,?_⟩
  have aR:=h.lt x (anG hx)
  simp only[if_pos hp]
  have hnz:rt x.1.toNat≠0:=fun e=>by have:=h.nz _ (by omega) e;omega
  omega
theorem qA.get{w:Nw}{cs:List Ce}{len:Nat}{rt:Nat→Nat}{aX:Int→Option Int}(h:qA w cs len rt aX){i:Nat}{x:Ce}(hx:cs[i]? =some x):w.cs[i]? =some (if 0<x.1 then((rt x.1.toNat:Nat):Int)else 0,x.2):=by
 rw[h.cl,anT,hx];rfl
theorem qA.W2{w:Nw}{cs:List Ce}{len:Nat}{rt:Nat→Nat}{aX:Int→Option Int}(h:qA w cs len rt aX)(g:Int):w.has g↔(0<g∧g<len∧rt g.toNat=g.toNat):=by
 unfold Nw.has
 constructor
 ·rintro⟨h1,h2⟩
  have aR:=(anA.1 h2).1
  rw[h.hl]at aR
  rw[h.hh g.toNat (by omega) aR]at h2
  injection h2 with h2
  exact⟨by omega,by omega,of_decide_eq_true h2⟩
 ·rintro⟨h1,h2,h3⟩
  exact⟨by omega,by rw[h.hh g.toNat (by omega) (by omega),anQ h3]⟩
theorem oK(cap:Int)(H:Hp):ai Tryz.prog wL [i64 cap] H fun v H'=>ay (
  aq H H'∧((¬ (0≤cap∧cap≤65536)∧v= .tuple [.pointer none,i64 31].toArray)∨
   (0≤cap∧cap≤65536)∧∃c S,v= .tuple [ptr c,i64 0].toArray∧bz H' c S 0 ⟨[false],List.replicate cap.toNat (0,0,0)⟩∧(∀x,S x→H.size≤x))):=by
 refine(GZ cap H).mono ?_
 rintro _ H1 ⟨f,⟨h,rfl⟩| ⟨h,c,S,rfl,h1,h2⟩⟩
 ·exact⟨f,.inl ⟨h,rfl⟩⟩
 ·refine⟨f,.inr ⟨h,c,S,rfl,⟨_,_,_,_,h1,⟨rfl,rfl,fun h h1 h2=>by omega,?_,fun c hc=>?_,fun h=>?_,fun i hi=>hi,fun i hi=>rfl,fun i hi h=>h⟩⟩,h2⟩⟩
  ·simp
  ·rw[apA hc];exact⟨by omega,by simp⟩
  ·unfold Nw.len dP
   split
   ·simp only[Option.getD_none,List.countP_replicate]
    rw[if_neg (by simp;omega)];rfl
   ·rfl
theorem jx{H:Hp}{c:Nat}{S:Nat→Prop}{st:Int}{w:Nw}(h:bz H c S st w)(i:Int):
  ai Tryz.prog bF [ptr c,i64 i] H fun v H'=>ay (v= .bool (decide (w.has i))∧H=H'):=by
 obtain⟨cs,len,rt,aX,h1,h2⟩:=h
 refine(xx h1 i).mono ?_
 rintro _ _ ⟨rfl,rfl⟩
 exact⟨an4 Value.bool (by rw[decide_eq_decide,h2.W2]),rfl⟩
theorem vx{H:Hp}{c:Nat}{S:Nat→Prop}{st:Int}{w:Nw}(h:bz H c S st w)(i:Int):
  ai Tryz.prog kY [ptr c,i64 i] H fun v H'=>ay (v=i64 (w.len i)∧H=H'):=by
 obtain⟨cs,len,rt,aX,h1,h2⟩:=h
 refine(G0 h1 i).mono ?_
 rintro _ _ ⟨rfl,rfl⟩
 exact⟨by rw[h2.mn],rfl⟩
theorem mX{H:Hp}{c:Nat}{S:Nat→Prop}{st:Int}{w:Nw}(h:bz H c S st w):
  ai Tryz.prog dF [ptr c] H fun v H'=>ay (
   (w.hs.length=65537∧v=i64 0∧H=H')∨
   (w.hs.length≠65537∧v=i64 w.hs.length∧∃S',bz H' c S' st w.make∧ah S H H'∧∀x,S' x→S x∨H.size≤x)):=by
 obtain⟨cs,len,rt,aX,h1,h2⟩:=h
 refine(FN h1).mono ?_
 have hl:=h2.hl
 rintro _ H1 (⟨e,rfl,rfl⟩| ⟨e,rfl,S',g1,g2,g3⟩)
 ·exact .inl ⟨by omega,rfl,rfl⟩
 ·refine .inr ⟨by omega,by rw[hl],S',⟨_,_,_,_,g1,?_⟩,g2,g3⟩
  have jj:0<w.hs.length:=(anA.1 h2.h0).1
  refine⟨by simp[Nw.make,hl],?_,fun h a1 a2=>?_,?_,fun c hc=>by have:=h2.lt c hc;omega,h2.mn,fun i hi=>?_,fun i hi=>?_,fun i hi hz=>?_⟩
  ·show(w.hs++[true])[0]? =some false
   rw[anS jj];exact h2.h0
  ·show(w.hs++[true])[h]? =_
   by_cases he:h=len
   ·subst he
    rw[an5 (by omega),hl]
    simp
   ·rw[anS (by omega),h2.hh h a1 (by omega),if_neg he]
  ·show w.cs=_
   rw[h2.cl]
   apply ao4
   intro x hx
   have:=h2.lt x hx
   by_cases h0:0<x.1
   ·simp only[if_pos h0];rw[if_neg (by omega)]
   ·simp only[if_neg h0]
  ·by_cases he:i=len
   ·simp[he]
   ·have:=h2.low i (by omega);simp only[if_neg he];omega
  ·by_cases he:i=len
   ·simp[he]
   ·have:=h2.low i (by omega)
    simp only[if_neg he]
    rw[if_neg (by omega)]
    exact h2.LW i (by omega)
  ·by_cases he:i=len
   ·simp only[if_pos he]at hz;omega
   ·simp only[if_neg he]at hz;exact h2.nz i (by omega) hz
theorem I7{α:Type}(p:α→Bool):∀ (l:List α) (i:Nat) (x y:α),l[i]? =some x→(l.set i y).countP p+(if p x=true then 1 else 0)=l.countP p+(if p y=true then 1 else 0):=by
 intro l
 induction l with
 |nil=>intro i x y h;simp at h
 |cons a l ih=>
  intro i x y h
  cases i with
  |zero=>
   simp only[an7,anK]at h
   subst h
   simp only[ao1,ao6]
   omega
  |succ i=>
   have:=ih i x y (by simpa using h)
   simp only[aop,ao6]
   omega
theorem Nw.iq{w:Nw}{i:Int}{x y:Ce}(hx:w.cs[i.toNat]? =some x)(h:Int):(w.put i y).len h=w.len h - (if 0<h∧x.1=h then 1 else 0)+(if 0<h∧y.1=h then 1 else 0):=by
 unfold Nw.len Nw.put
 by_cases h0:0<h
 ·simp only[if_pos h0,h0,true_and]
  have:=I7 (fun c:Ce=>decide (c.1=h)) w.cs i.toNat x y hx
  simp only[aoq]at this
  split at this<;>split at this<;>simp_all<;>omega
 ·simp only[if_neg h0,h0,false_and,if_false];rfl
theorem oL{H:Hp}{c:Nat}{S:Nat→Prop}{st:Int}{w:Nw}(h:bz H c S st w)(g i k s:Int):
  ai Tryz.prog kZ [ptr c,i64 g,i64 i,wq k s] H fun v H'=>ay (
   (¬ (w.has g∧(0≤i∧i<w.cs.length)∧¬cZ w.cs i)∧v= .bool false∧bz H' c S st w∧ah S H H')∨
   ((w.has g∧(0≤i∧i<w.cs.length)∧¬cZ w.cs i)∧v= .bool true∧bz H' c S st (w.put i (g,k,s))∧ah S H H')):=by
 obtain⟨cs,len,rt,aX,h1,h2⟩:=h
 have rB:w.cs.length=cs.length:=by rw[h2.cl,anW]
 have bv:=w.Bj g
 have zD:=h1.FM
 refine(G1 h1 g i k s (by rw[h2.mn];omega)).mono ?_
 rintro _ H1 (⟨e,rfl,g1,g2⟩| ⟨e,rfl,g1,g2⟩)
 ·exact .inl ⟨by rw[h2.W2,h2.Nn,rB];exact e,rfl,⟨_,_,_,_,g1,h2⟩,g2⟩
 ·refine .inr ⟨by rw[h2.W2,h2.Nn,rB];exact e,rfl,⟨_,_,_,_,g1,?_⟩,g2⟩
  obtain⟨x,hx⟩:∃x,cs[i.toNat]? =some x:=⟨_,anx (by omega)⟩
  have ik:¬0<x.1:=fun ik=>e.2.2 ⟨e.2.1.1,x,hx,ik⟩
  have Rz:=h2.get hx
  rw[if_neg ik]at Rz
  refine⟨h2.hl,h2.h0,h2.hh,?_,fun y hy=>?_,fun j=>?_,h2.low,h2.LW,h2.nz⟩
  ·show w.cs.set i.toNat _=_
   rw[h2.cl,aoo]
   simp only[if_pos e.1.1,e.1.2.2]
   congr 3
   omega
  ·rcases ao0 hy with hy|rfl
   ·exact h2.lt y hy
   ·exact⟨by have:=e.1.1;simp only;omega,e.1.2.1⟩
  ·rw[Nw.iq Rz]
   by_cases hj:j=g
   ·subst hj
    have hg:=e.1.1
    rw[if_neg (by rintro⟨_,h⟩;omega),if_pos ⟨hg,rfl⟩,←h2.mn]
    simp[dP]
   ·rw[if_neg (by rintro⟨_,h⟩;omega),if_neg (by rintro⟨_,h⟩;exact hj h.symm),←h2.mn]
    simp[dP,hj]
theorem eU{H:Hp}{c:Nat}{S:Nat→Prop}{st:Int}{w:Nw}(h:bz H c S st w)(i:Int):
  ai Tryz.prog jC [ptr c,i64 i] H fun v H'=>ay (
   (¬cZ w.cs i∧v= .tuple [i64 0,.bool false].toArray∧H=H')∨
   (cZ w.cs i∧∃x,w.cs[i.toNat]? =some x∧v= .tuple [i64 x.1,.bool true].toArray∧bz H' c S st w∧ah S H H')):=by
 obtain⟨cs,len,rt,aX,h1,h2⟩:=h
 refine(vw h1 (fun x hx=>(h2.lt x hx).2) i).mono ?_
 rintro _ H1 (⟨e,rfl,rfl⟩| ⟨e,x,hx,rfl,g1,g2⟩)
 ·exact .inl ⟨by rw[h2.Nn];exact e,rfl,rfl⟩
 ·obtain⟨e0,x',xy,hp⟩:=id e
  rw[hx]at xy
  injection xy with xy
  subst xy
  have hg:=h2.get hx
  rw[if_pos hp]at hg
  exact .inr ⟨by rw[h2.Nn];exact e,_,hg,rfl,⟨_,_,_,_,g1,h2⟩,g2⟩
theorem lS{H:Hp}{c:Nat}{S:Nat→Prop}{st:Int}{w:Nw}(h:bz H c S st w)(i:Int):
  ai Tryz.prog bj [ptr c,i64 i] H fun v H'=>ay (bz H' c S st w∧aq H H'∧(
   (¬cZ w.cs i∧v= .tuple [wq 0 0,.bool false].toArray)∨
   (cZ w.cs i∧∃x,w.cs[i.toNat]? =some x∧v= .tuple [wq x.2.1 x.2.2,.bool true].toArray))):=by
 obtain⟨cs,len,rt,aX,h1,h2⟩:=h
 refine(D8 h1 i).mono ?_
 rintro _ H1 ⟨g1,g2,⟨e,rfl⟩| ⟨e,x,hx,rfl⟩⟩
 ·exact⟨⟨_,_,_,_,g1,h2⟩,g2,.inl ⟨by rw[h2.Nn];exact e,rfl⟩⟩
 ·exact⟨⟨_,_,_,_,g1,h2⟩,g2,.inr ⟨by rw[h2.Nn];exact e,_,h2.get hx,rfl⟩⟩
theorem mY{H:Hp}{c:Nat}{S:Nat→Prop}{st:Int}{w:Nw}(h:bz H c S st w)(i:Int):
  ai Tryz.prog jD [ptr c,i64 i] H fun v H'=>ay (
   (¬cZ w.cs i∧v= .bool false∧H=H')∨
   (cZ w.cs i∧v= .bool true∧bz H' c S st (w.put i (0,0,0))∧ah S H H')):=by
 obtain⟨cs,len,rt,aX,h1,h2⟩:=h
 have zD:=h1.FM
 have rB:w.cs.length=cs.length:=by rw[h2.cl,anW]
 refine(FP h1 (fun x hx=>(h2.lt x hx).2) i (fun j=>by rw[h2.mn];have:=w.Bj j;omega)).mono ?_
 rintro _ H1 (⟨e,rfl,rfl⟩| ⟨e,rfl,x,hx,g1,g2⟩)
 ·exact .inl ⟨by rw[h2.Nn];exact e,rfl,rfl⟩
 ·obtain⟨e0,x',xy,hp⟩:=id e
  rw[hx]at xy
  injection xy with xy
  subst xy
  have hg:=h2.get hx
  rw[if_pos hp]at hg
  have aR:=h2.lt x (anG hx)
  have hnz:rt x.1.toNat≠0:=fun e=>by have:=h2.nz _ (by omega) e;omega
  refine .inr ⟨by rw[h2.Nn];exact e,rfl,⟨_,_,_,_,g1,h2.hl,h2.h0,h2.hh,?_,fun y hy=>?_,fun j=>?_,h2.low,h2.LW,h2.nz⟩,g2⟩
  ·show w.cs.set i.toNat _=_
   rw[h2.cl,aoo]
   rfl
  ·rcases ao0 hy with hy|rfl
   ·exact h2.lt y hy
   ·exact⟨by simp only;omega,by simp only;omega⟩
  ·have hp:=Nw.iq (y:=((0:Int),(0:Int),(0:Int))) hg j
   simp only at hp
   have hm:=h2.mn j
   by_cases hj:j=rt x.1.toNat
   ·subst hj
    rw[if_pos ⟨by omega,rfl⟩,if_neg (by rintro⟨h1,h2⟩;omega)]at hp
    rw[hp,←hm]
    split
    ·rename_i hz
     simp only[dP]at hz
     simp only[dP,uL,if_true,Option.getD_none]
     omega
    ·simp[dP,cY]
   ·rw[if_neg (by rintro⟨_,h⟩;exact hj h.symm),if_neg (by rintro⟨h1,h2⟩;omega)]at hp
    rw[hp,←hm]
    split
    ·simp[dP,cY,uL,hj]
    ·simp[dP,cY,hj]
theorem lT{H:Hp}{c:Nat}{S:Nat→Prop}{st:Int}{w:Nw}(h:bz H c S st w)(i k s:Int):
  ai Tryz.prog iz [ptr c,i64 i,wq k s] H fun v H'=>ay (
   (¬ (cZ w.cs i∧∀x,w.cs[i.toNat]? =some x→¬gW x.2.1 x.2.2 k s)∧v= .bool false∧bz H' c S st w∧aq H H')∨
   (cZ w.cs i∧v= .bool true∧∃x,w.cs[i.toNat]? =some x∧¬gW x.2.1 x.2.2 k s∧bz H' c S st (w.put i (x.1,k,s))∧ah S H H')):=by
 obtain⟨cs,len,rt,aX,h1,h2⟩:=h
 refine(D9 h1 i k s).mono ?_
 rintro _ H1 (⟨e,rfl,g1,g2⟩| ⟨e,rfl,x,hx,hl,g1,g2⟩)
 ·refine .inl ⟨fun hc=>e ⟨(h2.Nn i).1 hc.1,fun x hx=>?_⟩,rfl,⟨_,_,_,_,g1,h2⟩,g2⟩
  have:=hc.2 _ (h2.get hx)
  exact this
 ·have hg:=h2.get hx
  refine .inr ⟨(h2.Nn i).2 e,rfl,_,hg,hl,⟨_,_,_,_,g1,h2.hl,h2.h0,h2.hh,?_,fun y hy=>?_,fun j=>?_,h2.low,h2.LW,h2.nz⟩,g2⟩
  ·show w.cs.set i.toNat _=_
   rw[h2.cl,aoo]
  ·rcases ao0 hy with hy|rfl
   ·exact h2.lt y hy
   ·exact h2.lt x (anG hx)
  ·rw[Nw.iq hg,←h2.mn]
   simp only
   split<;>omega
theorem lU{H:Hp}{c:Nat}{S:Nat→Prop}{st:Int}{w:Nw}(h:bz H c S st w)(a b:Int):
  ai Tryz.prog cS [ptr c,i64 a,i64 b] H fun v H'=>ay (v= .bool (w.ahead a b)∧bz H' c S (if cZ w.cs a∧cZ w.cs b then gX st 1 else st) w∧ah S H H'):=by
 obtain⟨cs,len,rt,aX,h1,h2⟩:=h
 refine(D7 h1 a b).mono ?_
 rintro _ H1 (⟨e,rfl,rfl⟩| ⟨e,x,y,hx,hy,rfl,g1,g2⟩)
 ·have e':¬ (cZ w.cs a∧cZ w.cs b):=fun hc=>e ⟨(h2.Nn a).1 hc.1,(h2.Nn b).1 hc.2⟩
  refine⟨an4 Value.bool ?_,by rw[if_neg e'];exact⟨_,_,_,_,h1,h2⟩,ah.refl _ _⟩
  unfold Nw.ahead
  by_cases ha:cZ w.cs a
  ·by_cases hb:cZ w.cs b
   ·exact absurd ⟨ha,hb⟩ e'
   ·simp[hb]
  ·simp[ha]
 ·have ha:=(h2.Nn a).2 e.1
  have hb:=(h2.Nn b).2 e.2
  refine⟨an4 Value.bool ?_,by rw[if_pos ⟨ha,hb⟩];exact⟨_,_,_,_,g1,h2⟩,g2⟩
  unfold Nw.ahead
  rw[anQ ha,anQ hb,h2.get hx,h2.get hy]
  rfl
theorem bz.Gf{H:Hp}{c:Nat}{S:Nat→Prop}{st:Int}{w:Nw}(h:bz H c S st w):w.hs.length≤65537:=by
 obtain⟨cs,len,rt,aX,⟨⟨fb,nb,ns,mb,_,_,g,_⟩,_⟩,h2⟩:=h
 have:=g.le
 rw[h2.hl]
 omega
theorem bz.home{H:Hp}{c:Nat}{S:Nat→Prop}{st:Int}{w:Nw}(h:bz H c S st w):∀x∈w.cs,0≤x.1∧x.1<w.hs.length:=by
 obtain⟨cs,len,rt,aX,h1,h2⟩:=h
 intro x hx
 rw[h2.cl]at hx
 obtain⟨y,hy,rfl⟩:=aou.1 hx
 have h3:=h2.lt y hy
 rw[h2.hl]
 have h4:=h2.low y.1.toNat (by omega)
 have h5:0<len:=by
  have:=(anA.1 h2.h0).1
  rw[h2.hl]at this
  exact this
 simp only
 split<;>omega
theorem bz.live{H:Hp}{c:Nat}{S:Nat→Prop}{st:Int}{w:Nw}(h:bz H c S st w):∀x∈w.cs,0<x.1→w.hs[x.1.toNat]? =some true:=by
 obtain⟨cs,len,rt,aX,h1,h2⟩:=h
 intro x hx
 rw[h2.cl]at hx
 obtain⟨y,hy,rfl⟩:=aou.1 hx
 have h3:=h2.lt y hy
 simp only
 split
 ·intro h0
  have h4:=h2.low y.1.toNat (by omega)
  have h5:=h2.LW y.1.toNat (by omega)
  rw[show((rt y.1.toNat:Nat):Int).toNat=rt y.1.toNat by omega,h2.hh _ (by omega) h4,h5]
  simp
 ·intro h0;omega
theorem da.Sz{H:Hp}{size n:Nat}{v:Value}{xs:List Value}(h:da H size v n xs):∃a c,v= .slice a n c:=by
 obtain⟨_,⟨rfl,a,c,rfl⟩| ⟨b,o,c,l,rfl,_⟩⟩:=h
 ·exact⟨_,_,rfl⟩
 ·exact⟨_,_,rfl⟩
theorem JP(k s k' s':Int):(Md k s k' s'<0↔gW k s k' s')∧(Md k s k' s'=0↔(k=k'∧s=s')):=by
 refine⟨Me k s k' s',?_⟩
 unfold Md Zb CI
 simp only[List.find?]
 by_cases h1:k<k'
 ·simp[h1];omega
 ·by_cases h2:k'<k
  ·simp[h1,h2];omega
  ·by_cases h3:s<s'
   ·simp[h1,h2,h3];omega
   ·by_cases h4:s'<s
    ·simp[h1,h2,h3,h4];omega
    ·simp[h1,h2,h3,h4];omega
theorem NZ(a b:Int)(x y:Ce):Bi a b x y↔(gW x.2.1 x.2.2 y.2.1 y.2.2∨(x.2.1=y.2.1∧x.2.2=y.2.2)∧a<b):=by
 unfold Bi
 rw[(JP _ _ _ _).1,(JP _ _ _ _).2]
structure dB(H:Hp)(r:Nat)(S:Nat→Prop)(d:Int)(l:List Int)(pl:Int→Option Int):Prop where
 rep:∃sv fp mb,H.own r=some [i64 d,sv,.map (some mb)]∧Sl H 1 sv l.length (l.map i64) fp∧oJ H mb (fun i=>(pl i).map i64)∧
  S r∧S mb∧r≠mb∧(∀b,fp=some b→S b∧b≠r∧b≠mb)
 slt:∀x,S x→x<H.size
theorem dB.ext{H H':Hp}{r:Nat}{S T:Nat→Prop}{d:Int}{l:List Int}{pl:Int→Option Int}(h:dB H r S d l pl)(e:ah T H H')(hd:∀x,S x→¬T x):dB H' r S d l pl:=by
 obtain⟨⟨sv,fp,mb,a1,a2,a3,s1,s2,s3,s4⟩,h2⟩:=h
 exact⟨⟨sv,fp,mb,e.own a1 (hd _ s1),a2.ext e (fun b hb=>hd _ (s4 b hb).1),a3.ext e (hd _ s2),s1,s2,s3,s4⟩,fun x hx=>an3 (h2 x hx) e.size⟩
theorem zT(d:Int)(H:Hp):ai Tryz.prog NC [i64 d] H fun v H'=>ay (
  aq H H'∧((¬cU d∧v= .tuple [.pointer none,i64 22].toArray)∨
   cU d∧∃r S,v= .tuple [ptr r,i64 0].toArray∧dB H' r S d [] (fun _=>none)∧∀x,S x→H.size≤x)):=by
 refine ba NH ⟨rfl,?_⟩
 refine v1 AQ.eq_1 ?_
 refine(qt d H).mono ?_
 rintro _ _ ⟨rfl,rfl⟩
 refine vs ?_
 refine am.dec (fun h=>?_) (fun h=>?_)<;>refine vs ?_
 ·have e1:aq H (H.fX.new 310 [i64 d,.slice none 0 0,.map (some H.size)]):=((ah.refl _ _).fX).new _ _
  refine⟨e1,.inr ⟨h,H.size+1,fun x=>H.size≤x∧x<H.size+1+1,rfl,⟨⟨_,none,H.size,bD (by simp only[kE]),Sl.nil _ _,?_,?_,?_,?_,?_⟩,?_⟩,fun x hx=>hx.1⟩⟩
  ·exact(oJ.new H).ext ((ah.refl (fun _=>False) _).new _ _) (fun h=>h)
  ·omega
  ·omega
  ·omega
  ·intro b hb;cases hb
  ·intro x hx
   simp only[ar,kE]
   exact hx.2
 ·exact⟨ah.refl _ _,.inl ⟨h,rfl⟩⟩
theorem KD{H:Hp}{r:Nat}{S:Nat→Prop}{d:Int}{l:List Int}{pl:Int→Option Int}(h:dB H r S d l pl)(i:Int):
  ai Tryz.prog IH [ptr r,i64 i] H fun v H'=>ay (v=NP (if 0≤i then l[i.toNat]? else none)∧H=H'):=by
 obtain⟨⟨sv,fp,mb,a1,a2,a3,s1,s2,s3,s4⟩,h2⟩:=h
 refine ba IS ⟨rfl,?_⟩
 refine v1 r9.eq_1 ?_
 refine am.dec (fun h=>?_) (fun h=>?_)<;>refine v1 (ae a1) ?_
 ·exact⟨by rw[if_neg (by omega)];rfl,rfl⟩
 ·cases fp with
  |none=>
   obtain⟨_,e,rfl⟩:=a2
   have hl:l=[]:=aoe.1 e
   subst hl
   refine vs ?_
   refine am.cF (by simp only[aoq];omega) ?_
   refine vs ?_
   exact⟨by rw[if_pos (by omega)];rfl,rfl⟩
  |some b=>
   obtain⟨_,l',c,rfl,a4,a5,a6,a7⟩:=a2
   refine vs ?_
   refine am.dec (fun h3=>?_) (fun h3=>?_)<;>refine v1 (ae a1) ?_
   ·exact⟨by rw[if_pos (by omega),anP (by omega)];rfl,rfl⟩
   ·obtain⟨x,hx⟩:∃x,l[i.toNat]? =some x:=⟨_,anx (by omega)⟩
    have G2:l'[i.toNat]? =some (i64 x):=by
     have h1:(l.map i64)[i.toNat]? =some (i64 x):=by simp[hx]
     rw[←a7,an9 (by omega)]at h1
     exact h1
    refine⟨by omega,?_⟩
    refine v3 (ae a4) anD G2 ?_
    exact⟨by rw[if_pos (by omega),hx];rfl,rfl⟩
theorem nk{H:Hp}{r:Nat}{S:Nat→Prop}{d:Int}{l:List Int}{pl:Int→Option Int}(h:dB H r S d l pl)(i x:Int)(hi:0≤i∧i<l.length):
  ai Tryz.prog p7 [ptr r,i64 i,i64 x] H fun v H'=>ay (v= .tuple [].toArray∧dB H' r S d (l.set i.toNat x) (cY pl x i)∧ah S H H'):=by
 obtain⟨⟨sv,fp,mb,a1,a2,a3,s1,s2,s3,s4⟩,h2⟩:=h
 refine ba GI ⟨rfl,?_⟩
 cases fp with
 |none=>obtain⟨_,e,_⟩:=a2;omega
 |some b=>
  have WN:=a2
  obtain⟨_,l',c,rfl,a4,a5,a6,a7⟩:=a2
  refine v2 qn.eq_1 (ae a1) ?_
  refine⟨by omega,?_⟩
  refine v2 a4 anD ?_
  refine⟨by omega,?_⟩
  obtain⟨Qz,G3,UL⟩:=s4 b rfl
  have e1:ah (fun z=>z=b) H (H.wr b (l'.set i.toNat (i64 x))):=(ah.refl (fun z=>z=b) _).wr (fun _=>rfl) _
  have b1:=e1.own a1 (Ne.symm G3)
  have b2:=WN.ww a4 i.toNat (i64 x)
  have b3:=a3.ext e1 (Ne.symm UL)
  refine v1 (ae b1) ?_
  refine b3.Zc fun H2 m2 e2=>?_
  rw[Mf]at m2
  refine vs ?_
  refine⟨rfl,⟨⟨_,some b,mb,by exact e2.own b1 s3,?_,m2,s1,s2,s3,s4⟩,fun z hz=>an3 (h2 z hz) (aok e1.size e2.size)⟩,(e1.mono fun z _ hz=>hz▸Qz).trans (e2.mono fun z _ hz=>hz▸s2)⟩
  rw[anC,aoo]
  exact b2.ext e2 (fun z hz=>by injection hz with hz;exact hz▸UL)
structure N0(ov:Value)(I:Hp→Nat→Prop)(T:Nat→Prop)(lt:Int→Int→Bool)(D:Int→Prop:=fun _=>True):Prop where
 call:∀H n a b,D a→D b→I H n→jm Tryz.prog ov "Ahead" [i64 a,i64 b] H fun v H'=>v= .bool (lt a b)∧I H' (n+1)∧ah T H H'
 nil:QA Tryz.prog (.func (.method "Ahead") #[ov] #[])
 aP:∀H H' n U,I H n→ah U H H'→(∀x,T x→¬U x)→I H' n
 tlt:∀H n,I H n→∀x,T x→x<H.size
structure UpR where
 l:List Int
 pl:Int→Option Int
 at_:Int
 asked:Nat
def gm(lt:Int→Int→Bool)(d x:Int):Nat→List Int→(Int→Option Int)→Int→UpR
 |0,l,pl,i=>⟨l.set i.toNat x,cY pl x i,i,0⟩
 |m+1,l,pl,i=>match bh d i with
  |none=>⟨l.set i.toNat x,cY pl x i,i,0⟩
  |some p=>
   if lt x (l.getD p.toNat 0)=true then
    let r:=gm lt d x m (l.set i.toNat (l.getD p.toNat 0)) (cY pl (l.getD p.toNat 0) i) p
    ⟨r.l,r.pl,r.at_,r.asked+1⟩
   else⟨l.set i.toNat x,cY pl x i,i,1⟩
theorem SA(lt:Int→Int→Bool)(d x:Int):∀ (m m':Nat) (l:List Int) (pl:Int→Option Int) (i:Int),i.toNat≤m→i.toNat≤m'→gm lt d x m l pl i=gm lt d x m' l pl i:=by
 intro m
 induction m with
 |zero=>
  intro m' l pl i h _
  have hn:bh d i=none:=by unfold bh;rw[if_neg (by omega)]
  cases m'<;>simp[gm,hn]
 |succ m ih=>
  intro m' l pl i h h'
  cases hp:bh d i with
  |none=>cases m'<;>simp[gm,hp]
  |some p=>
   have hb:=fA hp
   cases m' with
   |zero=>omega
   |succ m'=>simp only[gm,hp];rw[ih m' _ _ p (by omega) (by omega)]
theorem tw{l:List Int}{i:Nat}{y z:Int}(h:z∈l.set i y):z=y∨z∈l:=(ao0 h).symm
theorem UM(lt:Int→Int→Bool)(d x:Int):∀ (m:Nat) (l:List Int) (pl:Int→Option Int) (i:Int),0≤i→i<l.length→∀z∈(gm lt d x m l pl i).l,z=x∨z∈l:=by
 intro m
 induction m with
 |zero=>intro l pl i _ _ z hz;exact tw hz
 |succ m ih=>
  intro l pl i h0 h1 z hz
  cases hp:bh d i with
  |none=>simp only[gm,hp]at hz;exact tw hz
  |some p=>
   have hb:=fA hp
   simp only[gm,hp]at hz
   split at hz
   ·rcases ih _ _ p (by omega) (by rw[anC];omega) z hz with h|h
    ·exact .inl h
    ·rcases tw h with h|h
     ·rw[h,anE,anx (by omega)]
      exact .inr (api _)
     ·exact .inr h
   ·exact tw hz
theorem uM{ov:Value}{I:Hp→Nat→Prop}{T:Nat→Prop}{lt:Int→Int→Bool}{D:Int→Prop}(ho:N0 ov I T lt D){H:Hp}{r:Nat}{S:Nat→Prop}{d:Int}{l:List Int}{pl:Int→Option Int}
  (h:dB H r S d l pl)(hd:∀x,S x→¬T x){n:Nat}(hI:I H n)(i x:Int)(hi:0≤i∧i<l.length)(hl:l.length≤1000000)(hx:D x:=by trivial)(hD:∀z∈l,D z:=by intros;trivial):
  ai Tryz.prog II [ptr r,ov,i64 i,i64 x] H fun v H'=>ay (
   let R:=gm lt d x i.toNat l pl i
   v=i64 R.at_∧dB H' r S d R.l R.pl∧I H' (n+R.asked)∧ah (fun z=>S z∨T z) H H'):=by
 refine ba IT ⟨rfl,?_⟩
 refine v1 se.eq_1 ?_
 refine bA.intro (fun m env H1=>∃ (l1:List Int) (CJ:Int→Option Int) (i1:Int) (k:Nat),env=[(0,ptr r),(1,ov),(2,i64 i1),(3,i64 x)]∧(∀z∈l1,D z)∧m=i1.toNat∧0≤i1∧i1<l1.length∧l1.length=l.length∧
   dB H1 r S d l1 CJ∧I H1 (n+k)∧ah (fun z=>S z∨T z) H H1∧
   (gm lt d x i.toNat l pl i).l=(gm lt d x i1.toNat l1 CJ i1).l∧(gm lt d x i.toNat l pl i).pl=(gm lt d x i1.toNat l1 CJ i1).pl∧(gm lt d x i.toNat l pl i).at_=(gm lt d x i1.toNat l1 CJ i1).at_∧
   (gm lt d x i.toNat l pl i).asked=k+(gm lt d x i1.toNat l1 CJ i1).asked) i.toNat ⟨l,pl,i,0,rfl,hD,rfl,hi.1,hi.2,rfl,h,hI,ah.refl _ _,rfl,rfl,rfl,by omega⟩ ?_
 rintro m env H1 ⟨l1,CJ,i1,k,rfl,VZ,rfl,i0,il,ll,h1,hI1,e1,u1,u2,u3,u4⟩
 obtain⟨⟨sv,fp,mb,a1,a2,a3,s1,s2,s3,s4⟩,h2⟩:=id h1
 have key:∀o:Option Int,NP o= .tuple [i64 (o.getD 0),.bool o.isSome].toArray:=by intro o;cases o<;>rfl
 refine v1 (ae a1) ?_
 refine(D0 d i1 (by omega) H1).mono ?_
 rintro _ _ ⟨rfl,rfl⟩
 rw[key]
 have stop:∀ (H2:Hp) (k2:Nat),dB H2 r S d l1 CJ→I H2 (n+k+k2)→ah (fun z=>S z∨T z) H H2→gm lt d x i1.toNat l1 CJ i1=⟨l1.set i1.toNat x,cY CJ x i1,i1,k2⟩→
   ai Tryz.prog p7 [ptr r,i64 i1,i64 x] H2 fun _ H'=>(i64 i1=i64 (gm lt d x i.toNat l pl i).at_∧dB H' r S d (gm lt d x i.toNat l pl i).l (gm lt d x i.toNat l pl i).pl∧
    I H' (n+(gm lt d x i.toNat l pl i).asked)∧ah (fun z=>S z∨T z) H H'):=by
  intro H2 k2 g1 g2 g3 g4
  refine(nk g1 i1 x ⟨i0,il⟩).mono ?_
  rintro _ H3 ⟨_,g5,g6⟩
  rw[u1,u2,u3,u4,g4]
  exact⟨rfl,g5,by rw[←apX];exact ho.aP _ _ _ _ g2 g6 (fun z hz hs=>hd z hs hz),g3.trans (g6.mono fun z _ hz=>.inl hz)⟩
 cases hp:bh d i1 with
 |none=>
  simp(disch:=(first|omega| (simp only[Zs]<;>omega)|fail)) only[go_sem, ↓reduceIte,Zv,Option.isSome_none]
  refine(stop H1 0 h1 hI1 e1 ?_).mono ?_
  ·cases hm:i1.toNat<;>simp[gm,hp,hm]
  ·rintro _ H3 ⟨g1,g2,g3,g4⟩
   refine vs ?_
   exact⟨g1,g2,g3,g4⟩
 |some p=>
  have Lt:=fA hp
  obtain⟨b,rfl⟩:∃b,fp=some b:=by
   cases fp with
   |none=>obtain⟨_,e,_⟩:=a2;omega
   |some b=>exact⟨b,rfl⟩
  obtain⟨_,l',c,rfl,a4,a5,a6,a7⟩:=a2
  obtain⟨y,hy⟩:∃y,l1[p.toNat]? =some y:=⟨_,anx (by omega)⟩
  have Af:l'[p.toNat]? =some (i64 y):=by
   have h1:(l1.map i64)[p.toNat]? =some (i64 y):=by simp[hy]
   rw[←a7,an9 (by omega)]at h1
   exact h1
  have hy3:l1.getD p.toNat 0=y:=by simp[List.getD,hy]
  simp(disch:=(first|omega| (simp only[Zs]<;>omega)|fail)) only[go_sem, ↓reduceIte,Zv,Option.isSome_some,Option.getD_some,ae a1]
  refine⟨by omega,?_⟩
  refine v3 (ae a4) anD Af ?_
  refine⟨ho.nil,?_⟩
  refine vs ?_
  refine jm.mono (ho.call H1 (n+k) x y hx (VZ y (anG hy)) hI1) ?_
  rintro _ H2 ⟨rfl,RC,e2⟩
  have N9:=h1.ext e2 hd
  have re:=e1.trans (e2.mono fun z _ hz=>.inr hz)
  have b1:=e2.own a1 (hd _ s1)
  have b4:=e2.own a4 (hd _ (s4 b rfl).1)
  refine vs ?_
  cases aR:lt x y with
  |false=>
   refine vs ?_
   refine(stop H2 1 N9 RC re ?_).mono ?_
   ·obtain⟨q,hq⟩:∃q,i1.toNat=q+1:=⟨i1.toNat - 1,by omega⟩
    rw[hq]
    simp[gm,hp,hy,aR,hq]
   ·rintro _ H3 ⟨g1,g2,g3,g4⟩
    refine vs ?_
    exact⟨g1,g2,g3,g4⟩
  |true=>
   refine v1 (ae b1) ?_
   refine⟨by omega,?_⟩
   refine v3 (ae b4) anD Af ?_
   refine(nk N9 i1 y ⟨i0,il⟩).mono ?_
   rintro _ H3 ⟨_,g5,g6⟩
   refine vs ?_
   obtain⟨q,hq⟩:∃q,i1.toNat=q+1:=⟨i1.toNat - 1,by omega⟩
   have Fh:gm lt d x i1.toNat l1 CJ i1=⟨(gm lt d x p.toNat (l1.set i1.toNat y) (cY CJ y i1) p).l,(gm lt d x p.toNat (l1.set i1.toNat y) (cY CJ y i1) p).pl,(gm lt d x p.toNat (l1.set i1.toNat y) (cY CJ y i1) p).at_,
     (gm lt d x p.toNat (l1.set i1.toNat y) (cY CJ y i1) p).asked+1⟩:=by
    rw[SA lt d x p.toNat q _ _ p (anO _) (by omega),hq]
    simp only[gm,hp,hy3,aR,if_true,hq]
   refine⟨p.toNat,by omega,l1.set i1.toNat y,cY CJ y i1,p,k+1,rfl,fun z hz=>(tw hz).elim (fun e=>e▸VZ y (anG hy)) (VZ z),rfl,by omega,by rw[anC];omega,by rw[anC];exact ll,g5,
    ho.aP _ _ _ _ RC g6 (fun z hz hs=>hd z hs hz),re.trans (g6.mono fun z _ hz=>.inl hz),by rw[u1,Fh],by rw[u2,Fh],by rw[u3,Fh],by rw[u4,Fh];simp only;omega⟩
theorem I8{ov:Value}{I:Hp→Nat→Prop}{T:Nat→Prop}{lt:Int→Int→Bool}{D:Int→Prop}(ho:N0 ov I T lt D){H:Hp}{r:Nat}{S:Nat→Prop}{d:Int}{l:List Int}{pl:Int→Option Int}
  (h:dB H r S d l pl)(hd:∀x,S x→¬T x){n:Nat}(hI:I H n)(x:Int)(hl:l.length<1000000)(Zd:D x:=by trivial)(hD:∀z∈l,D z:=by intros;trivial):
  ai Tryz.prog GA [ptr r,ov,i64 x] H fun v H'=>ay (
   let R:=gm lt d x l.length (l++[x]) pl l.length
   (pl x≠none∧v= .bool false∧H=H')∨
   (pl x=none∧v= .bool true∧∃S',dB H' r S' d R.l R.pl∧I H' (n+R.asked)∧ah (fun z=>S z∨T z) H H'∧∀z,S' z→S z∨H.size≤z)):=by
 obtain⟨⟨sv,fp,mb,a1,a2,a3,s1,s2,s3,s4⟩,h2⟩:=id h
 have key:jw true (Value.int .i64 0) ((pl x).map i64)= .tuple [i64 ((pl x).getD 0),.bool (pl x).isSome].toArray:=by cases pl x<;>rfl
 refine ba GH ⟨rfl,?_⟩
 refine v4 qm.eq_1 (ae a1) a3.look key ?_
 cases hx:pl x with
 |some p=>
  simp(disch:=(first|omega| (simp only[Zs]<;>omega)|fail)) only[go_sem, ↓reduceIte,Zv,Option.isSome_some]
  exact .inl ⟨by simp,rfl,rfl⟩
 |none=>
  simp(disch:=(first|omega| (simp only[Zs]<;>omega)|fail)) only[go_sem, ↓reduceIte,Zv,Option.isSome_none,ae a1]
  have hb:=aG a1
  have e0:ah (fun _=>False) H (H.new 3 [i64 x]):=(ah.refl _ H).new 3 [i64 x]
  refine Sl.append (a2.ext e0 (fun _ _ h=>h)) (Sl.dw (size:=1) (xs:=[i64 x]) rfl rfl).rd rfl (xt [x]) (by omega) ?_
  intro v' H2 dv hs wu jv
  have b1:=wu.own (e0.own a1 (fun h=>h)) (fun e=>(s4 r e).2.1 rfl)
  have FI:=hs
  obtain⟨f,rfl⟩:∃f,dv=some f:=by
   cases dv with
   |none=>obtain⟨_,e,_⟩:=hs;omega
   |some f=>exact⟨f,rfl⟩
  obtain⟨_,l',c',rfl,g1,g2,g3,g4⟩:=FI
  have hf:(fp=some f)∨H.size≤f:=by
   rcases jv with h| ⟨z,h,h5,h6⟩
   ·exact .inl h.symm
   ·injection h with h;subst h;rw[ar]at h5;exact .inr (by omega)
  have Ry:f≠r∧f≠mb:=by
   rcases hf with h|h
   ·exact(s4 f h).2
   ·have:=a3.lt;omega
  have e2:ah (fun z=>S z) H H2:=(e0.mono fun _ _ h=>h.elim).uF wu (fun z _ hz=>(s4 z hz).1)
  have e3:ah (fun z=>S z) H (H2.wr r [i64 d,.slice (some ⟨f,0,none⟩) (l.length+1) c',.map (some mb)]):=e2.wr (fun _=>s1) _
  have hr:dB (H2.wr r [i64 d,.slice (some ⟨f,0,none⟩) (l.length+1) c',.map (some mb)]) r (fun z=>S z∨z=f) d (l++[x]) pl:=by
   have ew:ah (fun z=>z=r) H2 (H2.wr r [i64 d,.slice (some ⟨f,0,none⟩) (l.length+1) c',.map (some mb)]):=(ah.refl (fun z=>z=r) _).wr (fun _=>rfl) _
   refine⟨⟨.slice (some ⟨f,0,none⟩) (l.length+1) c',some f,mb,?_,?_,((a3.ext e0 (fun h=>h)).ext wu (fun e=>(s4 mb e).2.2 rfl)).ext ew (Ne.symm s3),.inl s1,.inl s2,s3,fun b e=>by cases e;exact⟨.inr rfl,Ry⟩⟩,?_⟩
   ·exact aj b1
   ·rw[anL,aos];exact hs.ext ew (fun b e=>by injection e with e;subst e;exact Ry.1)
   ·rintro z (hz|rfl)
    ·exact an3 (h2 z hz) e3.size
    ·rw[gh];exact aG g1
  have oZ:∀z,(S z∨z=f)→¬T z:=by
   rintro z (hz|rfl) ht
   ·exact hd z hz ht
   ·rcases hf with h|h
    ·exact hd _ (s4 _ h).1 ht
    ·have:=ho.tlt H n hI _ ht;omega
  have RC:=ho.aP _ _ _ _ hI e3 (fun z hz hs=>hd z hs hz)
  simp(disch:=(first|omega| (simp only[Zs]<;>omega)|fail)) only[go_sem, ↓reduceIte,Zv,b1,uE b1]
  rw[wrap64 (by omega) (by omega),show((l.length+1:Nat):Int) - 1=(l.length:Int) by omega]
  refine(uM ho hr oZ RC l.length x ⟨by omega,by rw[anL,an6];omega⟩ (by rw[anL];simp;omega) Zd (fun z hz=>by rcases anR.1 hz with h|h;exact hD z h;rw[anM.1 h];exact Zd)).mono ?_
  rintro _ H3 ⟨_,r1,r2,r3⟩
  refine vs ?_
  refine .inr ⟨rfl,rfl,_,r1,r2,?_,?_⟩
  ·refine(e3.mono fun z _ hz=>Or.inl hz).uF r3 ?_
   rintro z hz ((h|rfl)|h)
   ·exact .inl h
   ·rcases hf with h|h
    ·exact .inl (s4 _ h).1
    ·omega
   ·exact .inr h
  ·rintro z (h|rfl)
   ·exact .inl h
   ·rcases hf with h|h
    ·exact .inl (s4 _ h).1
    ·exact .inr h
theorem FQ{ov:Value}{I:Hp→Nat→Prop}{T:Nat→Prop}{lt:Int→Int→Bool}{D:Int→Prop}(ho:N0 ov I T lt D){H:Hp}{r:Nat}{S:Nat→Prop}{d:Int}{l:List Int}{pl:Int→Option Int}
  (h:dB H r S d l pl)(hd:∀x,S x→¬T x){n:Nat}(hI:I H n)(x:Int)(hl:l.length≤1000000)(hp:∀i,pl x=some i→0≤i∧i<l.length)(Zd:D x:=by trivial)(hD:∀z∈l,D z:=by intros;trivial):
  ai Tryz.prog DB [ptr r,ov,i64 x] H fun v H'=>ay (
   (pl x=none∧v= .bool false∧H=H')∨
   (∃i,pl x=some i∧v= .bool true∧dB H' r S d (gm lt d x i.toNat l pl i).l (gm lt d x i.toNat l pl i).pl∧I H' (n+(gm lt d x i.toNat l pl i).asked)∧ah (fun z=>S z∨T z) H H')):=by
 obtain⟨⟨sv,fp,mb,a1,a2,a3,s1,s2,s3,s4⟩,h2⟩:=id h
 have key:jw true (Value.int .i64 0) ((pl x).map i64)= .tuple [i64 ((pl x).getD 0),.bool (pl x).isSome].toArray:=by cases pl x<;>rfl
 refine ba DP ⟨rfl,?_⟩
 refine v4 mM.eq_1 (ae a1) a3.look key ?_
 cases hx:pl x with
 |none=>
  simp(disch:=(first|omega| (simp only[Zs]<;>omega)|fail)) only[go_sem, ↓reduceIte,Zv,Option.isSome_none]
  exact .inl ⟨rfl,rfl,rfl⟩
 |some i=>
  simp(disch:=(first|omega| (simp only[Zs]<;>omega)|fail)) only[go_sem, ↓reduceIte,Zv,Option.isSome_some,Option.getD_some]
  refine(uM ho h hd hI i x (hp i hx) hl Zd hD).mono ?_
  rintro _ H3 ⟨_,r1,r2,r3⟩
  refine vs ?_
  exact .inr ⟨i,rfl,rfl,r1,r2,r3⟩
theorem rH{H:Hp}{v:Value}{n:Nat}{xs:List Int}(h:da H 1 v n (xs.map i64))(hn:n≤1000000):
  ai Tryz.prog tV [v] H fun r H'=>ay (aq H H'∧∃fp,Sl H' 1 r n (xs.map i64) fp∧∀b,fp=some b→H.size≤b∧b<H'.size):=by
 refine ba ue ⟨rfl,?_⟩
 have hv:∃a c,v= .slice a n c:=by
  obtain⟨_,⟨rfl,a,c,rfl⟩| ⟨b,o,c,l,rfl,_⟩⟩:=h
  ·exact⟨_,_,rfl⟩
  ·exact⟨_,_,rfl⟩
 obtain⟨a,c,rfl⟩:=hv
 refine v1 fe.eq_1 ?_
 cases a with
 |none=>
  have QB:n=0:=by
   obtain⟨_,⟨rfl,_⟩| ⟨b,o,c,l,e,_⟩⟩:=h
   ·rfl
   ·cases e
  have hx:xs.map i64=[]:=aoe.1 (by have:=h.1;simpa[QB]using this)
  simp(disch:=(first|omega| (simp only[Zs]<;>omega)|fail)) only[go_sem, ↓reduceIte,Zv,Option.isNone_none]
  rw[hx,QB]
  exact⟨ah.refl _ _,none,Sl.nil H 1,fun b hb=>by cases hb⟩
 |some ad=>
  simp(disch:=(first|omega| (simp only[Zs]<;>omega)|fail)) only[go_sem, ↓reduceIte,Zv,Option.isNone_some]
  have e0:ah (fun _=>False) H (H.new 3 []):=(ah.refl _ H).new 3 []
  refine Sl.append (Sl.dw (size:=1) (n:=0) (xs:=[]) rfl rfl) (h.fresh e0) rfl (xt xs) (by omega) ?_
  intro v' H2 dv hs wu jv
  refine vs ?_
  refine⟨ah.uF e0 wu (fun z hz Pp=>by injection Pp with Pp;omega),dv,by simpa[NQ]using hs,?_⟩
  intro z hz
  have NN:=wu.size
  rw[ar]at NN
  rcases jv with h| ⟨y,h,h5,h6⟩
  ·rw[h]at hz;injection hz with hz;omega
  ·rw[h]at hz;injection hz with hz;subst hz;rw[ar]at h5;omega
def bU(lt:Int→Int→Bool)(l:List Int)(d i:Int):Nat→Int→Int×Nat
 |0,bW=>(bW,0)
 |m+1,bW=>
  if d*i+(d - m)<l.length then
   let r:=bU lt l d i m (if lt (l.getD (d*i+(d - m)).toNat 0) (l.getD bW.toNat 0)=true then d*i+(d - m)else bW)
   (r.1,r.2+1)
  else bU lt l d i m bW
theorem dB.read{H:Hp}{r:Nat}{S:Nat→Prop}{d:Int}{l:List Int}{pl:Int→Option Int}(h:dB H r S d l pl)(hl:0<l.length):
  ∃f l' c mb,H.own r=some [i64 d,.slice (some ⟨f,0,none⟩) l.length c,.map (some mb)]∧H.own f=some l'∧∀ (i:Nat) (x:Int),l[i]? =some x→l'[i]? =some (i64 x):=by
 obtain⟨⟨sv,fp,mb,a1,a2,a3,s1,s2,s3,s4⟩,h2⟩:=h
 cases fp with
 |none=>obtain⟨_,e,_⟩:=a2;omega
 |some f=>
  obtain⟨_,l',c,rfl,a4,a5,a6,a7⟩:=a2
  refine⟨f,l',c,mb,a1,a4,?_⟩
  intro i x hx
  have hi:=(anA.1 hx).1
  have h1:(l.map i64)[i]? =some (i64 x):=by simp[hx]
  rw[←a7,an9 (by omega)]at h1
  exact h1
theorem FR{ov:Value}{I:Hp→Nat→Prop}{T:Nat→Prop}{lt:Int→Int→Bool}{D:Int→Prop}(ho:N0 ov I T lt D){H:Hp}{r:Nat}{S:Nat→Prop}{d:Int}{l:List Int}{pl:Int→Option Int}
  (h:dB H r S d l pl)(hd:∀x,S x→¬T x){n:Nat}(hI:I H n)(hf:cU d)(i:Int)(hi:0≤i∧i<l.length)(hl:l.length≤1000000)(hD:∀z∈l,D z:=by intros;trivial):
  ai Tryz.prog DD [ptr r,ov,i64 i] H fun v H'=>ay (
   ((l.length:Int)≤d*i+1∧v= .tuple [i64 0,.bool false].toArray∧H=H')∨
   (d*i+1<l.length∧v= .tuple [i64 (bU lt l d i (d - 1).toNat (d*i+1)).1,.bool true].toArray∧dB H' r S d l pl∧I H' (n+(bU lt l d i (d - 1).toNat (d*i+1)).2)∧ah T H H')):=by
 obtain⟨f,l',c,mb,a1,a2,a3⟩:=h.read (by omega)
 have T8:=hf.1
 have hf2:=hf.2
 have hc:∀k,1≤k→k≤d→uG d i k=some (d*i+k):=fun k h1 h2=>by unfold uG;rw[if_pos ⟨hf,by omega,by omega,h1,h2⟩]
 have hb:=uH (i:=i) hf (by omega) (by omega) (by omega:(1:Int)≤1) (by omega)
 refine ba DR ⟨rfl,?_⟩
 refine v2 mO.eq_1 (ae a1) ?_
 refine(vr d i 1 H).mono ?_
 rintro _ _ ⟨rfl,rfl⟩
 rw[hc 1 (by omega) (by omega)]
 simp(disch:=(first|omega| (simp only[Zs]<;>omega)|fail)) only[go_sem, ↓reduceIte,Zv,NP,ae a1]
 refine am.dec (fun h1=>?_) (fun h1=>?_)<;>refine vs ?_
 ·exact .inl ⟨by omega,rfl,rfl⟩
 ·refine bA.intro (fun m env H1=>∃ (bW:Int) (k:Nat),env=[(0,ptr r),(1,ov),(2,i64 i),(8,i64 bW),(10,i64 (d+1 - m))]∧(m:Int)≤d - 1∧0≤bW∧bW<l.length∧
   dB H1 r S d l pl∧I H1 (n+k)∧ah T H H1∧
   (bU lt l d i (d - 1).toNat (d*i+1)).1=(bU lt l d i m bW).1∧(bU lt l d i (d - 1).toNat (d*i+1)).2=k+(bU lt l d i m bW).2) (d - 1).toNat
   ⟨d*i+1,0,by rw[show d+1 - ((d - 1).toNat:Int)=2 by omega],by omega,by omega,by omega,h,hI,ah.refl _ _,rfl,by omega⟩ ?_
  rintro m env H1 ⟨bW,k,rfl,hm,b0,b1,r1,i1,e1,u1,u2⟩
  obtain⟨f1,l1,c1,mb1,g1,g2,g3⟩:=r1.read (by omega)
  refine v1 (ae g1) ?_
  refine am.dec (fun hk=>?_) (fun hk=>?_)<;>refine vs ?_
  ·obtain⟨q,rfl⟩:∃q,m=q+1:=⟨m - 1,by omega⟩
   rw[show d+1 - ((q+1:Nat):Int)=d - q by omega]at*
   refine v1 (ae g1) ?_
   refine(vr d i (d - q) H1).mono ?_
   rintro _ _ ⟨rfl,rfl⟩
   have Gt:=uH (i:=i) hf (by omega) (by omega) (by omega:(1:Int)≤d - q) (by omega)
   rw[hc (d - q) (by omega) (by omega)]
   simp(disch:=(first|omega| (simp only[Zs]<;>omega)|fail)) only[go_sem, ↓reduceIte,Zv,NP,ae g1]
   refine am.dec (fun rB=>?_) (fun rB=>?_)<;>refine vs ?_
   ·obtain⟨x,hx⟩:∃x,l[(d*i+(d - q)).toNat]? =some x:=⟨_,anx (by omega)⟩
    obtain⟨y,hy⟩:∃y,l[bW.toNat]? =some y:=⟨_,anx (by omega)⟩
    have xy:=g3 _ _ hx
    have No:=g3 _ _ hy
    refine v1 (ae g1) ?_
    refine⟨by omega,?_⟩
    refine v4 (ae g1) (ae g2) anD xy ?_
    refine⟨by omega,?_⟩
    refine v3 (ae g2) anD No ?_
    refine⟨ho.nil,?_⟩
    refine vs ?_
    refine jm.mono (ho.call H1 (n+k) x y (hD x (anG hx)) (hD y (anG hy)) i1) ?_
    rintro _ H2 ⟨rfl,RC,e2⟩
    have Dr:∀z,z=(if lt x y=true then d*i+(d - q)else bW)→bU lt l d i (q+1) bW=((bU lt l d i q z).1,(bU lt l d i q z).2+1):=by
     intro z hz
     rw[bU,if_pos rB]
     simp only[List.getD,hx,hy,Option.getD_some,hz]
    refine vs ?_
    refine am.intro (fun aR=>?_) (fun aR=>?_)<;>refine vs ?_
    ·rw[wrap64 (by omega) (by omega)]
     exact⟨q,by omega,d*i+(d - q),k+1,by rw[show d+1 - (q:Int)=d - q+1 by omega],by omega,by omega,by omega,r1.ext e2 hd,RC,e1.trans e2,
      by rw[u1,Dr (d*i+(d - q)) (by rw[if_pos aR])],by rw[u2,Dr (d*i+(d - q)) (by rw[if_pos aR])];simp only;omega⟩
    ·rw[wrap64 (by omega) (by omega)]
     exact⟨q,by omega,bW,k+1,by rw[show d+1 - (q:Int)=d - q+1 by omega],by omega,by omega,by omega,r1.ext e2 hd,RC,e1.trans e2,
      by rw[u1,Dr bW (by rw[if_neg (by rw[aR];simp)])],by rw[u2,Dr bW (by rw[if_neg (by rw[aR];simp)])];simp only;omega⟩
   ·rw[wrap64 (by omega) (by omega)]
    have Dr:bU lt l d i (q+1) bW=bU lt l d i q bW:=by rw[bU,if_neg rB]
    exact⟨q,by omega,bW,k,by rw[show d+1 - (q:Int)=d - q+1 by omega],by omega,by omega,by omega,r1,i1,e1,by rw[u1,Dr],by rw[u2,Dr]⟩
  ·have h0:m=0:=by omega
   subst h0
   refine .inr ⟨by omega,?_,r1,?_,e1⟩
   ·rw[u1];rfl
   ·rw[u2];exact i1
def cW(lt:Int→Int→Bool)(d x:Int):Nat→List Int→(Int→Option Int)→Int→List Int×(Int→Option Int)×Nat
 |0,l,pl,i=>(l.set i.toNat x,cY pl x i,0)
 |m+1,l,pl,i=>
  if(l.length:Int)≤d*i+1 then(l.set i.toNat x,cY pl x i,0)
  else
   let b:=bU lt l d i (d - 1).toNat (d*i+1)
   let y:=l.getD b.1.toNat 0
   if lt y x=true then
    let r:=cW lt d x m (l.set i.toNat y) (cY pl y i) b.1
    (r.1,r.2.1,r.2.2+b.2+1)
   else(l.set i.toNat x,cY pl x i,b.2+1)
theorem nM(lt:Int→Int→Bool)(l:List Int)(d i:Int)(h:0≤d*i):∀ (m:Nat) (bW:Int),(m:Int)≤d - 1→d*i+1≤bW→bW<l.length→d*i+1≤(bU lt l d i m bW).1∧(bU lt l d i m bW).1<l.length:=by
 intro m
 induction m with
 |zero=>intro bW _ h1 h2;exact⟨h1,h2⟩
 |succ m ih=>
  intro bW hm h1 h2
  unfold bU
  split
  ·simp only
   split
   ·exact ih _ (by omega) (by omega) (by omega)
   ·exact ih _ (by omega) h1 h2
  ·exact ih _ (by omega) h1 h2
theorem qB{d i b:Int}(hf:cU d)(hi:0≤i)(hb:d*i+1≤b):i<b:=by
 have h1:=hf.1
 have:1*i≤d*i:=ape (by omega) hi
 omega
theorem Oa(lt:Int→Int→Bool)(d x:Int)(hf:cU d):∀ (m m':Nat) (l:List Int) (pl:Int→Option Int) (i:Int),0≤i→l.length≤i.toNat+m→l.length≤i.toNat+m'→
  cW lt d x m l pl i=cW lt d x m' l pl i:=by
 have hz:∀ (m:Nat) (l:List Int) (pl:Int→Option Int) (i:Int),0≤i→l.length≤i.toNat→cW lt d x m l pl i=(l.set i.toNat x,cY pl x i,0):=by
  intro m l pl i hi hl
  cases m with
  |zero=>rfl
  |succ m=>
   have h1:=hf.1
   have:1*i≤d*i:=ape (by omega) hi
   rw[cW,if_pos (by omega)]
 intro m
 induction m with
 |zero=>intro m' l pl i hi h h';rw[hz 0 l pl i hi (by omega),hz m' l pl i hi (by omega)]
 |succ m ih=>
  intro m' l pl i hi h h'
  cases m' with
  |zero=>rw[hz 0 l pl i hi (by omega),hz (m+1) l pl i hi (by omega)]
  |succ m'=>
   rw[cW,cW]
   split
   ·rfl
   ·rename_i hc
    have h1:=hf.1
    have T9:0≤d*i:=apj (by omega) hi
    have hb:=nM lt l d i T9 (d - 1).toNat (d*i+1) (by omega) (by omega) (by omega)
    have aR:=qB hf hi hb.1
    simp only
    split
    ·rw[ih m' _ _ _ (by omega) (by rw[anC];omega) (by rw[anC];omega)]
    ·rfl
theorem G4{ov:Value}{I:Hp→Nat→Prop}{T:Nat→Prop}{lt:Int→Int→Bool}{D:Int→Prop}(ho:N0 ov I T lt D){H:Hp}{r:Nat}{S:Nat→Prop}{d:Int}{l:List Int}{pl:Int→Option Int}
  (h:dB H r S d l pl)(hd:∀x,S x→¬T x){n:Nat}(hI:I H n)(hf:cU d)(i x:Int)(hi:0≤i∧i<l.length)(hl:l.length≤1000000)(hx:D x:=by trivial)(hD:∀z∈l,D z:=by intros;trivial):
  ai Tryz.prog Fp [ptr r,ov,i64 i,i64 x] H fun v H'=>ay (
   let R:=cW lt d x l.length l pl i
   dB H' r S d R.1 R.2.1∧I H' (n+R.2.2)∧ah (fun z=>S z∨T z) H H'):=by
 refine ba Fz ⟨rfl,?_⟩
 refine v1 oD.eq_1 ?_
 refine bA.intro (fun m env H1=>∃ (l1:List Int) (CJ:Int→Option Int) (i1:Int) (k:Nat),env=[(0,ptr r),(1,ov),(2,i64 i1),(3,i64 x)]∧(∀z∈l1,D z)∧m=l1.length - i1.toNat∧0≤i1∧i1<l1.length∧l1.length=l.length∧
   dB H1 r S d l1 CJ∧I H1 (n+k)∧ah (fun z=>S z∨T z) H H1∧
   (cW lt d x l.length l pl i).1=(cW lt d x l1.length l1 CJ i1).1∧(cW lt d x l.length l pl i).2.1=(cW lt d x l1.length l1 CJ i1).2.1∧
   (cW lt d x l.length l pl i).2.2=k+(cW lt d x l1.length l1 CJ i1).2.2) (l.length - i.toNat) ⟨l,pl,i,0,rfl,hD,rfl,hi.1,hi.2,rfl,h,hI,ah.refl _ _,rfl,rfl,by omega⟩ ?_
 rintro m env H1 ⟨l1,CJ,i1,k,rfl,VZ,rfl,i0,il,ll,h1,hI1,e1,u1,u2,u3⟩
 have hd1:=hf.1
 have T9:0≤d*i1:=apj (by omega) i0
 have stop:∀ (H2:Hp) (k2:Nat),dB H2 r S d l1 CJ→I H2 (n+k+k2)→ah (fun z=>S z∨T z) H H2→cW lt d x l1.length l1 CJ i1=(l1.set i1.toNat x,cY CJ x i1,k2)→
   ai Tryz.prog p7 [ptr r,i64 i1,i64 x] H2 fun _ H'=>(dB H' r S d (cW lt d x l.length l pl i).1 (cW lt d x l.length l pl i).2.1∧
    I H' (n+(cW lt d x l.length l pl i).2.2)∧ah (fun z=>S z∨T z) H H'):=by
  intro H2 k2 g1 g2 g3 g4
  refine(nk g1 i1 x ⟨i0,il⟩).mono ?_
  rintro _ H3 ⟨_,g5,g6⟩
  rw[u1,u2,u3,g4]
  exact⟨g5,by rw[←apX];exact ho.aP _ _ _ _ g2 g6 (fun z hz hs=>hd z hs hz),g3.trans (g6.mono fun z _ hz=>.inl hz)⟩
 obtain⟨q,hq⟩:∃q,l1.length=q+1:=⟨l1.length - 1,by omega⟩
 refine vs ?_
 refine(FR ho h1 hd hI1 hf i1 ⟨i0,il⟩ (by omega) VZ).mono ?_
 rintro _ H2 (⟨hc,rfl,rfl⟩| ⟨hc,rfl,h2,RC,e2⟩)
 ·refine vs ?_
  refine(stop H1 0 h1 hI1 e1 ?_).mono ?_
  ·rw[hq,cW,if_pos hc]
  ·rintro _ H3 ⟨g1,g2,g3⟩
   refine vs ?_
   exact⟨g1,g2,g3⟩
 ·have hb:=nM lt l1 d i1 T9 (d - 1).toNat (d*i1+1) (by omega) (by omega) hc
  have aR:=qB hf i0 hb.1
  obtain⟨f1,l',c1,mb1,g1,g2,g3⟩:=h2.read (by omega)
  obtain⟨y,hy⟩:∃y,l1[(bU lt l1 d i1 (d - 1).toNat (d*i1+1)).1.toNat]? =some y:=⟨_,anx (by omega)⟩
  have No:=g3 _ _ hy
  have hy3:l1.getD (bU lt l1 d i1 (d - 1).toNat (d*i1+1)).1.toNat 0=y:=by rw[anE,hy];rfl
  have re:=e1.trans (e2.mono fun z _ hz=>.inr hz)
  refine v1 (ae g1) ?_
  refine⟨by omega,?_⟩
  refine v3 (ae g2) anD No ?_
  refine⟨ho.nil,?_⟩
  refine vs ?_
  refine jm.mono (ho.call H2 _ y x (VZ y (anG hy)) hx RC) ?_
  rintro _ H3 ⟨rfl,hI3,e3⟩
  have h3:=h2.ext e3 hd
  have zU:=re.trans (e3.mono fun z _ hz=>.inr hz)
  obtain⟨f4,l4,c4,mb4,k1,k2,k3⟩:=h3.read (by omega)
  have hy4:=k3 _ _ hy
  refine vs ?_
  cases rj:lt y x with
  |false=>
   refine vs ?_
   refine(stop H3 ((bU lt l1 d i1 (d - 1).toNat (d*i1+1)).2+1) h3 (by rw[←apX];exact hI3) zU ?_).mono ?_
   ·rw[hq,cW,if_neg (by omega)]
    simp only[hy3,rj]
    rfl
   ·rintro _ H4 ⟨g1,g2,g3⟩
    refine vs ?_
    exact⟨g1,g2,g3⟩
  |true=>
   refine v1 (ae k1) ?_
   refine⟨by omega,?_⟩
   refine v3 (ae k2) anD hy4 ?_
   refine(nk h3 i1 y ⟨i0,il⟩).mono ?_
   rintro _ H4 ⟨_,g5,g6⟩
   refine vs ?_
   have W3:cW lt d x l1.length l1 CJ i1=((cW lt d x (l1.set i1.toNat y).length (l1.set i1.toNat y) (cY CJ y i1) (bU lt l1 d i1 (d - 1).toNat (d*i1+1)).1).1,
     (cW lt d x (l1.set i1.toNat y).length (l1.set i1.toNat y) (cY CJ y i1) (bU lt l1 d i1 (d - 1).toNat (d*i1+1)).1).2.1,
     (cW lt d x (l1.set i1.toNat y).length (l1.set i1.toNat y) (cY CJ y i1) (bU lt l1 d i1 (d - 1).toNat (d*i1+1)).1).2.2+(bU lt l1 d i1 (d - 1).toNat (d*i1+1)).2+1):=by
    rw[Oa lt d x hf (l1.set i1.toNat y).length q _ _ _ (by omega) (by omega) (by rw[anC];omega),hq,cW,if_neg (by omega)]
    simp only[hy3,rj,if_true]
   refine⟨l1.length - (bU lt l1 d i1 (d - 1).toNat (d*i1+1)).1.toNat,by omega,l1.set i1.toNat y,cY CJ y i1,(bU lt l1 d i1 (d - 1).toNat (d*i1+1)).1,k+(bU lt l1 d i1 (d - 1).toNat (d*i1+1)).2+1,rfl,fun z hz=>(tw hz).elim (fun e=>e▸VZ y (anG hy)) (VZ z),by rw[anC],by omega,by rw[anC];omega,by rw[anC];exact ll,g5,?_,
    zU.trans (g6.mono fun z _ hz=>.inl hz),by rw[u1,W3],by rw[u2,W3],by rw[u3,W3];simp only;omega⟩
   have:=ho.aP _ _ _ _ hI3 g6 (fun z hz hs=>hd z hs hz)
   rw[show n+(k+(bU lt l1 d i1 (d - 1).toNat (d*i1+1)).2+1)=n+k+(bU lt l1 d i1 (d - 1).toNat (d*i1+1)).2+1 by omega]
   exact this
def pa(d:Int)(j:Nat):Nat:=(((j:Int) - 1) / d).toNat
theorem qC{d:Int}(hf:cU d){i:Int}(h1:1≤i):∃p,bh d i=some p∧p.toNat=pa d i.toNat∧0≤p∧p<i:=by
 have hp:bh d i=some ((i - 1) / d):=by unfold bh;rw[if_pos ⟨hf,h1⟩]
 have hb:=fA hp
 refine⟨_,hp,?_,hb.1,hb.2⟩
 unfold pa
 rw[show((i.toNat:Nat):Int)=i by omega]
theorem cO{d:Int}(hf:cU d){j:Nat}(h:1≤j):pa d j<j:=by
 obtain⟨p,_,h1,h2,h3⟩:=qC hf (i:=(j:Int)) (by omega)
 simp only[Int.toNat_natCast]at h1
 omega
theorem SC{d:Int}(hf:cU d){i j:Nat}(h:1≤j):pa d j=i↔(d*i+1≤j∧(j:Int)≤d*i+d):=by
 have hd:=hf.1
 unfold pa
 have e1:=Int.mul_ediv_add_emod ((j:Int) - 1) d
 have e2:=Int.emod_nonneg ((j:Int) - 1) (show d≠0 by omega)
 have e3:=Int.emod_lt_of_pos ((j:Int) - 1) (show 0<d by omega)
 have e4:0≤((j:Int) - 1) / d:=Int.ediv_nonneg (by omega) (by omega)
 constructor
 ·intro h
  have:((j:Int) - 1) / d=i:=by omega
  rw[this]at e1
  omega
 ·rintro⟨h1,h2⟩
  have h3:=vt (d:=d) (i:=(i:Int)) (j:=(j:Int) - d*i) hd (by omega) (by omega) (by omega)
  rw[show d*(i:Int)+((j:Int) - d*i) - 1=(j:Int) - 1 by omega]at h3
  omega
theorem dH(l:List Int)(i j:Nat)(v:Int)(hi:i<l.length):(l.set i v).getD j 0=if i=j then v else l.getD j 0:=by
 rw[anE,List.getElem?_set,anE]
 by_cases h:i=j
 ·subst h;simp[hi]
 ·simp[h]
def eZ(lt:Int→Int→Bool)(d:Int)(l:List Int):Prop:=∀j,1≤j→j<l.length→lt (l.getD j 0) (l.getD (pa d j) 0)=false
def dM(lt:Int→Int→Bool)(d:Int)(l:List Int)(i:Nat):Prop:=
 (∀j,1≤j→j<l.length→j≠i→pa d j≠i→lt (l.getD j 0) (l.getD (pa d j) 0)=false)∧
 (∀j,1≤j→j<l.length→pa d j=i→1≤i→lt (l.getD j 0) (l.getD (pa d i) 0)=false)
theorem eZ.but{lt:Int→Int→Bool}(ho:bC lt){d:Int}(hf:cU d){l:List Int}(h:eZ lt d l)(i:Nat):dM lt d l i:=by
 refine⟨fun j h1 h2 _ _=>h j h1 h2,fun j h1 h2 h3 h4=>?_⟩
 have e1:=h j h1 h2
 have e2:=h i h4 (by have:=cO hf h1;omega)
 rw[h3]at e1
 exact ho.nt _ _ _ e1 e2
theorem dM.set{lt:Int→Int→Bool}{d:Int}(hf:cU d){l:List Int}{i:Nat}(hi:i<l.length)(h:dM lt d l i){x:Int}(hB:∀j,1≤j→j<l.length→pa d j=i→lt (l.getD j 0) x=false)
  (hD:1≤i→lt x (l.getD (pa d i) 0)=false):eZ lt d (l.set i x):=by
 intro j h1 h2
 rw[anC]at h2
 rw[dH _ _ _ _ hi,dH _ _ _ _ hi]
 have aR:=cO hf h1
 by_cases e1:i=j
 ·subst e1
  rw[if_pos rfl,if_neg (by omega)]
  exact hD h1
 ·rw[if_neg e1]
  by_cases e2:i=pa d j
  ·rw[if_pos e2];exact hB j h1 h2 e2.symm
  ·rw[if_neg e2];exact h.1 j h1 h2 (Ne.symm e1) (Ne.symm e2)
theorem KE{lt:Int→Int→Bool}(ho:bC lt){d:Int}(hf:cU d)(x:Int):∀ (m:Nat) (l:List Int) (pl:Int→Option Int) (i:Int),i.toNat≤m→0≤i→i<l.length→dM lt d l i.toNat→
  (∀j,1≤j→j<l.length→pa d j=i.toNat→lt (l.getD j 0) x=false)→eZ lt d (gm lt d x m l pl i).l:=by
 intro m
 induction m with
 |zero=>
  intro l pl i hm h0 hl hA hB
  exact hA.set hf (by omega) hB (fun h=>by omega)
 |succ m ih=>
  intro l pl i hm h0 hl hA hB
  by_cases hi:1≤i
  ·obtain⟨p,hp,Nh,p0,p1⟩:=qC hf hi
   unfold gm
   rw[hp]
   simp only[Nh]
   cases aR:lt x (l.getD (pa d i.toNat) 0)with
   |false=>
    exact hA.set hf (by omega) hB (fun _=>aR)
   |true=>
    simp only[if_true]
    have tR:i.toNat<l.length:=by omega
    have hpi:=cO hf (j:=i.toNat) (by omega)
    refine ih _ _ p (by omega) p0 (by rw[anC];omega) ⟨fun j h1 h2 h3 h4=>?_,fun j h1 h2 h3 h4=>?_⟩ (fun j h1 h2 h3=>?_)
    ·rw[anC]at h2
     rw[Nh]at h3 h4
     rw[dH _ _ _ _ tR,dH _ _ _ _ tR]
     have e1:i.toNat≠j:=fun e=>h4 (by rw[←e])
     rw[if_neg e1]
     by_cases e2:i.toNat=pa d j
     ·rw[if_pos e2]
      exact hA.2 j h1 h2 e2.symm (by omega)
     ·rw[if_neg e2]
      exact hA.1 j h1 h2 (Ne.symm e1) (Ne.symm e2)
    ·rw[anC]at h2
     rw[Nh]at h3 h4 ⊢
     rw[dH _ _ _ _ tR,dH _ _ _ _ tR]
     have Qa:=cO hf h4
     rw[if_neg (show i.toNat≠pa d (pa d i.toNat) by omega)]
     have e3:=hA.1 (pa d i.toNat) h4 (by omega) (by omega) (by omega)
     by_cases e1:i.toNat=j
     ·rw[if_pos e1];exact e3
     ·rw[if_neg e1]
      have e4:=hA.1 j h1 h2 (Ne.symm e1) (by omega)
      rw[h3]at e4
      exact ho.nt _ _ _ e4 e3
    ·rw[anC]at h2
     rw[Nh]at h3
     rw[dH _ _ _ _ tR]
     by_cases e1:i.toNat=j
     ·rw[if_pos e1];exact ho.asym aR
     ·rw[if_neg e1]
      have e4:=hA.1 j h1 h2 (Ne.symm e1) (by omega)
      rw[h3]at e4
      cases hx:lt (l.getD j 0) x with
      |false=>rfl
      |true=>have:=ho.tr _ _ _ hx aR;rw[this]at e4;cases e4
  ·have FO:i=0:=by omega
   subst FO
   have hn:bh d 0=none:=by unfold bh;rw[if_neg (by omega)]
   unfold gm
   rw[hn]
   exact hA.set hf (by omega) hB (fun h=>by simp at h)
theorem G5(lt:Int→Int→Bool)(d x:Int):∀ (m:Nat) (l:List Int) (pl:Int→Option Int) (i:Int),(gm lt d x m l pl i).asked≤Nj d m i:=by
 intro m
 induction m with
 |zero=>intro l pl i;simp[gm,Nj]
 |succ m ih=>
  intro l pl i
  unfold gm Nj
  cases hp:bh d i with
  |none=>simp
  |some p=>
   simp only
   split
   ·have:=ih (l.set i.toNat (l.getD p.toNat 0)) (cY pl (l.getD p.toNat 0) i) p
    simp only;omega
   ·simp only;omega
theorem yk(lt:Int→Int→Bool)(d x:Int):∀ (m:Nat) (l:List Int) (pl:Int→Option Int) (i:Int),(gm lt d x m l pl i).l.length=l.length:=by
 intro m
 induction m with
 |zero=>intro l pl i;simp[gm]
 |succ m ih=>
  intro l pl i
  unfold gm
  cases hp:bh d i with
  |none=>simp
  |some p=>
   simp only
   split
   ·simp[ih]
   ·simp
theorem SD{lt:Int→Int→Bool}{d:Int}(hf:cU d)(x:Int)(l:List Int)(pl:Int→Option Int)(i:Int)(h0:0≤i):
  ((gm lt d x i.toNat l pl i).at_=i∧(gm lt d x i.toNat l pl i).l=l.set i.toNat x∧(gm lt d x i.toNat l pl i).pl=cY pl x i∧(gm lt d x i.toNat l pl i).asked≤1∧(1≤i→lt x (l.getD (pa d i.toNat) 0)=false))∨
  ((gm lt d x i.toNat l pl i).at_<i∧1≤i∧lt x (l.getD (pa d i.toNat) 0)=true):=by
 by_cases hi:1≤i
 ·obtain⟨p,hp,Nh,p0,p1⟩:=qC hf hi
  obtain⟨q,hq⟩:∃q,i.toNat=q+1:=⟨i.toNat - 1,by omega⟩
  have low:∀ (m:Nat) (l:List Int) (pl:Int→Option Int) (i:Int),(gm lt d x m l pl i).at_≤i:=by
   intro m
   induction m with
   |zero=>intro l pl i;simp[gm]
   |succ m ih=>
    intro l pl i
    unfold gm
    cases hp:bh d i with
    |none=>simp
    |some p=>
     have:=fA hp
     simp only
     split
     ·have:=ih (l.set i.toNat (l.getD p.toNat 0)) (cY pl (l.getD p.toNat 0) i) p
      simp only;omega
     ·simp only;omega
  rw[hq,gm,hp,←hq]
  simp only[Nh]
  cases aR:lt x (l.getD (pa d i.toNat) 0)with
  |false=>exact .inl ⟨rfl,rfl,rfl,anO _,fun _=>rfl⟩
  |true=>
   have:=low q (l.set i.toNat (l.getD (pa d i.toNat) 0)) (cY pl (l.getD (pa d i.toNat) 0) i) p
   exact .inr ⟨by simp only[if_true];omega,hi,rfl⟩
 ·have FO:i=0:=by omega
  subst FO
  exact .inl ⟨rfl,rfl,rfl,by simp[gm],fun h=>by omega⟩
def SE(l:List Int)(pl:Int→Option Int)(i:Int)(x:Int):Prop:=
 ∀z,z≠x→∀k,pl z=some k↔(0≤k∧k≠i∧l[k.toNat]? =some z)
def Ea(l:List Int)(pl:Int→Option Int):Prop:=∀z k,pl z=some k↔(0≤k∧l[k.toNat]? =some z)
theorem Ea.ae5{l:List Int}{pl:Int→Option Int}(h:Ea l pl){i x:Int}(hx:l[i.toNat]? =some x)(h0:0≤i):SE l pl i x:=by
 intro z hz k
 rw[h z k]
 constructor
 ·rintro⟨a,b⟩;exact⟨a,fun e=>by subst e;rw[hx]at b;injection b with b;exact hz b.symm,b⟩
 ·rintro⟨a,_,b⟩;exact⟨a,b⟩
theorem Ea.G6{l:List Int}{pl:Int→Option Int}(h:Ea l pl){i j:Nat}{z:Int}(hi:l[i]? =some z)(hj:l[j]? =some z):i=j:=by
 have h1:=(h z i).2 ⟨by omega,by simpa using hi⟩
 have h2:=(h z j).2 ⟨by omega,by simpa using hj⟩
 rw[h1]at h2
 injection h2 with h2
 omega
def JQ(l:List Int)(i:Int)(z:Int):Prop:=∃k:Nat,(k:Int)≠i∧l[k]? =some z
theorem SE.set{l:List Int}{pl:Int→Option Int}{i x:Int}(h:SE l pl i x)(h0:0≤i)(hl:i<l.length)(hx:¬JQ l i x):Ea (l.set i.toNat x) (cY pl x i):=by
 intro z k
 have tR:i.toNat<l.length:=by omega
 by_cases e:z=x
 ·subst e
  simp only[cY,if_true]
  constructor
  ·intro hk;injection hk with hk;subst hk;exact⟨h0,by rw[anI tR]⟩
  ·rintro⟨a,b⟩
   by_cases e2:k=i
   ·rw[e2]
   ·exfalso
    rw[anH (by omega)]at b
    exact hx ⟨k.toNat,by omega,b⟩
 ·simp only[cY,if_neg e]
  rw[h z e k]
  constructor
  ·rintro⟨a,b,c⟩;exact⟨a,by rw[anH (by omega)];exact c⟩
  ·rintro⟨a,b⟩
   have e2:k≠i:=fun e2=>by
    rw[e2,anI tR]at b;injection b with b;exact e b.symm
   exact⟨a,e2,by rw[anH (by omega)]at b;exact b⟩
theorem SE.move{l:List Int}{pl:Int→Option Int}{i p x y:Int}(h:SE l pl i x)(h0:0≤i)(hl:i<l.length)(p0:0≤p)(hpi:p≠i)(hy:l[p.toNat]? =some y)(hx:¬JQ l i x):
  SE (l.set i.toNat y) (cY pl y i) p x∧(¬JQ (l.set i.toNat y) p x)∧∀z,JQ (l.set i.toNat y) p z↔JQ l i z:=by
 have tR:i.toNat<l.length:=by omega
 have rj:y≠x:=fun e=>hx ⟨p.toNat,by omega,by rw[hy,e]⟩
 have aaP:∀k:Int,0≤k→k≠i→l[k.toNat]? =some y→k=p:=by
  intro k k0 ki hk
  have h1:=(h y rj k).2 ⟨k0,ki,hk⟩
  have h2:=(h y rj p).2 ⟨p0,hpi,hy⟩
  rw[h1]at h2;injection h2
 have Mi:∀z,JQ (l.set i.toNat y) p z↔JQ l i z:=by
  intro z
  constructor
  ·rintro⟨k,k1,k2⟩
   by_cases e:i.toNat=k
   ·rw[←e,anI tR]at k2
    injection k2 with k2
    subst k2
    exact⟨p.toNat,by omega,hy⟩
   ·rw[anH e]at k2
    exact⟨k,by omega,k2⟩
  ·rintro⟨k,k1,k2⟩
   by_cases e:(k:Int)=p
   ·refine⟨i.toNat,by omega,?_⟩
    rw[anI tR]
    rw[show k=p.toNat by omega,hy]at k2
    exact k2
   ·exact⟨k,e,by rw[anH (by omega)];exact k2⟩
 refine⟨?_,fun hc=>hx ((Mi x).1 hc),Mi⟩
 intro z hz k
 by_cases e:z=y
 ·subst e
  simp only[cY,if_true]
  constructor
  ·intro hk;injection hk with hk;subst hk;exact⟨h0,by omega,by rw[anI tR]⟩
  ·rintro⟨a,b,c⟩
   by_cases e2:k=i
   ·rw[e2]
   ·rw[anH (by omega)]at c
    exact absurd (aaP k a e2 c) b
 ·simp only[cY,if_neg e]
  rw[h z hz k]
  constructor
  ·rintro⟨a,b,c⟩
   refine⟨a,fun e2=>?_,by rw[anH (by omega)];exact c⟩
   rw[e2,hy]at c;injection c with c;exact e c.symm
  ·rintro⟨a,b,c⟩
   have e2:k≠i:=fun e2=>by rw[e2,anI tR]at c;injection c with c;exact e c.symm
   exact⟨a,e2,by rw[anH (by omega)]at c;exact c⟩
theorem mem_set{l:List Int}{i:Nat}(hi:i<l.length)(x z:Int):z∈l.set i x↔z=x∨JQ l i z:=by
 constructor
 ·intro h
  obtain⟨k,hk⟩:=an8 h
  by_cases e:i=k
  ·subst e;rw[anI hi]at hk;injection hk with hk;exact .inl hk.symm
  ·rw[anH e]at hk;exact .inr ⟨k,by omega,hk⟩
 ·rintro(rfl| ⟨k,k1,k2⟩)
  ·exact anG (i:=i) (anI hi)
  ·exact anG (i:=k) (by rw[anH (by omega)];exact k2)
theorem Eb{lt:Int→Int→Bool}{d:Int}(x:Int):∀ (m:Nat) (l:List Int) (pl:Int→Option Int) (i:Int),i.toNat≤m→0≤i→i<l.length→SE l pl i x→¬JQ l i x→
  Ea (gm lt d x m l pl i).l (gm lt d x m l pl i).pl∧∀z,z∈(gm lt d x m l pl i).l↔z=x∨JQ l i z:=by
 intro m
 induction m with
 |zero=>
  intro l pl i hm h0 hl hP hx
  exact⟨hP.set h0 hl hx,fun z=>by have:=mem_set (l:=l) (i:=i.toNat) (by omega) x z;rw[show((i.toNat:Nat):Int)=i by omega]at this;exact this⟩
 |succ m ih=>
  intro l pl i hm h0 hl hP hx
  have Dv:Ea (l.set i.toNat x) (cY pl x i)∧∀z,z∈l.set i.toNat x↔z=x∨JQ l i z:=
   ⟨hP.set h0 hl hx,fun z=>by have:=mem_set (l:=l) (i:=i.toNat) (by omega) x z;rw[show((i.toNat:Nat):Int)=i by omega]at this;exact this⟩
  unfold gm
  cases hp:bh d i with
  |none=>exact Dv
  |some p=>
   have hb:=fA hp
   simp only
   split
   ·have hy:l[p.toNat]? =some (l.getD p.toNat 0):=by
     rw[anE,anx (by omega)];rfl
    obtain⟨m1,m2,m3⟩:=hP.move h0 hl hb.1 (by omega) hy hx
    obtain⟨r1,r2⟩:=ih (l.set i.toNat (l.getD p.toNat 0)) (cY pl (l.getD p.toNat 0) i) p (by omega) hb.1 (by rw[anC];omega) m1 m2
    exact⟨r1,fun z=>by rw[r2 z,m3 z]⟩
   ·exact Dv
theorem Mj{lt:Int→Int→Bool}(ho:bC lt)(l:List Int)(d i:Int)(h:0≤d*i):∀ (m:Nat) (bW:Int),(m:Int)≤d - 1→d*i+1≤bW→bW<l.length→
  (∀c:Int,d*i+1≤c→c≤d*i+(d - m)→c<l.length→lt (l.getD c.toNat 0) (l.getD bW.toNat 0)=false)→
  ∀c:Int,d*i+1≤c→c≤d*i+d→c<l.length→lt (l.getD c.toNat 0) (l.getD (bU lt l d i m bW).1.toNat 0)=false:=by
 intro m
 induction m with
 |zero=>intro bW _ _ _ hc c c1 c2 c3;exact hc c c1 (by omega) c3
 |succ m ih=>
  intro bW hm h1 h2 hc c c1 c2 c3
  unfold bU
  split
  ·rename_i aR
   simp only
   split
   ·rename_i hl
    refine ih _ (by omega) (by omega) (by omega) (fun e e1 e2 e3=>?_) c c1 c2 c3
    by_cases he:e=d*i+(d - m)
    ·rw[he];exact ho.yf _
    ·have:=hc e e1 (by omega) e3
     cases hx:lt (l.getD e.toNat 0) (l.getD (d*i+(d - (m:Int))).toNat 0)with
     |false=>rfl
     |true=>
      have:=ho.tr _ _ _ hx hl
      simp_all
   ·rename_i hl
    refine ih _ (by omega) h1 h2 (fun e e1 e2 e3=>?_) c c1 c2 c3
    by_cases he:e=d*i+(d - m)
    ·rw[he];simpa using hl
    ·exact hc e e1 (by omega) e3
  ·rename_i aR
   refine ih _ (by omega) h1 h2 (fun e e1 e2 e3=>?_) c c1 c2 c3
   by_cases he:e=d*i+(d - m)
   ·omega
   ·exact hc e e1 (by omega) e3
theorem QC{lt:Int→Int→Bool}(ho:bC lt){d:Int}(hf:cU d)(x:Int):∀ (m:Nat) (l:List Int) (pl:Int→Option Int) (i:Int),l.length≤i.toNat+m→0≤i→i<l.length→dM lt d l i.toNat→
  (1≤i→lt x (l.getD (pa d i.toNat) 0)=false)→eZ lt d (cW lt d x m l pl i).1:=by
 intro m
 induction m with
 |zero=>intro l pl i hm h0 hl;omega
 |succ m ih=>
  intro l pl i hm h0 hl hA hD
  have UN:=hf.1
  have T9:0≤d*i:=apj (by omega) h0
  have hit:((i.toNat:Nat):Int)=i:=by omega
  have QD:∀j:Nat,1≤j→(pa d j=i.toNat↔(d*i+1≤j∧(j:Int)≤d*i+d)):=fun j hj=>by have:=SC hf (i:=i.toNat) hj;rw[hit]at this;exact this
  unfold cW
  split
  ·rename_i hc
   exact hA.set hf (by omega) (fun j h1 h2 h3=>by have:=(QD j h1).1 h3;omega) (fun h=>hD (by omega))
  ·rename_i hc
   have hb:=nM lt l d i T9 (d - 1).toNat (d*i+1) (by omega) (by omega) (by omega)
   have G3:(bU lt l d i (d - 1).toNat (d*i+1)).1≤d*i+d:=by
    have key:∀ (m:Nat) (bW:Int),(m:Int)≤d - 1→bW≤d*i+d→(bU lt l d i m bW).1≤d*i+d:=by
     intro m
     induction m with
     |zero=>intro bW _ h;exact h
     |succ m ih=>
      intro bW hm h
      unfold bU
      split
      ·simp only;split
       ·exact ih _ (by omega) (by omega)
       ·exact ih _ (by omega) h
      ·exact ih _ (by omega) h
    exact key _ _ (by omega) (by omega)
   have hbl:=Mj ho l d i T9 (d - 1).toNat (d*i+1) (by omega) (by omega) (by omega) (fun c c1 c2 c3=>by rw[show c=d*i+1 by omega];exact ho.yf _)
   have aR:=qB hf h0 hb.1
   generalize bU lt l d i (d - 1).toNat (d*i+1)=B at*
   obtain⟨b,q⟩:=B
   simp only at hb G3 hbl aR
   have hbp:pa d b.toNat=i.toNat:=(QD b.toNat (by omega)).2 ⟨by omega,by omega⟩
   have tR:i.toNat<l.length:=by omega
   have uN:∀j,1≤j→j<l.length→pa d j=i.toNat→lt (l.getD j 0) (l.getD b.toNat 0)=false:=fun j h1 h2 h3=>by
    have h4:=(QD j h1).1 h3
    have:=hbl j h4.1 h4.2 (by omega)
    simpa using this
   simp only
   by_cases hy:lt (l.getD b.toNat 0) x=true
   ·rw[if_pos hy]
    refine ih _ _ b (by rw[anC];omega) (by omega) (by rw[anC];omega) ⟨fun j h1 h2 h3 h4=>?_,fun j h1 h2 h3 h4=>?_⟩ (fun _=>?_)
    ·rw[anC]at h2
     rw[dH _ _ _ _ tR,dH _ _ _ _ tR]
     have Pv:=cO hf h1
     by_cases e1:i.toNat=j
     ·subst e1
      rw[if_pos rfl,if_neg (by omega)]
      have:=hA.2 b.toNat (by omega) (by omega) hbp h1
      exact this
     ·rw[if_neg e1]
      by_cases e2:i.toNat=pa d j
      ·rw[if_pos e2];exact uN j h1 h2 e2.symm
      ·rw[if_neg e2];exact hA.1 j h1 h2 (Ne.symm e1) (Ne.symm e2)
    ·rw[anC]at h2
     rw[hbp,dH _ _ _ _ tR,dH _ _ _ _ tR,if_pos rfl]
     have Pv:=cO hf h1
     rw[if_neg (by omega)]
     have:=hA.1 j h1 h2 (by omega) (by omega)
     rw[h3]at this
     exact this
    ·rw[hbp,dH _ _ _ _ tR,if_pos rfl]
     exact ho.asym hy
   ·rw[if_neg hy]
    exact hA.set hf tR (fun j h1 h2 h3=>ho.nt _ _ _ (uN j h1 h2 h3) (by simpa using hy)) (fun h=>hD (by omega))
theorem Mk(lt:Int→Int→Bool)(d x:Int):∀ (m:Nat) (l:List Int) (pl:Int→Option Int) (i:Int),(cW lt d x m l pl i).1.length=l.length:=by
 intro m
 induction m with
 |zero=>intro l pl i;simp[cW]
 |succ m ih=>
  intro l pl i
  unfold cW
  split
  ·simp
  ·simp only
   split
   ·simp[ih]
   ·simp
theorem Ml{lt:Int→Int→Bool}{d:Int}(hf:cU d)(x:Int):∀ (m:Nat) (l:List Int) (pl:Int→Option Int) (i:Int),0≤i→i<l.length→SE l pl i x→¬JQ l i x→
  Ea (cW lt d x m l pl i).1 (cW lt d x m l pl i).2.1∧∀z,z∈(cW lt d x m l pl i).1↔z=x∨JQ l i z:=by
 intro m
 induction m with
 |zero=>
  intro l pl i h0 hl hP hx
  exact⟨hP.set h0 hl hx,fun z=>by have:=mem_set (l:=l) (i:=i.toNat) (by omega) x z;rw[show((i.toNat:Nat):Int)=i by omega]at this;exact this⟩
 |succ m ih=>
  intro l pl i h0 hl hP hx
  have Dv:Ea (l.set i.toNat x) (cY pl x i)∧∀z,z∈l.set i.toNat x↔z=x∨JQ l i z:=
   ⟨hP.set h0 hl hx,fun z=>by have:=mem_set (l:=l) (i:=i.toNat) (by omega) x z;rw[show((i.toNat:Nat):Int)=i by omega]at this;exact this⟩
  have UN:=hf.1
  have T9:0≤d*i:=apj (by omega) h0
  unfold cW
  split
  ·exact Dv
  ·have hb:=nM lt l d i T9 (d - 1).toNat (d*i+1) (by omega) (by omega) (by omega)
   have aR:=qB hf h0 hb.1
   simp only
   split
   ·have hy:l[(bU lt l d i (d - 1).toNat (d*i+1)).1.toNat]? =some (l.getD (bU lt l d i (d - 1).toNat (d*i+1)).1.toNat 0):=by
     rw[anE,anx (by omega)];rfl
    obtain⟨m1,m2,m3⟩:=hP.move h0 hl (by omega) (by omega) hy hx
    obtain⟨r1,r2⟩:=ih _ _ _ (by omega) (by rw[anC];omega) m1 m2
    exact⟨r1,fun z=>by rw[r2 z,m3 z]⟩
   ·exact Dv
def nN(d i:Int):Nat:=Nj d i.toNat i
theorem tz{d i p:Int}(h:bh d i=some p):nN d i=nN d p+1:=Sh h _ (anO _)
theorem nO{d:Int}(hf:cU d):∀ (m:Nat) (i j:Int),j.toNat≤m→i≤j→nN d i≤nN d j:=by
 intro m
 induction m with
 |zero=>
  intro i j hm JE
  have:nN d i=0:=by unfold nN;rw[show i.toNat=0 by omega];rfl
  omega
 |succ m ih=>
  intro i j hm JE
  by_cases hi:1≤i
  ·have UN:=hf.1
   have hp:bh d i=some ((i - 1) / d):=by unfold bh;rw[if_pos ⟨hf,hi⟩]
   have hq:bh d j=some ((j - 1) / d):=by unfold bh;rw[if_pos ⟨hf,by omega⟩]
   have hb:=fA hq
   rw[tz hp,tz hq]
   have:=ih ((i - 1) / d) ((j - 1) / d) (by omega) (Int.ediv_le_ediv (by omega) (by omega))
   omega
  ·have:nN d i=0:=by
    unfold nN
    have hn:bh d i=none:=by unfold bh;rw[if_neg (by omega)]
    cases i.toNat<;>simp[Nj,hn]
   omega
theorem Mm(lt:Int→Int→Bool)(l:List Int)(d i:Int):∀ (m:Nat) (bW:Int),(bU lt l d i m bW).2≤m:=by
 intro m
 induction m with
 |zero=>intro bW;simp[bU]
 |succ m ih=>
  intro bW
  unfold bU
  split
  ·simp only
   have:=ih (if lt (l.getD (d*i+(d - m)).toNat 0) (l.getD bW.toNat 0)=true then d*i+(d - m)else bW)
   omega
  ·have:=ih bW;omega
theorem Ob{lt:Int→Int→Bool}{d:Int}(hf:cU d)(x:Int):∀ (m:Nat) (l:List Int) (pl:Int→Option Int) (i:Int),l.length≤i.toNat+m→0≤i→i<l.length→
  ((cW lt d x m l pl i).2.2:Int)+d*(nN d i:Nat)≤d*(nN d ((l.length:Int) - 1):Nat):=by
 intro m
 induction m with
 |zero=>intro l pl i hm h0 hl;omega
 |succ m ih=>
  intro l pl i hm h0 hl
  have UN:=hf.1
  have T9:0≤d*i:=apj (by omega) h0
  have G7:∀k,k≤(l.length:Int) - 1→d*(nN d k:Nat)≤d*(nN d ((l.length:Int) - 1):Nat):=fun k hk=>
   Int.mul_le_mul_of_nonneg_left (by have:=nO hf ((l.length:Int) - 1).toNat k ((l.length:Int) - 1) (anO _) hk;omega) (by omega)
  unfold cW
  split
  ·have:=G7 i (by omega);simp only;omega
  ·have hb:=nM lt l d i T9 (d - 1).toNat (d*i+1) (by omega) (by omega) (by omega)
   have aR:=qB hf h0 hb.1
   have ajq:=Mm lt l d i (d - 1).toNat (d*i+1)
   have G3:(bU lt l d i (d - 1).toNat (d*i+1)).1≤d*i+d:=by
    have key:∀ (m:Nat) (bW:Int),(m:Int)≤d - 1→bW≤d*i+d→(bU lt l d i m bW).1≤d*i+d:=by
     intro m
     induction m with
     |zero=>intro bW _ h;exact h
     |succ m ih=>
      intro bW hm h
      unfold bU
      split
      ·simp only;split
       ·exact ih _ (by omega) (by omega)
       ·exact ih _ (by omega) h
      ·exact ih _ (by omega) h
    exact key _ _ (by omega) (by omega)
   generalize bU lt l d i (d - 1).toNat (d*i+1)=B at*
   have Lt:bh d B.1=some i:=by
    unfold bh
    rw[if_pos ⟨hf,by omega⟩]
    have:=vt (d:=d) (i:=i) (j:=B.1 - d*i) UN h0 (by omega) (by omega)
    rw[show d*i+(B.1 - d*i) - 1=B.1 - 1 by omega]at this
    rw[this]
   have Fh:=tz Lt
   have hmul:d*((nN d i+1:Nat):Int)=d*(nN d i:Nat)+d:=by rw[Int.natCast_add,Int.mul_add];simp
   simp only
   split
   ·have:=ih (l.set i.toNat (l.getD B.1.toNat 0)) (cY pl (l.getD B.1.toNat 0) i) B.1 (by rw[anC];omega) (by omega) (by rw[anC];omega)
    rw[anC,Fh,hmul]at this
    simp only
    omega
   ·have:=G7 B.1 (by omega)
    rw[Fh,hmul]at this
    simp only
    omega
def cT(lt:Int→Int→Bool)(d x:Int)(l:List Int)(pl:Int→Option Int)(i:Int):List Int×(Int→Option Int)×Nat:=
 if l.getD (l.length - 1) 0=x then(l.dropLast,uL pl x,0)
 else
  let U:=gm lt d (l.getD (l.length - 1) 0) i.toNat l.dropLast (uL pl x) i
  if U.at_=i then
   let D:=cW lt d (l.getD (l.length - 1) 0) U.l.length U.l U.pl i
   (D.1,D.2.1,U.asked+D.2.2)
  else(U.l,U.pl,U.asked)
theorem zV(l:List Int)(j:Nat)(h:j<l.length - 1):l.dropLast.getD j 0=l.getD j 0:=by
 rw[anE,anE,List.getElem?_dropLast,if_pos h]
theorem Mn{lt:Int→Int→Bool}(ho:bC lt){d:Int}(hf:cU d){x i:Int}{l:List Int}{pl:Int→Option Int}(hh:eZ lt d l)(hp:Ea l pl)(hi:pl x=some i):
  eZ lt d (cT lt d x l pl i).1∧Ea (cT lt d x l pl i).1 (cT lt d x l pl i).2.1∧(cT lt d x l pl i).1.length=l.length - 1∧
   (∀z,z∈(cT lt d x l pl i).1↔z∈l∧z≠x)∧((cT lt d x l pl i).2.2:Int)≤d*(nN d ((l.length:Int) - 1):Nat)+1:=by
 obtain⟨h0,hx⟩:=(hp x i).1 hi
 have tR:i.toNat<l.length:=(anA.1 hx).1
 have UN:=hf.1
 have nK:l[l.length - 1]? =some (l.getD (l.length - 1) 0):=by
  rw[anE,anx (by omega)];rfl
 have xz:∀k,k<l.length - 1→l.dropLast[k]? =l[k]? :=fun k hk=>by rw[List.getElem?_dropLast,if_pos hk]
 have kF:eZ lt d l.dropLast:=by
  intro j h1 h2
  rw[aoa]at h2
  have:=cO hf h1
  rw[zV _ _ h2,zV _ _ (by omega)]
  exact hh j h1 (by omega)
 unfold cT
 split
 ·rename_i he
  have oq:i.toNat=l.length - 1:=hp.G6 hx (by rw[nK,he])
  refine⟨kF,fun z k=>?_,by simp,fun z=>?_,?_⟩
  ·show uL pl x z=some k↔(0≤k∧l.dropLast[k.toNat]? =some z)
   unfold uL
   by_cases hz:z=x
   ·subst hz
    simp only[if_true]
    constructor
    ·intro h;cases h
    ·rintro⟨a,b⟩
     have hk:k.toNat<l.length - 1:=by have:=(anA.1 b).1;rwa[aoa]at this
     rw[xz _ hk]at b
     have:=hp.G6 b hx
     omega
   ·rw[if_neg hz,hp z k]
    constructor
    ·rintro⟨a,b⟩
     have hk:k.toNat<l.length:=(anA.1 b).1
     have Lq:k.toNat≠l.length - 1:=fun e=>by rw[e,nK,he]at b;injection b with b;exact hz b.symm
     exact⟨a,by rw[xz _ (by omega)];exact b⟩
    ·rintro⟨a,b⟩
     have hk:k.toNat<l.length - 1:=by have:=(anA.1 b).1;rwa[aoa]at this
     exact⟨a,by rw[xz _ hk]at b;exact b⟩
  ·constructor
   ·intro h
    obtain⟨k,hk⟩:=an8 h
    have hk1:k<l.length - 1:=by have:=(anA.1 hk).1;rwa[aoa]at this
    rw[xz _ hk1]at hk
    refine⟨anG hk,fun e=>?_⟩
    subst e
    have:=hp.G6 hk hx
    omega
   ·rintro⟨h,hz⟩
    obtain⟨k,hk⟩:=an8 h
    have hk1:k<l.length:=(anA.1 hk).1
    have Lq:k≠l.length - 1:=fun e=>by rw[e,nK,he]at hk;injection hk with hk;exact hz hk.symm
    exact anG (i:=k) (by rw[xz _ (by omega)];exact hk)
  ·have:0≤d*(nN d ((l.length:Int) - 1):Nat):=apj (by omega) (by omega)
   simp only
   omega
 ·rename_i aS
  generalize hy:l.getD (l.length - 1) 0=y at*
  have oq:i.toNat<l.length - 1:=by
   rcases aoN i.toNat (l.length - 1)with h|h
   ·exact h
   ·exfalso
    rw[show i.toNat=l.length - 1 by omega,nK]at hx
    injection hx with hx
    exact aS hx
  have hP:SE l.dropLast (uL pl x) i y:=by
   intro z hz k
   unfold uL
   by_cases e:z=x
   ·subst e
    simp only[if_true]
    constructor
    ·intro h;cases h
    ·rintro⟨a,b,c⟩
     have hk:k.toNat<l.length - 1:=by have:=(anA.1 c).1;rwa[aoa]at this
     rw[xz _ hk]at c
     have:=hp.G6 c hx
     omega
   ·rw[if_neg e,hp z k]
    constructor
    ·rintro⟨a,b⟩
     have hk:k.toNat<l.length:=(anA.1 b).1
     have Lq:k.toNat≠l.length - 1:=fun e2=>by rw[e2,nK]at b;injection b with b;exact hz b.symm
     exact⟨a,fun e2=>by rw[e2,hx]at b;injection b with b;exact e b.symm,by rw[xz _ (by omega)];exact b⟩
    ·rintro⟨a,_,b⟩
     have hk:k.toNat<l.length - 1:=by have:=(anA.1 b).1;rwa[aoa]at this
     exact⟨a,by rw[xz _ hk]at b;exact b⟩
  have hO:¬JQ l.dropLast i y:=by
   rintro⟨k,k1,k2⟩
   have hk:k<l.length - 1:=by have:=(anA.1 k2).1;rwa[aoa]at this
   rw[xz _ hk]at k2
   have:=hp.G6 k2 nK
   omega
  have cj:∀z,(z=y∨JQ l.dropLast i z)↔(z∈l∧z≠x):=by
   intro z
   constructor
   ·rintro(rfl| ⟨k,k1,k2⟩)
    ·exact⟨anG nK,aS⟩
    ·have hk:k<l.length - 1:=by have:=(anA.1 k2).1;rwa[aoa]at this
     rw[xz _ hk]at k2
     refine⟨anG k2,fun e=>?_⟩
     subst e
     have:=hp.G6 k2 hx
     omega
   ·rintro⟨h,hz⟩
    obtain⟨k,hk⟩:=an8 h
    have hk1:k<l.length:=(anA.1 hk).1
    by_cases e:k=l.length - 1
    ·rw[e,nK]at hk;injection hk with hk;exact .inl hk.symm
    ·exact .inr ⟨k,fun e2=>hz (by rw[show k=i.toNat by omega,hx]at hk;injection hk with hk;exact hk.symm),by rw[xz _ (by omega)];exact hk⟩
  have bv:(i:Int)<l.dropLast.length:=by rw[aoa];omega
  have Oc:=kF.but ho hf i.toNat
  have Fh:=Eb (lt:=lt) (d:=d) y i.toNat l.dropLast (uL pl x) i (anO _) h0 bv hP hO
  have G7:d*(nN d ((l.length:Int) - 1 - 1):Nat)≤d*(nN d ((l.length:Int) - 1):Nat):=
   Int.mul_le_mul_of_nonneg_left (by have:=nO hf ((l.length:Int) - 1).toNat ((l.length:Int) - 1 - 1) ((l.length:Int) - 1) (anO _) (by omega);omega) (by omega)
  rcases SD hf (lt:=lt) y l.dropLast (uL pl x) i h0 with ⟨s1,s2,s3,s4,s5⟩| ⟨s1,s2,s3⟩
  ·simp only
   rw[if_pos s1,s2,s3,anC]
   simp only
   have ae7:i.toNat<l.dropLast.length:=by rw[aoa];omega
   have Mo:∀j,j≠i.toNat→(l.dropLast.set i.toNat y).getD j 0=l.dropLast.getD j 0:=fun j hj=>by rw[dH _ _ _ _ ae7,if_neg (Ne.symm hj)]
   have hP2:SE (l.dropLast.set i.toNat y) (cY (uL pl x) y i) i y:=by
    intro z hz k
    unfold cY
    rw[if_neg hz,hP z hz k]
    constructor
    ·rintro⟨a,b,c⟩;exact⟨a,b,by rw[anH (by omega)];exact c⟩
    ·rintro⟨a,b,c⟩;exact⟨a,b,by rw[anH (by omega)]at c;exact c⟩
   have Mi:∀z,JQ (l.dropLast.set i.toNat y) i z↔JQ l.dropLast i z:=by
    intro z
    constructor
    ·rintro⟨k,k1,k2⟩;exact⟨k,k1,by rw[anH (by omega)]at k2;exact k2⟩
    ·rintro⟨k,k1,k2⟩;exact⟨k,k1,by rw[anH (by omega)];exact k2⟩
   have wC:(i:Int)< (l.dropLast.set i.toNat y).length:=by rw[anC];exact bv
   obtain⟨d1,d2⟩:=Ml (lt:=lt) hf y l.dropLast.length (l.dropLast.set i.toNat y) (cY (uL pl x) y i) i h0 wC hP2 (fun hc=>hO ((Mi y).1 hc))
   refine⟨?_,d1,by rw[Mk,anC,aoa],fun z=>by rw[d2 z,Mi z];exact cj z,?_⟩
   ·refine QC ho hf y _ _ _ i (by rw[anC];omega) h0 wC ⟨fun j h1 h2 h3 h4=>?_,fun j h1 h2 h3 h4=>?_⟩ (fun h=>?_)
    ·rw[Mo j h3,Mo _ h4];exact Oc.1 j h1 (by simpa using h2) h3 h4
    ·have:=cO hf h1
     have:=cO hf h4
     rw[Mo j (by omega),Mo _ (by omega)]
     exact Oc.2 j h1 (by simpa using h2) h3 h4
    ·have:=cO hf (j:=i.toNat) (by omega)
     rw[Mo _ (by omega)]
     exact s5 h
   ·have:=Ob (lt:=lt) hf y l.dropLast.length (l.dropLast.set i.toNat y) (cY (uL pl x) y i) i (by rw[anC];omega) h0 wC
    have hdl:l.dropLast.length=l.length - 1:=aoa
    rw[anC,show((l.dropLast.length:Nat):Int) - 1=(l.length:Int) - 1 - 1 by omega]at this
    have h5:0≤d*(nN d i:Nat):=apj (by omega) (by omega)
    omega
  ·simp only
   rw[if_neg (by omega)]
   have RD:=cO hf (j:=i.toNat) (by omega)
   refine⟨KE ho hf y _ _ _ i (anO _) h0 bv Oc (fun j h1 h2 h3=>?_),Fh.1,by rw[yk,aoa],fun z=>by rw[Fh.2 z];exact cj z,?_⟩
   ·have e1:=Oc.2 j h1 h2 h3 (by omega)
    cases hxx:lt (l.dropLast.getD j 0) y with
    |false=>rfl
    |true=>have:=ho.tr _ _ _ hxx s3;rw[this]at e1;cases e1
   ·have e1:=G5 lt d y i.toNat l.dropLast (uL pl x) i
    have e2:=nO hf ((l.length:Int) - 1).toNat i ((l.length:Int) - 1) (anO _) (by omega)
    unfold nN at e2 ⊢
    have e3:(1:Int)*(Nj d ((l.length:Int) - 1).toNat ((l.length:Int) - 1):Nat)≤d*(Nj d ((l.length:Int) - 1).toNat ((l.length:Int) - 1):Nat):=
     ape (by omega) (by omega)
    dsimp only
    omega
theorem G8{lt:Int→Int→Bool}(ho:bC lt){d:Int}(hf:cU d){l:List Int}(hh:eZ lt d l):∀ (m j:Nat),j≤m→j<l.length→lt (l.getD j 0) (l.getD 0 0)=false:=by
 intro m
 induction m with
 |zero=>intro j hj _;rw[show j=0 by omega];exact ho.yf _
 |succ m ih=>
  intro j hj hl
  by_cases h:1≤j
  ·have:=cO hf h
   exact ho.nt _ _ _ (hh j h hl) (ih (pa d j) (by omega) (by omega))
  ·rw[show j=0 by omega];exact ho.yf _
def Nw.key(w:Nw)(a:Int):Int:=(w.cs.getD a.toNat (0,0,0)).2.1
def Nw.seq(w:Nw)(a:Int):Int:=(w.cs.getD a.toNat (0,0,0)).2.2
def aU(w:Nw)(a b:Int):Bool:=decide (w.key a<w.key b∨w.key a=w.key b∧(w.seq a<w.seq b∨w.seq a=w.seq b∧a<b))
theorem au(w:Nw):bC (aU w):=by
 refine⟨fun a=>?_,fun a b c h1 h2=>?_,fun a b c h1 h2=>?_,fun a b h=>?_⟩
 ·exact anU (by omega)
 ·simp only[aU,aoq]at*;omega
 ·simp only[aU,decide_eq_false_iff_not]at*;omega
 ·simp only[aU,aoq];omega
theorem Ec{w:Nw}{a b:Int}(ha:cZ w.cs a)(hb:cZ w.cs b):w.ahead a b=aU w a b:=by
 obtain⟨a0,x,hx,_⟩:=id ha
 obtain⟨b0,y,hy,_⟩:=id hb
 have k1:w.key a=x.2.1:=by unfold Nw.key;rw[anE,hx];rfl
 have k2:w.key b=y.2.1:=by unfold Nw.key;rw[anE,hy];rfl
 have k3:w.seq a=x.2.2:=by unfold Nw.seq;rw[anE,hx];rfl
 have k4:w.seq b=y.2.2:=by unfold Nw.seq;rw[anE,hy];rfl
 unfold Nw.ahead aU
 rw[anQ ha,anQ hb,hx,hy,k1,k2,k3,k4]
 simp only[apY]
 refine decide_eq_decide.2 ?_
 rw[NZ,gW]
 omega
theorem jy(w:Nw)(x:Int)(c:Ce){a b:Int}(ha:a.toNat≠x.toNat)(hb:b.toNat≠x.toNat):aU (w.put x c) a b=aU w a b:=by
 have key:∀z:Int,z.toNat≠x.toNat→(w.put x c).key z=w.key z∧(w.put x c).seq z=w.seq z:=fun z hz=>by
  unfold Nw.key Nw.seq Nw.put
  simp only[anE]
  rw[anH (Ne.symm hz)]
  exact⟨rfl,rfl⟩
 unfold aU
 rw[(key a ha).1,(key a ha).2,(key b hb).1,(key b hb).2]
def Nw.first(w:Nw)(g x:Int):Prop:=0<g∧0≤x∧(∃e,w.cs[x.toNat]? =some (g,e))∧∀y,0≤y→(∃e,w.cs[y.toNat]? =some (g,e))→y≠x→aU w x y=true
theorem Nw.I9{w:Nw}{g:Int}:w.len g=0↔(g≤0∨∀ (i:Nat) (c:Ce),w.cs[i]? =some c→c.1≠g):=by
 unfold Nw.len
 by_cases hg:0<g
 ·rw[if_pos hg]
  constructor
  ·intro h
   refine .inr fun i c hc e=>?_
   have h1:w.cs.countP (fun c=>decide (c.1=g))=0:=by omega
   exact(apg.1 h1) c (anG hc) (anQ e)
  ·rintro(h|h)
   ·omega
   ·rw[apg.2 (fun c hc=>by
     obtain⟨i,hi⟩:=an8 hc
     simpa using h i c hi)]
    rfl
 ·rw[if_neg hg]
  exact⟨fun _=>.inl (by omega),fun _=>rfl⟩
theorem Nw.first.Nn{w:Nw}{g x:Int}(h:w.first g x):cZ w.cs x:=by
 obtain⟨e,he⟩:=h.2.2.1
 exact⟨h.2.1,_,he,h.1⟩
def aI(w:Nw)(x:Int):Int:=if 0≤x then(w.cs.getD x.toNat (0,0,0)).1 else 0
theorem mZ{w:Nw}{x:Int}{y:Ce}(h0:0≤x)(h:w.cs[x.toNat]? =some y):aI w x=y.1:=by
 unfold aI
 rw[if_pos h0,anE,h]
 rfl
theorem aH{w:Nw}{x:Int}(h:0<aI w x):0≤x∧x<w.cs.length∧∃e,w.cs[x.toNat]? =some (aI w x,e):=by
 unfold aI at h ⊢
 split at h
 ·rename_i h0
  rw[if_pos h0]
  rw[anE]at h ⊢
  cases hc:w.cs[x.toNat]? with
  |none=>rw[hc]at h;simp at h
  |some y=>
   have:=(anA.1 hc).1
   exact⟨h0,by omega,y.2,rfl⟩
 ·omega
theorem bK{w:Nw}{x:Int}:0<aI w x↔cZ w.cs x:=by
 constructor
 ·intro h
  obtain⟨h0,_,e,he⟩:=aH h
  exact⟨h0,_,he,h⟩
 ·rintro⟨h0,y,hy,hp⟩
  rw[mZ h0 hy]
  exact hp
theorem bO{w:Nw}{g x:Int}:w.first g x↔(0<g∧aI w x=g∧∀y,aI w y=g→y≠x→aU w x y=true):=by
 constructor
 ·rintro⟨h1,h2,⟨e,he⟩,h4⟩
  refine⟨h1,mZ h2 he,fun y hy aS=>?_⟩
  obtain⟨y0,_,e',tS⟩:=aH (w:=w) (x:=y) (by omega)
  rw[hy]at tS
  exact h4 y y0 ⟨e',tS⟩ aS
 ·rintro⟨h1,h2,h3⟩
  obtain⟨x0,_,e,he⟩:=aH (w:=w) (x:=x) (by omega)
  rw[h2]at he
  exact⟨h1,x0,⟨e,he⟩,fun y y0 ⟨e',tS⟩ aS=>h3 y (mZ y0 tS) aS⟩
theorem xA{w:Nw}{g:Int}(hg:0<g):w.len g=0↔∀x,aI w x≠g:=by
 rw[Nw.I9]
 constructor
 ·rintro(h|h) x hx
  ·omega
  ·obtain⟨_,_,e,he⟩:=aH (w:=w) (x:=x) (by omega)
   exact h _ _ he hx
 ·intro h
  refine .inr fun i c hc e=>h (i:Int) ?_
  rw[mZ (y:=c) (by omega) (by simpa using hc)]
  exact e
theorem eC{w:Nw}{i:Int}(hi:0≤i∧i<w.cs.length)(c:Ce)(x:Int):aI (w.put i c) x=if x=i then c.1 else aI w x:=by
 unfold aI Nw.put
 simp only
 by_cases hx:x=i
 ·subst hx
  rw[if_pos hi.1,if_pos rfl,anE,anI (by omega)]
  rfl
 ·rw[if_neg hx]
  split
  ·rw[anE,anH (by omega),anE]
  ·rfl
theorem SF{lt:Int→Int→Bool}(hs:bC lt){P:Int→Prop}{n:Nat}(hP:∀x,P x→0≤x∧x<n){x:Int}(hx:P x):∃m,P m∧∀y,P y→y≠m→lt m y=true:=by
 have key:∀k:Nat,∀x,P x→((List.range n).countP fun(i:Nat)=>lt i x)≤k→∃m,P m∧∀y,P y→y≠m→lt m y=true:=by
  intro k
  induction k with
  |zero=>
   intro x hx hk
   refine⟨x,hx,fun y hy aS=>?_⟩
   rcases hs.Pj x y (Ne.symm aS)with h|h
   ·exact h
   ·have Af:=hP y hy
    have:=(apg.1 (Nat.le_zero.1 hk)) y.toNat (aoD.2 (by omega))
    rw[show((y.toNat:Nat):Int)=y by omega]at this
    exact absurd h this
  |succ k ih=>
   intro x hx hk
   by_cases hz:∃y,P y∧lt y x=true
   ·obtain⟨y,hy,hl⟩:=hz
    refine ih y hy ?_
    have Af:=hP y hy
    have h9:(List.range n).countP (fun(i:Nat)=>lt i y)< (List.range n).countP fun(i:Nat)=>lt i x:=by
     refine tU (fun i hi=>hs.tr _ _ _ hi hl) (x:=y.toNat) (aoD.2 (by omega)) ?_ ?_
     ·rw[show((y.toNat:Nat):Int)=y by omega];exact hs.yf _
     ·rw[show((y.toNat:Nat):Int)=y by omega];exact hl
    omega
   ·refine⟨x,hx,fun y hy aS=>?_⟩
    rcases hs.Pj x y (Ne.symm aS)with h|h
    ·exact h
    ·exact absurd ⟨y,hy,h⟩ hz
 exact key _ x hx (anO _)
theorem xB{w:Nw}{g:Int}(hg:0<g)(h:w.len g≠0):∃x,w.first g x:=by
 have h1:¬ ∀x,aI w x≠g:=fun hn=>h ((xA hg).2 hn)
 obtain⟨x,hx⟩:=Classical.not_forall.1 h1
 have hx:=Classical.not_not.1 hx
 obtain⟨m,hm,hl⟩:=SF (au w) (P:=fun x=>aI w x=g) (n:=w.cs.length) (fun x hx=>by obtain⟨a,b,_⟩:=aH (w:=w) (x:=x) (by omega);omega) hx
 exact⟨m,bO.2 ⟨hg,hm,hl⟩⟩
theorem dI{w:Nw}{i:Int}(hi:0≤i∧i<w.cs.length)(c:Ce){a b:Int}(ha:0<aI w a)(hb:0<aI w b)(Ze:a≠i)(hbi:b≠i):aU (w.put i c) a b=aU w a b:=by
 obtain⟨a0,_⟩:=aH ha
 obtain⟨b0,_⟩:=aH hb
 exact jy w i c (by omega) (by omega)
theorem CK{w:Nw}{i k s:Int}(bQ:cZ w.cs i){y:Ce}(hy:w.cs[i.toNat]? =some y)(hl:¬gW y.2.1 y.2.2 k s){b:Int}(hb:0<aI w b)(hbi:b≠i)(h:aU w i b=true):aU (w.put i (y.1,k,s)) i b=true:=by
 obtain⟨b0,_⟩:=aH hb
 have FO:=bQ.1
 have tR:=(anA.1 hy).1
 have k1:(w.put i (y.1,k,s)).key i=k∧(w.put i (y.1,k,s)).seq i=s:=by
  unfold Nw.key Nw.seq Nw.put
  simp only[anE]
  rw[anI tR]
  exact⟨rfl,rfl⟩
 have k2:w.key i=y.2.1∧w.seq i=y.2.2:=by
  unfold Nw.key Nw.seq
  simp only[anE,hy]
  exact⟨rfl,rfl⟩
 have k3:(w.put i (y.1,k,s)).key b=w.key b∧(w.put i (y.1,k,s)).seq b=w.seq b:=by
  unfold Nw.key Nw.seq Nw.put
  simp only[anE]
  rw[anH (by omega)]
  exact⟨rfl,rfl⟩
 unfold aU at h ⊢
 rw[k2.1,k2.2]at h
 rw[k1.1,k1.2,k3.1,k3.2]
 unfold gW at hl
 simp only[aoq]at h ⊢
 omega
def CQ(H:Hp)(c:Nat)(C:Nat→Prop)(w:Nw):Prop:=∃st,bz H c C st w
section
variable {H H' : Hp} {c : Nat} {C T : Nat → Prop} {w : Nw}
theorem CQ.ext(h:CQ H c C w)(e:ah T H H')(hd:∀x,C x→¬T x):CQ H' c C w:=by obtain⟨st,h⟩:=h;exact⟨st,h.ext e hd⟩
theorem CQ.fresh(h:CQ H c C w)(e:aq H H'):CQ H' c C w:=h.ext e fun _ _ h=>h
theorem CQ.slt(h:CQ H c C w):∀x,C x→x<H.size:=by obtain⟨st,h⟩:=h;exact h.slt
theorem CQ.FM(h:CQ H c C w):w.cs.length≤65536:=by obtain⟨st,h⟩:=h;exact h.FM
theorem CQ.Gf(h:CQ H c C w):w.hs.length≤65537:=by obtain⟨st,h⟩:=h;exact h.Gf
theorem CQ.home(h:CQ H c C w):∀x∈w.cs,0≤x.1∧x.1<w.hs.length:=by obtain⟨st,h⟩:=h;exact h.home
theorem CQ.live(h:CQ H c C w):∀x∈w.cs,0<x.1→w.hs[x.1.toNat]? =some true:=by obtain⟨st,h⟩:=h;exact h.live
theorem CQ.hm(h:CQ H c C w)(x:Int):0≤aI w x∧(0<aI w x→w.has (aI w x)∧aI w x<w.hs.length):=by
 by_cases h0:0<aI w x
 ·obtain⟨h1,h2,e,he⟩:=aH h0
  have hm:=anG he
  have:=h.home _ hm
  have hl:=h.live _ hm h0
  exact⟨by omega,fun _=>⟨⟨by omega,hl⟩,this.2⟩⟩
 ·refine⟨?_,fun h=>absurd h h0⟩
  unfold aI
  split
  ·rw[anE]
   cases hc:w.cs[x.toNat]? with
   |none=>exact apF _
   |some y=>exact(h.home y (anG hc)).1
  ·exact apF _
theorem CQ.pos(h:CQ H c C w):0<w.hs.length:=by
 obtain⟨st,cs,len,rt,aX,h1,h2⟩:=h
 exact(anA.1 h2.h0).1
theorem cK(h:CQ H c C w)(a b:Int):ai Tryz.prog cS [ptr c,i64 a,i64 b] H fun v H'=>ay (v= .bool (w.ahead a b)∧CQ H' c C w∧ah C H H'):=by
 obtain⟨st,h⟩:=h
 refine(lU h a b).mono ?_
 rintro v H' ⟨h1,h2,h3⟩
 exact⟨h1,⟨_,h2⟩,h3⟩
theorem xC(h:CQ H c C w)(i:Int):ai Tryz.prog kY [ptr c,i64 i] H fun v H'=>ay (v=i64 (w.len i)∧H=H'):=by
 obtain⟨st,h⟩:=h
 exact vx h i
theorem kJ(h:CQ H c C w)(i:Int):ai Tryz.prog bF [ptr c,i64 i] H fun v H'=>ay (v= .bool (decide (w.has i))∧H=H'):=by
 obtain⟨st,h⟩:=h
 exact jx h i
theorem lV(h:CQ H c C w):ai Tryz.prog dF [ptr c] H fun v H'=>ay (
  (w.hs.length=65537∧v=i64 0∧H=H')∨(w.hs.length≠65537∧v=i64 w.hs.length∧∃C',CQ H' c C' w.make∧ah C H H'∧∀x,C' x→C x∨H.size≤x)):=by
 obtain⟨st,h⟩:=h
 refine(mX h).mono ?_
 rintro v H' (h1| ⟨h1,h2,S',h3,h4⟩)
 ·exact .inl h1
 ·exact .inr ⟨h1,h2,S',⟨_,h3⟩,h4⟩
theorem nP(h:CQ H c C w)(g i k s:Int):ai Tryz.prog kZ [ptr c,i64 g,i64 i,wq k s] H fun v H'=>ay (
  (¬ (w.has g∧(0≤i∧i<w.cs.length)∧¬cZ w.cs i)∧v= .bool false∧CQ H' c C w∧ah C H H')∨
  ((w.has g∧(0≤i∧i<w.cs.length)∧¬cZ w.cs i)∧v= .bool true∧CQ H' c C (w.put i (g,k,s))∧ah C H H')):=by
 obtain⟨st,h⟩:=h
 refine(oL h g i k s).mono ?_
 rintro v H' (⟨h1,h2,h3,h4⟩| ⟨h1,h2,h3,h4⟩)
 ·exact .inl ⟨h1,h2,⟨_,h3⟩,h4⟩
 ·exact .inr ⟨h1,h2,⟨_,h3⟩,h4⟩
theorem dA(h:CQ H c C w)(i:Int):ai Tryz.prog jC [ptr c,i64 i] H fun v H'=>ay (
  (¬cZ w.cs i∧v= .tuple [i64 0,.bool false].toArray∧H=H')∨(cZ w.cs i∧v= .tuple [i64 (aI w i),.bool true].toArray∧CQ H' c C w∧ah C H H')):=by
 obtain⟨st,h⟩:=h
 refine(eU h i).mono ?_
 rintro v H' (h1| ⟨h1,x,hx,h2,h3,h4⟩)
 ·exact .inl h1
 ·exact .inr ⟨h1,by rw[h2,mZ h1.1 hx],⟨_,h3⟩,h4⟩
theorem jn(h:CQ H c C w)(i:Int):ai Tryz.prog bj [ptr c,i64 i] H fun v H'=>ay (CQ H' c C w∧aq H H'∧(
  (¬cZ w.cs i∧v= .tuple [wq 0 0,.bool false].toArray)∨(cZ w.cs i∧∃x,w.cs[i.toNat]? =some x∧v= .tuple [wq x.2.1 x.2.2,.bool true].toArray))):=by
 obtain⟨st,h⟩:=h
 refine(lS h i).mono ?_
 rintro v H' ⟨h1,h2,h3⟩
 exact⟨⟨_,h1⟩,h2,h3⟩
theorem ck(h:CQ H c C w)(i:Int):ai Tryz.prog jD [ptr c,i64 i] H fun v H'=>ay (
  (¬cZ w.cs i∧v= .bool false∧H=H')∨(cZ w.cs i∧v= .bool true∧CQ H' c C (w.put i (0,0,0))∧ah C H H')):=by
 obtain⟨st,h⟩:=h
 refine(mY h i).mono ?_
 rintro v H' (h1| ⟨h1,h2,h3,h4⟩)
 ·exact .inl h1
 ·exact .inr ⟨h1,h2,⟨_,h3⟩,h4⟩
theorem jo(h:CQ H c C w)(i k s:Int):ai Tryz.prog iz [ptr c,i64 i,wq k s] H fun v H'=>ay (
  (¬ (cZ w.cs i∧∀x,w.cs[i.toNat]? =some x→¬gW x.2.1 x.2.2 k s)∧v= .bool false∧CQ H' c C w∧aq H H')∨
  (cZ w.cs i∧v= .bool true∧∃x,w.cs[i.toNat]? =some x∧¬gW x.2.1 x.2.2 k s∧CQ H' c C (w.put i (x.1,k,s))∧ah C H H')):=by
 obtain⟨st,h⟩:=h
 refine(lT h i k s).mono ?_
 rintro v H' (⟨h1,h2,h3,h4⟩| ⟨h1,h2,x,h3,h4,h5,h6⟩)
 ·exact .inl ⟨h1,h2,⟨_,h3⟩,h4⟩
 ·exact .inr ⟨h1,h2,x,h3,h4,⟨_,h5⟩,h6⟩
end
theorem nQ(cap:Int)(H:Hp):ai Tryz.prog wL [i64 cap] H fun v H'=>ay (
  aq H H'∧((¬ (0≤cap∧cap≤65536)∧v= .tuple [.pointer none,i64 31].toArray)∨
   (0≤cap∧cap≤65536)∧∃c C,v= .tuple [ptr c,i64 0].toArray∧CQ H' c C ⟨[false],List.replicate cap.toNat (0,0,0)⟩∧(∀x,C x→H.size≤x))):=by
 refine(oK cap H).mono ?_
 rintro v H' ⟨h1,h2| ⟨h2,c,C,h3,h4,h5⟩⟩
 ·exact⟨h1,.inl h2⟩
 ·exact⟨h1,.inr ⟨h2,c,C,h3,⟨_,h4⟩,h5⟩⟩
theorem jp{w:Nw}{a b:Int}(ha:0<aI w a)(hb:0<aI w b):w.ahead a b=aU w a b:=Ec (bK.1 ha) (bK.1 hb)
def bm(tops:List Int)(h:Int):Int:=if 0≤h then tops.getD h.toNat (-1)else -1
theorem dY{tops:List Int}{h:Int}(h0:0≤h)(hl:h<tops.length):tops[h.toNat]? =some (bm tops h):=by
 unfold bm
 rw[if_pos h0,anE]
 obtain⟨x,hx⟩:∃x,tops[h.toNat]? =some x:=⟨_,anx (by omega)⟩
 rw[hx];rfl
theorem eV{tops:List Int}{h:Int}(h0:0≤h)(hl:h<tops.length)(x:Int):bm (tops.set h.toNat x)=kT (bm tops) h x:=by
 funext y
 show bm _ y=if y=h then x else bm tops y
 by_cases hy:y=h
 ·subst hy
  unfold bm
  rw[if_pos h0,if_pos rfl,anE,anI (by omega)]
  rfl
 ·rw[if_neg hy]
  unfold bm
  split
  ·rw[anE,anH (by omega),anE]
  ·rfl
theorem CL(tops:List Int):bm (tops++[-1])=bm tops:=by
 funext y
 unfold bm
 split
 ·rw[anE,anE]
  by_cases hy:y.toNat<tops.length
  ·rw[anS hy]
  ·rw[an5 (by omega),anP (l:=tops) (by omega)]
   by_cases h2:y.toNat - tops.length=0
   ·rw[h2];rfl
   ·rw[anP (by simp;omega)]
 ·rfl
end Go.Proofs.YtjlnnljohemifaaGreat

namespace Go.Proofs.YtjlnnljohemifaaGreat
open Go Go.Vc
structure Lk where
 a:Int
 b:Int
 u:Int
def SG(y:Lk):List Value:=[i64 y.a,i64 y.b,i64 y.u]
def aQ(L:List Lk):List Value:=L.flatMap SG
theorem kK(L:List Lk):(aQ L).length=L.length*3:=by
 induction L with
 |nil=>rfl
 |cons c r ih=>simp only[aQ,aps,anL,SG,anY,aoF]at*;omega
def Lk.sM(y:Lk)(c:Bool):Int:=if c then y.b else y.a
def Lk.gY(y:Lk)(c:Bool)(v:Int):Lk:=if c then⟨y.a,v,y.u⟩else⟨v,y.b,y.u⟩
theorem Lk.UO(y:Lk)(c d:Bool)(v:Int):(y.gY c v).sM d=if d=c then v else y.sM d:=by cases c<;>cases d<;>rfl
theorem Lk.aaR(y:Lk)(c:Bool)(v:Int):(y.gY c v).u=y.u:=by cases c<;>rfl
theorem Pw{L:List Lk}{i:Nat}{y:Lk}(hi:L[i]? =some y):(aQ L)[i*3]? =some (i64 y.a)∧(aQ L)[i*3+1]? =some (i64 y.b)∧(aQ L)[i*3+2]? =some (i64 y.u):=by
 induction L generalizing i with
 |nil=>simp at hi
 |cons a r ih=>
  have e:aQ (a::r)=i64 a.a::i64 a.b::i64 a.u::aQ r:=rfl
  rw[e]
  cases i with
  |zero=>simp at hi;subst hi;exact⟨rfl,rfl,rfl⟩
  |succ i=>
   have:=ih (by simpa using hi)
   rw[show(i+1)*3=i*3+3 by omega]
   exact this
theorem W4{L:List Lk}{i:Nat}{y:Lk}(hi:L[i]? =some y)(c:Bool):(aQ L)[i*3+c.toNat]? =some (i64 (y.sM c)):=by
 obtain⟨h1,h2,h3⟩:=Pw hi
 cases c
 ·exact h1
 ·exact h2
theorem yn{L:List Lk}{i:Nat}{y:Lk}(hi:L[i]? =some y)(c:Bool)(v:Int):(aQ L).set (i*3+c.toNat) (i64 v)=aQ (L.set i (y.gY c v)):=by
 induction L generalizing i with
 |nil=>simp at hi
 |cons a r ih=>
  have e:aQ (a::r)=i64 a.a::i64 a.b::i64 a.u::aQ r:=rfl
  cases i with
  |zero=>
   simp at hi;subst hi
   cases c<;>rfl
  |succ i=>
   have e2:aQ ((a::r).set (i+1) (y.gY c v))=i64 a.a::i64 a.b::i64 a.u::aQ (r.set i (y.gY c v)):=rfl
   rw[e,e2,show(i+1)*3+c.toNat=i*3+c.toNat+1+1+1 by omega]
   simp only[aop]
   rw[ih (by simpa using hi)]
theorem G9{L:List Lk}{i:Nat}{y:Lk}(hi:L[i]? =some y)(v:Int):(aQ L).set (i*3+2) (i64 v)=aQ (L.set i ⟨y.a,y.b,v⟩):=by
 induction L generalizing i with
 |nil=>simp at hi
 |cons a r ih=>
  have e:aQ (a::r)=i64 a.a::i64 a.b::i64 a.u::aQ r:=rfl
  cases i with
  |zero=>simp at hi;subst hi;rfl
  |succ i=>
   have e2:aQ ((a::r).set (i+1) ⟨y.a,y.b,v⟩)=i64 a.a::i64 a.b::i64 a.u::aQ (r.set i ⟨y.a,y.b,v⟩):=rfl
   rw[e,e2,show(i+1)*3+2=i*3+2+1+1+1 by omega]
   simp only[aop]
   rw[ih (by simpa using hi)]
def bi(L:List Lk)(x:Int)(c:Bool):Int:=if 0≤x then(match L[x.toNat]? with|some y=>y.sM c|none=> -1)else -1
def bq(L:List Lk)(x:Int):Int:=if 0≤x then(match L[x.toNat]? with|some y=>y.u|none=> -1)else -1
theorem sr{L:List Lk}{x:Int}{y:Lk}(h0:0≤x)(h:L[x.toNat]? =some y)(c:Bool):bi L x c=y.sM c:=by unfold bi;rw[if_pos h0,h]
theorem xD{L:List Lk}{x:Int}{y:Lk}(h0:0≤x)(h:L[x.toNat]? =some y):bq L x=y.u:=by unfold bq;rw[if_pos h0,h]
theorem SH{L:List Lk}{x:Int}(h:¬ (0≤x∧x<L.length))(c:Bool):bi L x c= -1:=by
 unfold bi
 split
 ·rw[anP (by omega)]
 ·rfl
theorem Od{L:List Lk}{x:Int}(h:¬ (0≤x∧x<L.length)):bq L x= -1:=by
 unfold bq
 split
 ·rw[anP (by omega)]
 ·rfl
theorem uO{L:List Lk}{p:Int}{y:Lk}(h0:0≤p)(h:L[p.toNat]? =some y)(c:Bool)(v:Int):bi (L.set p.toNat (y.gY c v))=eG (bi L) p c v:=by
 have aR:=(anA.1 h).1
 funext z d
 unfold eG
 by_cases hz:z=p
 ·subst hz
  rw[sr h0 (anI aR),Lk.UO,sr h0 h]
  by_cases hd:d=c<;>simp[hd]
 ·rw[if_neg (fun h=>hz h.1)]
  unfold bi
  split
  ·rw[anH (by omega)]
  ·rfl
theorem uP{L:List Lk}{p:Int}{y:Lk}(h0:0≤p)(h:L[p.toNat]? =some y)(c:Bool)(v:Int):bq (L.set p.toNat (y.gY c v))=bq L:=by
 have aR:=(anA.1 h).1
 funext z
 by_cases hz:z=p
 ·subst hz
  rw[xD h0 (anI aR),Lk.aaR,xD h0 h]
 ·unfold bq
  split
  ·rw[anH (by omega)]
  ·rfl
theorem Ed{L:List Lk}{p:Int}{y:Lk}(h0:0≤p)(h:L[p.toNat]? =some y)(v:Int):bi (L.set p.toNat ⟨y.a,y.b,v⟩)=bi L:=by
 have aR:=(anA.1 h).1
 funext z d
 by_cases hz:z=p
 ·subst hz
  rw[sr h0 (anI aR),sr h0 h]
  rfl
 ·unfold bi
  split
  ·rw[anH (by omega)]
  ·rfl
theorem Ee{L:List Lk}{p:Int}{y:Lk}(h0:0≤p)(h:L[p.toNat]? =some y)(v:Int):bq (L.set p.toNat ⟨y.a,y.b,v⟩)=aK (bq L) p v:=by
 have aR:=(anA.1 h).1
 funext z
 unfold aK
 by_cases hz:z=p
 ·subst hz
  rw[xD h0 (anI aR),if_pos rfl]
 ·rw[if_neg hz]
  unfold bq
  split
  ·rw[anH (by omega)]
  ·rfl
structure bR(H:Hp)(t tl:Nat)(L:List Lk):Prop where
 own:H.own t=some [.slice (some ⟨tl,0,none⟩) L.length L.length]
 nR:H.own tl=some (aQ L)
 ne:t≠tl
theorem bR.ext{S:Nat→Prop}{H H':Hp}{t tl:Nat}{L:List Lk}(h:bR H t tl L)(e:ah S H H')(h1:¬S t)(h2:¬S tl):bR H' t tl L:=⟨e.own h.own h1,e.own h.nR h2,h.ne⟩
theorem bR.fresh{H H':Hp}{t tl:Nat}{L:List Lk}(h:bR H t tl L)(e:aq H H'):bR H' t tl L:=h.ext e (fun h=>h) (fun h=>h)
theorem bR.put{H:Hp}{t tl:Nat}{L L':List Lk}(h:bR H t tl L)(hl:L'.length=L.length):bR (H.wr tl (aQ L')) t tl L':=
 ⟨by rw[DZ h.ne.symm,hl];exact h.own,aj h.nR,h.ne⟩
section
variable {H : Hp} {t tl : Nat} {L : List Lk}
theorem gZ(h:bR H t tl L)(x:Int):ai Tryz.prog B8 [ptr t,i64 x] H fun v H'=>ay (v= .bool (decide (0≤x∧x<L.length))∧H'=H):=by
 refine ba Ct ⟨rfl,?_⟩
 refine v1 lJ.eq_1 ?_
 refine am.dec (fun g=>?_) (fun g=>?_)<;>refine v1 (ae h.own) ?_
 ·exact⟨an4 Value.bool (by rw[decide_eq_decide];omega),rfl⟩
 ·exact⟨an4 Value.bool (anU (by omega)).symm,rfl⟩
theorem oM(H:Hp)(c:Bool):ai Tryz.prog Kk [.bool c] H fun v H'=>ay (v=i64 c.toNat∧H'=H):=by
 refine ba Kt ⟨rfl,?_⟩
 refine v1 uA.eq_1 ?_
 cases c<;>refine vs ?_<;>exact⟨rfl,rfl⟩
def iw(x:Int):Value:=if x= -1 then .tuple [i64 0,.bool false].toArray else .tuple [i64 x,.bool true].toArray
theorem oN(H:Hp)(x:Int):ai Tryz.prog Kl [i64 x] H fun v H'=>ay (v=iw x∧H'=H):=by
 refine ba Ku ⟨rfl,?_⟩
 refine v1 uB.eq_1 ?_
 unfold iw
 refine am.dec (fun g=>?_) (fun g=>?_)<;>refine vs ?_
 ·rw[if_pos g];exact⟨rfl,rfl⟩
 ·rw[if_neg g];exact⟨rfl,rfl⟩
theorem lW(h:bR H t tl L)(x:Int)(c:Bool):ai Tryz.prog B7 [ptr t,i64 x,.bool c] H fun v H'=>ay (v=i64 (bi L x c)∧H'=H):=by
 refine ba Cs ⟨rfl,?_⟩
 refine v1 lI.eq_1 ?_
 refine(gZ h x).mono ?_
 rintro _ H' ⟨rfl,e⟩
 obtain rfl:=e.symm
 refine vs ?_
 refine am.dec (fun g=>?_) (fun g=>?_)<;>refine vs ?_
 ·obtain⟨y,hy⟩:∃y,L[x.toNat]? =some y:=⟨_,anx (by omega)⟩
  have hk:=W4 hy c
  have hc:c.toNat<2:=by cases c<;>decide
  refine v1 (ae h.own) ?_
  refine⟨_,oM H c,?_⟩
  refine⟨⟨by omega,by omega⟩,?_⟩
  refine v4 anB Nat.add_zero anD Int.toNat_natCast ?_
  refine⟨⟨by omega,by omega⟩,?_⟩
  refine v6 (ae h.nR) anB Nat.add_zero anD Int.toNat_natCast hk ?_
  rw[sr g.1 hy]
  exact⟨rfl,rfl⟩
 ·rw[SH g]
  exact⟨rfl,rfl⟩
theorem ng(h:bR H t tl L)(x:Int):ai Tryz.prog yT [ptr t,i64 x] H fun v H'=>ay (v=i64 (bq L x)∧H'=H):=by
 refine ba zy ⟨rfl,?_⟩
 refine v1 iX.eq_1 ?_
 refine(gZ h x).mono ?_
 rintro _ H' ⟨rfl,e⟩
 obtain rfl:=e.symm
 refine vs ?_
 refine am.dec (fun g=>?_) (fun g=>?_)<;>refine vs ?_
 ·obtain⟨y,hy⟩:∃y,L[x.toNat]? =some y:=⟨_,anx (by omega)⟩
  have hk:=(Pw hy).2.2
  refine v1 (ae h.own) ?_
  refine⟨by omega,?_⟩
  refine v3 (ae h.nR) anB hk ?_
  rw[xD g.1 hy]
  exact⟨rfl,rfl⟩
 ·rw[Od g]
  exact⟨rfl,rfl⟩
theorem oO(h:bR H t tl L)(x:Int):ai Tryz.prog Ax [ptr t,i64 x] H fun v H'=>ay (v=iw (bi L x false)∧H'=H):=by
 refine ba A6 ⟨rfl,?_⟩
 refine v1 jY.eq_1 ?_
 refine(lW h x false).mono ?_
 rintro _ H' ⟨rfl,e⟩
 obtain rfl:=e.symm
 refine vs ?_
 refine(oN H (bi L x false)).mono ?_
 rintro _ H' ⟨rfl,e⟩
 obtain rfl:=e.symm
 unfold iw
 by_cases g:bi L x false= -1
 ·simp only[if_pos g]
  refine vs ?_
  exact⟨(if_pos g).symm,rfl⟩
 ·simp only[if_neg g]
  refine vs ?_
  exact⟨(if_neg g).symm,rfl⟩
theorem cB(h:bR H t tl L)(x:Int):ai Tryz.prog yS [ptr t,i64 x] H fun v H'=>ay (v=iw (bi L x true)∧H'=H):=by
 refine ba zx ⟨rfl,?_⟩
 refine v1 iW.eq_1 ?_
 refine(lW h x true).mono ?_
 rintro _ H' ⟨rfl,e⟩
 obtain rfl:=e.symm
 refine vs ?_
 refine(oN H (bi L x true)).mono ?_
 rintro _ H' ⟨rfl,e⟩
 obtain rfl:=e.symm
 unfold iw
 by_cases g:bi L x true= -1
 ·simp only[if_pos g]
  refine vs ?_
  exact⟨(if_pos g).symm,rfl⟩
 ·simp only[if_neg g]
  refine vs ?_
  exact⟨(if_neg g).symm,rfl⟩
theorem sw(h:bR H t tl L)(x:Int):ai Tryz.prog DG [ptr t,i64 x] H fun v H'=>ay (v=iw (bq L x)∧H'=H):=by
 refine ba DU ⟨rfl,?_⟩
 refine v1 mR.eq_1 ?_
 refine(ng h x).mono ?_
 rintro _ H' ⟨rfl,e⟩
 obtain rfl:=e.symm
 refine vs ?_
 refine(oN H (bq L x)).mono ?_
 rintro _ H' ⟨rfl,e⟩
 obtain rfl:=e.symm
 unfold iw
 by_cases g:bq L x= -1
 ·simp only[if_pos g]
  refine vs ?_
  exact⟨(if_pos g).symm,rfl⟩
 ·simp only[if_neg g]
  refine vs ?_
  exact⟨(if_neg g).symm,rfl⟩
set_option maxHeartbeats 1000000 in
theorem fG(h:bR H t tl L){p x:Int}{c:Bool}(hp:0≤p∧p<L.length)(hx:0≤x∧x<L.length)(ec:p≠x)(hu:bq L x= -1)(hk:bi L p c= -1):
  ai Tryz.prog Ay [ptr t,i64 p,i64 x,.bool c] H fun v H'=>ay (v= .bool true∧∃L',bR H' t tl L'∧L'.length=L.length∧bi L'=wH (bi L) p x c∧bq L'=aK (bq L) x p∧ah (fun z=>z=tl) H H'):=by
 refine ba A8 ⟨rfl,?_⟩
 refine v1 jZ.eq_1 ?_
 refine(gZ h p).mono ?_
 rintro _ H' ⟨rfl,e⟩
 obtain rfl:=e.symm
 rw[anQ hp]
 refine vs ?_
 refine(gZ h x).mono ?_
 rintro _ H' ⟨rfl,e⟩
 obtain rfl:=e.symm
 rw[anQ hx]
 refine vs ?_
 refine am.dec (fun g=>absurd g ec) (fun _=>?_)
 refine vs ?_
 refine(ng h x).mono ?_
 rintro _ H' ⟨rfl,e⟩
 obtain rfl:=e.symm
 rw[hu]
 refine v1 anZ ?_
 refine(lW h p c).mono ?_
 rintro _ H' ⟨rfl,e⟩
 obtain rfl:=e.symm
 rw[hk]
 refine v1 anZ ?_
 obtain⟨y,hy⟩:∃y,L[p.toNat]? =some y:=⟨_,anx (by omega)⟩
 have hc:c.toNat<2:=by cases c<;>decide
 have ol:=kK L
 refine v1 (ae h.own) ?_
 refine⟨_,oM H c,?_⟩
 refine⟨⟨by omega,by omega⟩,?_⟩
 refine v4 anB Nat.add_zero anD Int.toNat_natCast ?_
 refine⟨⟨by omega,by omega⟩,?_⟩
 refine v5 h.nR anB Nat.add_zero anD Int.toNat_natCast ?_
 refine⟨by omega,?_⟩
 have h1:=h.put (L':=L.set p.toNat (y.gY c x)) (by rw[anC])
 have e1:ah (fun z=>z=tl) H (H.wr tl (aQ (L.set p.toNat (y.gY c x)))):=(ah.refl (fun z=>z=tl) _).wr (fun _=>rfl) _
 rw[←yn hy c x]at h1 e1
 have k1:=uO hp.1 hy c x
 have u1:=uP hp.1 hy c x
 have l1:(L.set p.toNat (y.gY c x)).length=L.length:=anC ..
 generalize L.set p.toNat (y.gY c x)=L1 at*
 refine vs ?_
 generalize H.wr tl ((aQ L).set (p.toNat*3+c.toNat) (i64 x))=H1 at*
 obtain⟨y1,Iy⟩:∃y,L1[x.toNat]? =some y:=⟨_,anx (by omega)⟩
 have ae8:=kK L1
 refine v1 (ae h1.own) ?_
 refine⟨by omega,?_⟩
 refine v2 h1.nR anB ?_
 refine⟨by omega,?_⟩
 have h2:=h1.put (L':=L1.set x.toNat ⟨y1.a,y1.b,p⟩) (by rw[anC])
 have e2:ah (fun z=>z=tl) H1 (H1.wr tl (aQ (L1.set x.toNat ⟨y1.a,y1.b,p⟩))):=(ah.refl (fun z=>z=tl) _).wr (fun _=>rfl) _
 rw[←G9 Iy p]at h2 e2
 refine vs ?_
 exact⟨rfl,_,h2,by rw[anC,l1],by rw[Ed hx.1 Iy,k1];rfl,by rw[Ee hx.1 Iy,u1],e1.trans e2⟩
set_option maxHeartbeats 1000000 in
theorem cP(h:bR H t tl L){x:Int}(hv:bq L x≠ -1→0≤bq L x∧bq L x<L.length):
  ai Tryz.prog B6 [ptr t,i64 x] H fun v H'=>ay (v=iw (bq L x)∧∃L',bR H' t tl L'∧L'.length=L.length∧bi L'=kP (bi L) (bq L) x∧bq L'=c9 (bq L) x∧ah (fun z=>z=tl) H H'):=by
 refine ba Cr ⟨rfl,?_⟩
 refine v1 lH.eq_1 ?_
 refine(ng h x).mono ?_
 rintro _ H' ⟨rfl,e⟩
 obtain rfl:=e.symm
 refine vs ?_
 have ol:=kK L
 refine am.dec (fun g=>?_) (fun g=>?_)<;>refine vs ?_
 ·refine⟨by unfold iw;rw[if_pos g];rfl,L,h,rfl,by unfold kP;rw[if_pos g],?_,ah.refl _ _⟩
  funext z
  unfold c9 aK
  split
  ·rename_i hz;rw[hz,g]
  ·rfl
 have hx:0≤x∧x<L.length:=anX fun hn=>g (Od hn)
 obtain⟨p0,p1⟩:=hv g
 generalize hpe:bq L x=p at*
 obtain⟨y,hy⟩:∃y,L[p.toNat]? =some y:=⟨_,anx (by omega)⟩
 have hc:∀c:Bool,c.toNat<2:=fun c=>by cases c<;>decide
 refine v1 (ae h.own) ?_
 refine⟨_,lW h p true,?_⟩
 refine vs ?_
 refine⟨_,oM H (decide (bi L p true=x)),?_⟩
 have W5:decide (bi L p true=x)=(bi L p true==x):=by by_cases e:bi L p true=x<;>simp[e]
 rw[W5]
 have JG:=hc (bi L p true==x)
 generalize hce:(bi L p true==x)=c at*
 refine⟨⟨by omega,by omega⟩,?_⟩
 refine v4 anB Nat.add_zero anD Int.toNat_natCast ?_
 refine⟨⟨by omega,by omega⟩,?_⟩
 refine v5 h.nR anB Nat.add_zero anD Int.toNat_natCast ?_
 refine⟨by omega,?_⟩
 have h1:=h.put (L':=L.set p.toNat (y.gY c (-1))) (by rw[anC])
 have e1:ah (fun z=>z=tl) H (H.wr tl (aQ (L.set p.toNat (y.gY c (-1))))):=(ah.refl (fun z=>z=tl) _).wr (fun _=>rfl) _
 rw[←yn hy c (-1)]at h1 e1
 have k1:=uO p0 hy c (-1)
 have u1:=uP p0 hy c (-1)
 have l1:(L.set p.toNat (y.gY c (-1))).length=L.length:=anC ..
 generalize L.set p.toNat (y.gY c (-1))=L1 at*
 refine vs ?_
 generalize H.wr tl ((aQ L).set (p.toNat*3+c.toNat) (i64 (-1)))=H1 at*
 obtain⟨y1,Iy⟩:∃y,L1[x.toNat]? =some y:=⟨_,anx (by omega)⟩
 have ae8:=kK L1
 refine v1 (ae h1.own) ?_
 refine⟨by omega,?_⟩
 refine v2 h1.nR anB ?_
 refine⟨by omega,?_⟩
 have h2:=h1.put (L':=L1.set x.toNat ⟨y1.a,y1.b, -1⟩) (by rw[anC])
 have e2:ah (fun z=>z=tl) H1 (H1.wr tl (aQ (L1.set x.toNat ⟨y1.a,y1.b, -1⟩))):=(ah.refl (fun z=>z=tl) _).wr (fun _=>rfl) _
 rw[←G9 Iy (-1)]at h2 e2
 refine vs ?_
 refine⟨by unfold iw;rw[if_neg g];rfl,_,h2,by rw[anC,l1],?_,by rw[Ee hx.1 Iy,u1];rfl,e1.trans e2⟩
 rw[Ed hx.1 Iy,k1]
 unfold kP
 rw[hpe,if_neg g,hce]
theorem SI{L:List Lk}{p:Int}{y:Lk}(h0:0≤p)(h:L[p.toNat]? =some y):bi (L.set p.toNat ⟨y.b,y.a,y.u⟩)=pW (bi L) p∧bq (L.set p.toNat ⟨y.b,y.a,y.u⟩)=bq L:=by
 have aR:=(anA.1 h).1
 constructor
 ·funext z d
  unfold pW
  by_cases hz:z=p
  ·subst hz
   rw[sr h0 (anI aR),if_pos rfl,sr h0 h]
   cases d<;>rfl
  ·rw[if_neg hz]
   unfold bi
   split
   ·rw[anH (by omega)]
   ·rfl
 ·funext z
  by_cases hz:z=p
  ·subst hz
   rw[xD h0 (anI aR),xD h0 h]
  ·unfold bq
   split
   ·rw[anH (by omega)]
   ·rfl
theorem Oe{L:List Lk}{i:Nat}{y:Lk}(hi:L[i]? =some y):((aQ L).set (i*3) (i64 y.b)).set (i*3+1) (i64 y.a)=aQ (L.set i ⟨y.b,y.a,y.u⟩):=by
 induction L generalizing i with
 |nil=>simp at hi
 |cons a r ih=>
  have e:aQ (a::r)=i64 a.a::i64 a.b::i64 a.u::aQ r:=rfl
  cases i with
  |zero=>simp at hi;subst hi;rfl
  |succ i=>
   have e2:aQ ((a::r).set (i+1) ⟨y.b,y.a,y.u⟩)=i64 a.a::i64 a.b::i64 a.u::aQ (r.set i ⟨y.b,y.a,y.u⟩):=rfl
   rw[e,e2,show(i+1)*3=i*3+1+1+1 by omega,show i*3+1+1+1+1=i*3+1+1+1+1 by rfl]
   simp only[aop]
   rw[ih (by simpa using hi)]
set_option maxHeartbeats 1000000 in
theorem oP(h:bR H t tl L){p:Int}(hp:0≤p∧p<L.length):
  ai Tryz.prog Az [ptr t,i64 p] H fun v H'=>ay (v= .bool true∧∃L',bR H' t tl L'∧L'.length=L.length∧bi L'=pW (bi L) p∧bq L'=bq L∧ah (fun z=>z=tl) H H'):=by
 refine ba A9 ⟨rfl,?_⟩
 refine v1 j0.eq_1 ?_
 refine(gZ h p).mono ?_
 rintro _ H' ⟨rfl,e⟩
 obtain rfl:=e.symm
 rw[anQ hp]
 obtain⟨y,hy⟩:∃y,L[p.toNat]? =some y:=⟨_,anx (by omega)⟩
 have ol:=kK L
 obtain⟨a1,a2,a3⟩:=Pw hy
 refine v1 (ae h.own) ?_
 refine⟨by omega,?_⟩
 refine vs ?_
 have n1:Int.toNat 1=1:=rfl
 refine⟨⟨by omega,by omega⟩,?_⟩
 refine v8 (ae h.nR) anB Nat.add_zero anD Int.toNat_zero n1 a1 a2 ?_
 refine⟨⟨by omega,by omega⟩,?_⟩
 refine v8 (ae h.nR) anB Nat.add_zero anD Int.toNat_zero n1 a1 a2 ?_
 refine⟨⟨by omega,by omega⟩,?_⟩
 refine v6 h.nR anB Nat.add_zero anD Int.toNat_zero n1 ?_
 refine⟨by omega,?_⟩
 refine vs ?_
 refine⟨⟨by omega,by omega⟩,?_⟩
 have o1:(H.wr tl ((aQ L).set (p.toNat*3) (i64 y.b))).own tl=_:=aj h.nR
 have e1:ah (fun z=>z=tl) H (H.wr tl ((aQ L).set (p.toNat*3) (i64 y.b))):=(ah.refl (fun z=>z=tl) _).wr (fun _=>rfl) _
 have w1:=e1.own h.own h.ne
 generalize H.wr tl ((aQ L).set (p.toNat*3) (i64 y.b))=H1 at*
 refine v6 o1 anB Nat.add_zero anD Int.toNat_zero n1 ?_
 refine⟨by rw[anC];omega,?_⟩
 have e2:ah (fun z=>z=tl) H1 (H1.wr tl (((aQ L).set (p.toNat*3) (i64 y.b)).set (p.toNat*3+1) (i64 y.a))):=(ah.refl (fun z=>z=tl) _).wr (fun _=>rfl) _
 have o2:(H1.wr tl (((aQ L).set (p.toNat*3) (i64 y.b)).set (p.toNat*3+1) (i64 y.a))).own tl=_:=aj o1
 refine vs ?_
 obtain⟨k1,k2⟩:=SI hp.1 hy
 refine⟨rfl,L.set p.toNat ⟨y.b,y.a,y.u⟩,⟨by rw[anC];exact e2.own w1 h.ne,by rw[←Oe hy];exact o2,h.ne⟩,anC ..,k1,k2,e1.trans e2⟩
end
theorem Px(n:Nat):cN [Value.int .i64 0,Value.int .i64 0,Value.int .i64 0] n=aQ (List.replicate n ⟨0,0,0⟩):=by
 unfold cN
 induction n with
 |zero=>rfl
 |succ n ih=>rw[aor,aoI,ih,aor];rfl
theorem JR{L:List Lk}{i:Nat}(hi:i<L.length)(y:Lk):bk (aQ L) (i*3) [i64 y.a,i64 y.b,i64 y.u]=aQ (L.set i y):=by
 simp only[bk]
 induction L generalizing i with
 |nil=>simp at hi
 |cons a r ih=>
  have e:aQ (a::r)=i64 a.a::i64 a.b::i64 a.u::aQ r:=rfl
  cases i with
  |zero=>rfl
  |succ i=>
   have e2:aQ ((a::r).set (i+1) y)=i64 a.a::i64 a.b::i64 a.u::aQ (r.set i y):=rfl
   rw[e,e2,show(i+1)*3=i*3+1+1+1 by omega]
   simp only[aop]
   rw[ih (by simpa using hi)]
def mq:Lk:=⟨-1, -1, -1⟩
set_option maxHeartbeats 1000000 in
theorem xE(H:Hp){n:Int}(hn:0≤n∧n≤65536):ai Tryz.prog LL [i64 n] H fun v H'=>ay (∃t tl,v= .tuple [ptr t,i64 0].toArray∧bR H' t tl (List.replicate n.toNat mq)∧aq H H'∧H.size≤t∧H.size≤tl):=by
 refine ba LR ⟨rfl,?_⟩
 refine v1 w8.eq_1 ?_
 refine am.dec (fun g=>absurd g (by omega)) (fun _=>?_)
 refine vs ?_
 refine am.dec (fun g=>absurd g (by omega)) (fun _=>?_)
 refine vs ?_
 refine⟨⟨by omega,by omega,by omega,by omega⟩,?_⟩
 refine vs ?_
 rw[Px]
 have f0:aq H ((H.new 322 (aQ (List.replicate n.toNat ⟨0,0,0⟩))).new 320 [.slice (some ⟨H.size,0,none⟩) n.toNat n.toNat]):=((ah.refl _ _).new _ _).new _ _
 have t0:bR ((H.new 322 (aQ (List.replicate n.toNat ⟨0,0,0⟩))).new 320 [.slice (some ⟨H.size,0,none⟩) n.toNat n.toNat]) (H.size+1) H.size (List.replicate n.toNat ⟨0,0,0⟩):=by
  refine⟨?_,?_,by omega⟩
  ·rw[aov]
   exact bD (by simp only[ar])
  ·rw[cz (by simp only[ar];omega),aE]
 generalize (H.new 322 (aQ (List.replicate n.toNat ⟨0,0,0⟩))).new 320 [.slice (some ⟨H.size,0,none⟩) n.toNat n.toNat]=H1 at*
 have ow:=t0.own
 rw[aov]at ow
 refine bA.intro (fun m env H'=>∃j:Nat,m=n.toNat - j∧j≤n.toNat∧ah (fun z=>z=H.size) H1 H'∧bR H' (H.size+1) H.size (List.replicate j mq++List.replicate (n.toNat - j) ⟨0,0,0⟩)∧
  env=[(4,ptr (H.size+1)),(20,i64 (n.toNat:Nat)),(21,i64 j)]) n.toNat ⟨0,by omega,by omega,ah.refl _ _,t0,rfl⟩ ?_
 rintro m env H2 ⟨j,rfl,hj,e2,t2,rfl⟩
 have ol:=kK (List.replicate j mq++List.replicate (n.toNat - j) (⟨0,0,0⟩:Lk))
 have wC:(List.replicate j mq++List.replicate (n.toNat - j) (⟨0,0,0⟩:Lk)).length=n.toNat:=by simp;omega
 have o2:=t2.own
 rw[wC]at ol o2
 refine vs ?_
 refine am.dec (fun aR=>?_) (fun aR=>?_)<;>refine vs ?_
 ·first|refine v1 (ae o2) ?_|skip
  refine⟨by omega,?_⟩
  refine v3 t2.nR anB Int.toNat_natCast ?_
  refine⟨by omega,?_⟩
  have e3:=JR (L:=List.replicate j mq++List.replicate (n.toNat - j) (⟨0,0,0⟩:Lk)) (i:=j) (by omega) mq
  have e4:(List.replicate j mq++List.replicate (n.toNat - j) (⟨0,0,0⟩:Lk)).set j mq=List.replicate (j+1) mq++List.replicate (n.toNat - (j+1)) (⟨0,0,0⟩:Lk):=by
   rw[apJ _ _ (by simp),aov,aoJ,show n.toNat - j=(n.toNat - (j+1))+1 by omega,aor,ao1,apN]
   simp
  rw[e4]at e3
  have t3:=t2.put (L':=List.replicate (j+1) mq++List.replicate (n.toNat - (j+1)) (⟨0,0,0⟩:Lk)) (by simp;omega)
  have e5:ah (fun z=>z=H.size) H1 (H2.wr H.size (aQ (List.replicate (j+1) mq++List.replicate (n.toNat - (j+1)) (⟨0,0,0⟩:Lk)))):=e2.wr (fun _=>rfl) _
  rw[show bk (aQ (List.replicate j mq++List.replicate (n.toNat - j) (⟨0,0,0⟩:Lk))) (j*3) (aM (Value.agg #[Value.int .i64 (-1),Value.int .i64 (-1),Value.int .i64 (-1)]))=_ from e3]
  refine vs ?_
  rw[wrap64 (n:=(j:Int)+1) (by omega) (by omega)]
  exact⟨n.toNat - (j+1),by omega,j+1,rfl,by omega,e5,t3,rfl⟩
 ·have jk:j=n.toNat:=by omega
  subst jk
  rw[aoJ,apP,aow]at t2
  exact⟨_,_,rfl,t2,f0.then e2 (fun z hz=>by omega),by omega,by omega⟩
end Go.Proofs.YtjlnnljohemifaaGreat

namespace Go.Proofs.YtjlnnljohemifaaGreat
open Go Go.Vc
structure LB where
 n:Nat
 c:Nat
 t:Nat
 tl:Nat
 rk:Nat
 tp:Nat
structure c7(H:Hp)(B:LB)(C:Nat→Prop)(w:Nw)(L:List Lk)(rs tops:List Int):Prop where
 own:∃tv,H.own B.n=some [ptr B.c,ptr B.t,.slice (some ⟨B.rk,0,none⟩) rs.length rs.length,tv]∧Sl H 1 tv tops.length (tops.map i64) (some B.tp)
 cells:CQ H B.c C w
 bY:bR H B.t B.tl L
 Ef:H.own B.rk=some (rs.map i64)
 len:L.length=w.cs.length∧rs.length=w.cs.length
 rl:(B.n≠B.t∧B.n≠B.tl∧B.n≠B.rk∧B.n≠B.tp)∧(B.t≠B.tl∧B.t≠B.rk∧B.t≠B.tp)∧(B.tl≠B.rk∧B.tl≠B.tp)∧B.rk≠B.tp
 out:¬C B.n∧¬C B.t∧¬C B.tl∧¬C B.rk∧¬C B.tp
def LB.S(B:LB)(C:Nat→Prop)(z:Nat):Prop:=C z∨z=B.n∨z=B.t∨z=B.tl∨z=B.rk∨z=B.tp
section
variable {H H' : Hp} {B : LB} {C T : Nat → Prop} {w w' : Nw} {L L' : List Lk} {rs tops : List Int}
theorem c7.slt(h:c7 H B C w L rs tops):∀z,B.S C z→z<H.size:=by
 obtain⟨tv,h1,h2⟩:=h.own
 rintro z (hz|rfl|rfl|rfl|rfl|rfl)
 ·exact h.cells.slt z hz
 ·exact aG h1
 ·exact aG h.bY.own
 ·exact aG h.bY.nR
 ·exact aG h.Ef
 ·exact h2.lt
theorem c7.ext(h:c7 H B C w L rs tops)(e:ah T H H')(hd:∀z,B.S C z→¬T z):c7 H' B C w L rs tops:=by
 obtain⟨tv,h1,h2⟩:=h.own
 exact⟨⟨tv,e.own h1 (hd _ (.inr (.inl rfl))),h2.ext e (fun b hb=>by injection hb with hb;exact hb▸hd _ (.inr (.inr (.inr (.inr (.inr rfl))))))⟩,h.cells.ext e (fun x hx=>hd x (.inl hx)),
  h.bY.ext e (hd _ (.inr (.inr (.inl rfl)))) (hd _ (.inr (.inr (.inr (.inl rfl))))),e.own h.Ef (hd _ (.inr (.inr (.inr (.inr (.inl rfl)))))),h.len,h.rl,h.out⟩
theorem c7.fresh(h:c7 H B C w L rs tops)(e:aq H H'):c7 H' B C w L rs tops:=h.ext e fun _ _ h=>h
theorem c7.aN(h:c7 H B C w L rs tops)(c1:CQ H' B.c C w')(e:ah C H H')(hl:w'.cs.length=w.cs.length):c7 H' B C w' L rs tops:=by
 obtain⟨tv,h1,h2⟩:=h.own
 obtain⟨o1,o2,o3,o4,o5⟩:=h.out
 exact⟨⟨tv,e.own h1 o1,h2.ext e (fun b hb=>by injection hb with hb;exact hb▸o5)⟩,c1,h.bY.ext e o2 o3,e.own h.Ef o4,by rw[hl];exact h.len,h.rl,h.out⟩
theorem c7.dN(h:c7 H B C w L rs tops)(t1:bR H' B.t B.tl L')(e:ah (fun z=>z=B.tl) H H')(hl:L'.length=L.length):c7 H' B C w L' rs tops:=by
 obtain⟨tv,h1,h2⟩:=h.own
 obtain⟨o1,o2,o3,o4,o5⟩:=h.out
 obtain⟨⟨d1,d2,d3,d4⟩,⟨d5,d6,d7⟩,⟨d8,d9⟩,d10⟩:=h.rl
 exact⟨⟨tv,e.own h1 d2,h2.ext e (fun b hb=>by injection hb with hb;omega)⟩,h.cells.ext e (fun x hx hz=>o3 (hz▸hx)),t1,e.own h.Ef (by omega),by rw[hl];exact h.len,h.rl,h.out⟩
theorem c7.Of(h:c7 H B C w L rs tops)(i:Nat)(v:Int):c7 (H.wr B.rk ((rs.map i64).set i (i64 v))) B C w L (rs.set i v) tops∧ah (fun z=>z=B.rk) H (H.wr B.rk ((rs.map i64).set i (i64 v))):=by
 obtain⟨tv,h1,h2⟩:=h.own
 obtain⟨o1,o2,o3,o4,o5⟩:=h.out
 obtain⟨⟨d1,d2,d3,d4⟩,⟨d5,d6,d7⟩,⟨d8,d9⟩,d10⟩:=h.rl
 have e:ah (fun z=>z=B.rk) H (H.wr B.rk ((rs.map i64).set i (i64 v))):=(ah.refl (fun z=>z=B.rk) _).wr (fun _=>rfl) _
 refine⟨⟨⟨tv,by rw[anC];exact e.own h1 d3,h2.ext e (fun b hb=>by injection hb with hb;omega)⟩,h.cells.ext e (fun x hx hz=>o4 (hz▸hx)),h.bY.ext e (by omega) (by omega),?_,by rw[anC];exact h.len,h.rl,h.out⟩,e⟩
 rw[aoo]
 exact aj h.Ef
theorem c7.hG(h:c7 H B C w L rs tops):∃c l,H.own B.n=some [ptr B.c,ptr B.t,.slice (some ⟨B.rk,0,none⟩) rs.length rs.length,.slice (some ⟨B.tp,0,none⟩) tops.length c]∧H.own B.tp=some l∧tops.length≤c∧c≤l.length∧l.take tops.length=tops.map i64:=by
 obtain⟨tv,h1,_,l,c,rfl,h3,h4,h5,h6⟩:=h.own
 rw[anD]at h5 h6
 exact⟨c,l,h1,h3,h4,h5,h6⟩
theorem c7.fB(h:c7 H B C w L rs tops){l:List Value}(hl:H.own B.tp=some l){i:Nat}{x:Int}(hx:tops[i]? =some x):l[i]? =some (i64 x):=by
 obtain⟨c,l',_,h2,_,_,h5⟩:=h.hG
 rw[hl]at h2
 injection h2 with h2
 subst h2
 have h7:(tops.map i64)[i]? =some (i64 x):=by rw[anT,hx];rfl
 rw[←h5,aob]at h7
 split at h7
 ·exact h7
 ·cases h7
theorem c7.nS(h:c7 H B C w L rs tops){l:List Value}(hl:H.own B.tp=some l)(i:Nat)(v:Int):c7 (H.wr B.tp (l.set i (i64 v))) B C w L rs (tops.set i v)∧ah (fun z=>z=B.tp) H (H.wr B.tp (l.set i (i64 v))):=by
 obtain⟨c,l',h1,h2,h3,h4,h5⟩:=h.hG
 rw[hl]at h2
 injection h2 with h2
 subst h2
 obtain⟨o1,o2,o3,o4,o5⟩:=h.out
 obtain⟨⟨d1,d2,d3,d4⟩,⟨d5,d6,d7⟩,⟨d8,d9⟩,d10⟩:=h.rl
 have e:ah (fun z=>z=B.tp) H (H.wr B.tp (l.set i (i64 v))):=(ah.refl (fun z=>z=B.tp) _).wr (fun _=>rfl) _
 refine⟨⟨⟨_,e.own h1 d4,?_⟩,h.cells.ext e (fun x hx hz=>o5 (hz▸hx)),h.bY.ext e (by omega) (by omega),e.own h.Ef (by omega),h.len,h.rl,h.out⟩,e⟩
 refine⟨by simp,l.set i (i64 v),c,by rw[anC],aj hl,by rw[anC];exact h3,by rw[anC,anD];exact h4,?_⟩
 rw[anC,anD,yo,h5,aoo]
theorem cC(H:Hp)(x:Int):∀ (a:Int) (b:Bool),iw x= .tuple [i64 a,.bool b].toArray→ai Tryz.prog IK [i64 a,.bool b] H fun v H'=>ay (v=i64 x∧H'=H):=by
 intro a b he
 unfold iw at he
 refine ba IW ⟨rfl,?_⟩
 refine v1 sm.eq_1 ?_
 have h2:∀ {p q:Int} {r s:Bool},Value.tuple [i64 p,Value.bool r].toArray=Value.tuple [i64 q,Value.bool s].toArray→p=q∧r=s:=fun h=>by
  have h3:=an4 Array.toList (Value.tuple.inj h)
  injection h3 with h4 h5
  injection h4 with _ h4
  injection h5 with h5 _
  injection h5 with h5
  exact⟨h4,h5⟩
 split at he
 ·rename_i hx
  obtain⟨rfl,rfl⟩:=h2 he
  refine vs ?_
  rw[hx]
  exact⟨rfl,rfl⟩
 ·obtain⟨rfl,rfl⟩:=h2 he
  refine vs ?_
  exact⟨rfl,rfl⟩
theorem cQ(x:Int):∃ (a:Int) (b:Bool),iw x= .tuple [i64 a,.bool b].toArray:=by
 unfold iw
 split
 ·exact⟨_,_,rfl⟩
 ·exact⟨_,_,rfl⟩
def Zf(rs:List Int)(x:Int):Int:=if x= -1 then 0 else rs.getD x.toNat 0
theorem eD(h:c7 H B C w L rs tops){x:Int}(hx:x≠ -1→0≤x∧x<w.cs.length):ai Tryz.prog vO [ptr B.n,i64 x] H fun v H'=>ay (v=i64 (Zf rs x)∧H'=H):=by
 obtain⟨tv,h1,h2⟩:=h.own
 have hl:=h.len
 refine ba wg ⟨rfl,?_⟩
 refine v1 fU.eq_1 ?_
 refine am.dec (fun g=>?_) (fun g=>?_)<;>refine vs ?_
 ·unfold Zf
  rw[if_pos g]
  exact⟨rfl,rfl⟩
 have hx:=hx g
 have hr:(rs.map i64)[x.toNat]? =some (i64 (Zf rs x)):=by
  unfold Zf
  rw[if_neg g,anT,anE,anx (by omega)]
  rfl
 refine v1 (ae h1) ?_
 refine⟨⟨by omega,by omega⟩,?_⟩
 refine v4 (ae h.Ef) anB anD hr ?_
 exact⟨rfl,rfl⟩
set_option maxHeartbeats 1000000 in
theorem jb(h:c7 H B C w L rs tops){x:Int}(hx:0≤x∧x<w.cs.length)(hk:∀c,bi L x c≠ -1→0≤bi L x c∧bi L x c<w.cs.length):
  ai Tryz.prog vN [ptr B.n,i64 x] H fun v H'=>ay (∃L' UP,c7 H' B C w L' UP tops∧(bi L'=bi L∨bi L'=pW (bi L) x)∧bq L'=bq L∧ah (fun z=>z=B.tl∨z=B.rk) H H'):=by
 obtain⟨tv,h1,h2⟩:=h.own
 have hl:=h.len
 refine ba we ⟨rfl,?_⟩
 refine v2 fT.eq_1 (ae h1) ?_
 obtain⟨a1,b1,e1⟩:=cQ (bi L x false)
 obtain⟨a2,b2,e2⟩:=cQ (bi L x true)
 refine⟨.tuple [i64 a1,.bool b1].toArray,(oO h.bY x).mono (by rintro v H' ⟨rfl,rfl⟩;exact⟨e1,rfl⟩),?_⟩
 refine vs ?_
 refine⟨_,cC H _ a1 b1 e1,?_⟩
 refine v1 (ae h1) ?_
 refine(cB h.bY x).mono ?_
 rintro _ H' ⟨rfl,e⟩
 obtain rfl:=e.symm
 rw[e2]
 refine vs ?_
 refine(cC H _ a2 b2 e2).mono ?_
 rintro _ H' ⟨rfl,e⟩
 obtain rfl:=e.symm
 refine vs ?_
 refine(eD h (hk false)).mono ?_
 rintro _ H' ⟨rfl,e⟩
 obtain rfl:=e.symm
 refine vs ?_
 refine(eD h (hk true)).mono ?_
 rintro _ H' ⟨rfl,e⟩
 obtain rfl:=e.symm
 refine vs ?_
 refine am.dec (fun g=>?_) (fun g=>?_)<;>refine vs ?_
 ·refine v1 (ae h1) ?_
  refine(oP h.bY (p:=x) (by omega)).mono ?_
  rintro _ H1 ⟨rfl,L1,t1,l1,k1,u1,e1⟩
  have m1:=h.dN t1 e1 l1
  obtain⟨Eg,o1,_⟩:=m1.own
  refine v1 (ae o1) ?_
  refine⟨_,eD m1 (hk false),?_⟩
  refine vs ?_
  refine⟨⟨by omega,by omega⟩,?_⟩
  refine v3 m1.Ef anB anD ?_
  refine⟨by rw[anW];omega,?_⟩
  obtain⟨m2,e2⟩:=m1.Of x.toNat (IntKind.i64.wrap (Zf rs (bi L x false)+1))
  refine vs ?_
  exact⟨L1,_,m2,.inr k1,u1,(e1.mono fun z _ hz=>.inl hz).trans (e2.mono fun z _ hz=>.inr hz)⟩
 ·refine v1 (ae h1) ?_
  refine⟨_,eD h (hk true),?_⟩
  refine vs ?_
  refine⟨⟨by omega,by omega⟩,?_⟩
  refine v3 h.Ef anB anD ?_
  refine⟨by rw[anW];omega,?_⟩
  obtain⟨m2,e2⟩:=h.Of x.toNat (IntKind.i64.wrap (Zf rs (bi L x true)+1))
  refine vs ?_
  exact⟨L,_,m2,.inl rfl,rfl,e2.mono fun z _ hz=>.inr hz⟩
abbrev CM(w:Nw)(L:List Lk):Prop:=Bt (aI w) (aU w) (bi L) (bq L)
theorem CM.sM{w:Nw}{L:List Lk}(h:CM w L){x:Int}{c:Bool}(hk:bi L x c≠ -1):0≤bi L x c∧bi L x c<w.cs.length:=by
 obtain⟨_,_,h1,h2,_⟩:=Bt.home h hk
 obtain⟨a,b,_⟩:=aH (w:=w) (x:=bi L x c) (by omega)
 omega
theorem CM.up{w:Nw}{L:List Lk}(h:CM w L){x:Int}(hu:bq L x≠ -1):0≤bq L x∧bq L x<w.cs.length∧aU w (bq L x) x=true∧aI w (bq L x)=aI w x:=by
 obtain⟨_,_,h1,h2,h3⟩:=h.uk x _ rfl hu
 obtain⟨a,b,_⟩:=aH (w:=w) (x:=bq L x) (by omega)
 exact⟨by omega,by omega,h3,h1⟩
theorem lX(h:c7 H B C w L rs tops)(hb:CM w L){x:Int}(hx:x≠ -1→0<aI w x):
  ai Tryz.prog yR [ptr B.n,i64 x] H fun v H'=>ay (∃L' UP,c7 H' B C w L' UP tops∧CM w L'∧bq L'=bq L∧ah (fun z=>z=B.tl∨z=B.rk) H H'):=by
 refine ba zw ⟨rfl,?_⟩
 refine v1 iV.eq_1 ?_
 refine bA.intro (fun m env H'=>∃ (x:Int) (L':List Lk) (UP:List Int),m=(if x= -1 then 0 else Nv (aU w) w.cs.length x+1)∧(x≠ -1→0<aI w x)∧c7 H' B C w L' UP tops∧CM w L'∧bq L'=bq L∧ah (fun z=>z=B.tl∨z=B.rk) H H'∧
  env=[(0,ptr B.n),(1,i64 x)]) _ ⟨x,L,rs,rfl,hx,h,hb,rfl,ah.refl _ _,rfl⟩ ?_
 rintro m env H1 ⟨y,L1,rs1,rfl,hy,m1,b1,u1,e1,rfl⟩
 refine vs ?_
 refine am.dec (fun g=>?_) (fun g=>?_)<;>refine vs ?_
 ·exact⟨L1,rs1,m1,b1,u1,e1⟩
 obtain⟨y0,y1,_⟩:=aH (hy g)
 obtain⟨tv,o1,_⟩:=m1.own
 have vF:=m1.len
 obtain⟨r,hr⟩:∃r,(rs1.map i64)[y.toNat]? =some (i64 r):=⟨rs1[y.toNat]'(by omega),by rw[anT,anx (by omega)];rfl⟩
 refine v1 (ae o1) ?_
 refine⟨⟨by omega,by omega⟩,?_⟩
 refine v4 (ae m1.Ef) anB anD hr ?_
 refine(jb m1 ⟨y0,y1⟩ (fun c hk=>b1.sM hk)).mono ?_
 rintro v2 H2 ⟨L2,Zg,m2,k2,u2,e2⟩
 have b2:CM w L2:=by
  rcases k2 with k2|k2
  ·show Bt _ _ _ _
   rw[k2,u2];exact b1
  ·show Bt _ _ _ _
   rw[k2,u2];exact Bt.yA b1 y
 obtain⟨Og,o2,_⟩:=m2.own
 have wC:=m2.len
 have re:=e1.trans e2
 obtain⟨r2,zP⟩:∃r,(Zg.map i64)[y.toNat]? =some (i64 r):=⟨Zg[y.toNat]'(by omega),by rw[anT,anx (by omega)];rfl⟩
 refine v1 (ae o2) ?_
 refine⟨⟨by omega,by omega⟩,?_⟩
 refine v4 (ae m2.Ef) anB anD zP ?_
 refine am.dec (fun g2=>?_) (fun g2=>?_)<;>refine vs ?_
 ·exact⟨L2,Zg,m2,b2,u2.trans u1,re⟩
 refine v1 (ae o2) ?_
 refine(sw m2.bY y).mono ?_
 rintro _ H' ⟨rfl,e⟩
 obtain rfl:=e.symm
 obtain⟨a1,c1,ea⟩:=cQ (bq L2 y)
 rw[ea]
 refine vs ?_
 refine(cC H2 _ a1 c1 ea).mono ?_
 rintro _ H' ⟨rfl,e⟩
 obtain rfl:=e.symm
 refine vs ?_
 refine⟨_,?_,bq L2 y,L2,Zg,rfl,fun hu=>?_,m2,b2,u2.trans u1,re,rfl⟩
 ·rw[if_neg g]
  split
  ·omega
  ·rename_i hu
   have:=b2.up hu
   have:=Gd (au w) (n:=w.cs.length) (p:=bq L2 y) (x:=y) (by omega) this.2.2.1
   omega
 ·have:=b2.up hu
  rw[this.2.2.2]
  exact hy g
end
end Go.Proofs.YtjlnnljohemifaaGreat

namespace Go.Proofs.YtjlnnljohemifaaGreat
open Go Go.Vc
theorem Sl.shape{H:Hp}{w:Value}{n:Nat}{xs:List Value}{fp:Option Nat}(h:Sl H 1 w n xs fp):∃a c,w= .slice a n c:=by
 obtain⟨h1,h2⟩:=h
 cases fp with
 |none=>obtain⟨rfl,rfl⟩:=h2;exact⟨none,0,rfl⟩
 |some b=>obtain⟨l,c,rfl,_⟩:=h2;exact⟨_,c,rfl⟩
theorem Sl.Bl{H:Hp}{a:Option Addr}{n c:Nat}{xs:List Int}{fp:Option Nat}(h:Sl H 1 (.slice a n c) n (xs.map i64) fp){i:Nat}{x:Int}(hx:xs[i]? =some x):
  i<n∧∃b lb,a=some ⟨b,0,none⟩∧H.own b=some lb∧lb[i]? =some (i64 x):=by
 cases fp with
 |none=>
  have h1:=h.1
  have h2:=h.2.1
  have:=(anA.1 hx).1
  rw[anW]at h1
  omega
 |some b=>
  obtain⟨h1,h2,lb,h3,h4⟩:=Sl.num h hx
  exact⟨h1,b,lb,h2,h3,h4⟩
section
variable {H : Hp} {B : LB} {C : Nat → Prop} {w : Nw} {L : List Lk} {rs tops : List Int}
set_option maxRecDepth 100000 in
set_option maxHeartbeats 4000000 in
theorem j9(h:c7 H B C w L rs tops){g a0 b0:Int}{R:Int→Prop}(m:Mg (aI w) (aU w) g R (bi L) (bq L) [] a0 b0):
  ai Tryz.prog wR [ptr B.n,i64 a0,i64 b0] H fun v H'=>ay (∃r L' UP,v=i64 r∧c7 H' B C w L' UP tops∧Mg (aI w) (aU w) g R (bi L') (bq L') [] r (-1)∧
   (∀x0,yB (aU w) (bi L) (bq L) x0 (bi L) (bq L) [] a0 b0→yB (aU w) (bi L) (bq L) x0 (bi L') (bq L') [] r (-1))∧ah (fun z=>C z∨z=B.tl∨z=B.rk) H H'):=by
 refine ba xm ⟨rfl,?_⟩
 refine v1 gP.eq_1 ?_
 have zD:=h.cells.FM
 refine bA.intro (fun mm env H'=>∃ (a b:Int) (dR:List Int) (wv:Value) (fp:Option Nat) (L':List Lk),mm=w.cs.length - dR.length∧c7 H' B C w L' rs tops∧Mg (aI w) (aU w) g R (bi L') (bq L') dR a b∧
  (∀x0,yB (aU w) (bi L) (bq L) x0 (bi L) (bq L) [] a0 b0→yB (aU w) (bi L) (bq L) x0 (bi L') (bq L') dR a b)∧
  (∀z,fp=some z→H.size≤z)∧Sl H' 1 wv dR.length (dR.map i64) fp∧ah (fun z=>C z∨z=B.tl∨z=B.rk∨H.size≤z) H H'∧
  env=[(0,ptr B.n),(1,i64 a),(2,i64 b),(7,wv)]) _ ⟨a0,b0,[],_,none,L,rfl,h,m,(fun _ h=>h),(fun z h=>by cases h),Sl.nil _ _,ah.refl _ _,rfl⟩ ?_
 rintro mm env H1 ⟨a,b,dR,wv,fp,L1,rfl,l1,m1,f1,jv,s1,e1,rfl⟩
 have z1:=e1.size
 clear m
 refine vs ?_
 refine am.dec (fun ga=>?A) (fun ga=>?_)<;>refine vs ?_
 rotate_left
 refine am.dec (fun gb=>?B) (fun gb=>?_)<;>refine vs ?_
 rotate_left
 ·obtain⟨Eg,o1,_⟩:=l1.own
  refine v1 (ae o1) ?_
  refine(cK l1.cells b a).mono ?_
  rintro _ H2 ⟨rfl,c2,e2⟩
  have l2:=l1.aN c2 e2 rfl
  have s2:=s1.ext e2 (fun z hz ez=>by have:=jv z hz;have:=h.slt z (.inl ez);omega)
  have z2:=e2.size
  have ha:=m1.wa.resolve_left ga
  have hb:=m1.wb.resolve_left gb
  have ye:=jp (w:=w) (a:=b) (b:=a) (by rw[hb.1];exact m1.pos) (by rw[ha.1];exact m1.pos)
  have aS:a≠b:=fun e=>ga (m1.ab e)
  rw[ye]
  cases aR:aU w b a
  ·refine vs ?_
   have hl:aU w a b=true:=((au w).Pj a b aS).resolve_right (by rw[aR];simp)
   have mm:Mg (aI w) (aU w) g R (bi L1) (bq L1) dR a b:=m1
   have Qa:0<aI w a:=by rw[(mm.wa.resolve_left ga).1];exact mm.pos
   obtain⟨p0,p1,_⟩:=aH Qa
   have m3:=mm.R5 (au w) ga gb hl
   have wl:(dR++[a]).length≤w.cs.length:=bV (m3.nodup (au w)) fun x hx=>by
    have G2:=(m3.wy x hx).2.1
    have wG:=m3.pos
    obtain⟨x0,x1,_⟩:=aH (w:=w) (x:=x) (by omega)
    exact⟨x0,x1⟩
   rw[anL,an6]at wl
   refine EZ (B:=H.size) jv (by omega) s2 a (by omega) fun w' H3 dv mr s3 e3=>?_
   refine vs ?_
   have l3:=l2.ext e3 (fun z hz ez=>by have:=h.slt z hz;omega)
   obtain⟨Zh,o3,_⟩:=l3.own
   refine v1 (ae o3) ?_
   refine(cB l3.bY a).mono ?_
   rintro _ H' ⟨rfl,e⟩
   obtain rfl:=e.symm
   obtain⟨k1,k2,ek⟩:=cQ (bi L1 a true)
   rw[ek]
   refine vs ?_
   refine(cC H3 _ k1 k2 ek).mono ?_
   rintro _ H' ⟨rfl,e⟩
   obtain rfl:=e.symm
   refine v1 (ae o3) ?_
   refine(cP l3.bY (x:=bi L1 a true) (fun hu=>by have:=CM.up mm.bt hu;rw[l3.len.1];omega)).mono ?_
   rintro _ H4 ⟨rfl,L4,t4,W6,V0,V5,e4⟩
   have l4:=l3.dN t4 e4 W6
   have s4:=s3.ext e4 (fun z hz ez=>by have:=mr z hz;have:=h.slt B.tl (.inr (.inr (.inr (.inl rfl))));omega)
   obtain⟨k3,k4,ek2⟩:=cQ (bq L1 (bi L1 a true))
   rw[ek2]
   refine vs ?_
   refine⟨w.cs.length - (dR.length+1),by omega,bi L1 a true,b,dR++[a],w',dv,L4,by simp,l4,?_,?_,mr,s4,((e1.trans (e2.mono fun z _ hz=>.inl hz)).trans (e3.mono fun z _ hz=>.inr (.inr (.inr hz)))).trans (e4.mono fun z _ hz=>.inr (.inl hz)),rfl⟩
   ·rw[V0,V5]
    exact m3
   ·rw[V0,V5]
    exact fun x0 h0=>(f1 x0 h0).down (au w) m1.bt ga
  ·refine vs ?_
   have hl:aU w b a=true:=aR
   have mm:Mg (aI w) (aU w) g R (bi L1) (bq L1) dR b a:=m1.swap
   have Qa:0<aI w b:=by rw[(mm.wa.resolve_left gb).1];exact mm.pos
   obtain⟨p0,p1,_⟩:=aH Qa
   have m3:=mm.R5 (au w) gb ga hl
   have wl:(dR++[b]).length≤w.cs.length:=bV (m3.nodup (au w)) fun x hx=>by
    have G2:=(m3.wy x hx).2.1
    have wG:=m3.pos
    obtain⟨x0,x1,_⟩:=aH (w:=w) (x:=x) (by omega)
    exact⟨x0,x1⟩
   rw[anL,an6]at wl
   refine EZ (B:=H.size) jv (by omega) s2 b (by omega) fun w' H3 dv mr s3 e3=>?_
   refine vs ?_
   have l3:=l2.ext e3 (fun z hz ez=>by have:=h.slt z hz;omega)
   obtain⟨Zh,o3,_⟩:=l3.own
   refine v1 (ae o3) ?_
   refine(cB l3.bY b).mono ?_
   rintro _ H' ⟨rfl,e⟩
   obtain rfl:=e.symm
   obtain⟨k1,k2,ek⟩:=cQ (bi L1 b true)
   rw[ek]
   refine vs ?_
   refine(cC H3 _ k1 k2 ek).mono ?_
   rintro _ H' ⟨rfl,e⟩
   obtain rfl:=e.symm
   refine v1 (ae o3) ?_
   refine(cP l3.bY (x:=bi L1 b true) (fun hu=>by have:=CM.up mm.bt hu;rw[l3.len.1];omega)).mono ?_
   rintro _ H4 ⟨rfl,L4,t4,W6,V0,V5,e4⟩
   have l4:=l3.dN t4 e4 W6
   have s4:=s3.ext e4 (fun z hz ez=>by have:=mr z hz;have:=h.slt B.tl (.inr (.inr (.inr (.inl rfl))));omega)
   obtain⟨k3,k4,ek2⟩:=cQ (bq L1 (bi L1 b true))
   rw[ek2]
   refine vs ?_
   refine⟨w.cs.length - (dR.length+1),by omega,bi L1 b true,a,dR++[b],w',dv,L4,by simp,l4,?_,?_,mr,s4,((e1.trans (e2.mono fun z _ hz=>.inl hz)).trans (e3.mono fun z _ hz=>.inr (.inr (.inr hz)))).trans (e4.mono fun z _ hz=>.inr (.inl hz)),rfl⟩
   ·rw[V0,V5]
    exact m3
   ·rw[V0,V5]
    exact fun x0 h0=>(f1 x0 h0).swap.down (au w) m1.bt gb
 case' A=>
  have m2:Mg (aI w) (aU w) g R (bi L1) (bq L1) dR b (-1):=ga▸m1.swap
  have f2:=fun x0 (h0:yB (aU w) (bi L) (bq L) x0 (bi L) (bq L) [] a0 b0)=>(f1 x0 h0).swap
  rw[ga]at f2
  generalize hr:b=r at m2 f2
  refine am.cF (by simpa using ga) ?_
 case' B=>
  have m2:Mg (aI w) (aU w) g R (bi L1) (bq L1) dR a (-1):=gb▸m1
  have f2:=f1
  rw[gb]at f2
  generalize hr:a=r at m2 f2
  refine am.dec (fun h=>absurd (hr.trans h) ga) (fun _=>?_)
 all_goals
  refine vs ?_
  obtain⟨wa,wc,rfl⟩:=Sl.shape s1
  refine vs ?_
  have wl:dR.length≤w.cs.length:=bV (m2.nodup (au w)) fun x hx=>by
   have G2:=(m2.wy x hx).2.1
   have wG:=m2.pos
   obtain⟨x0,x1,_⟩:=aH (w:=w) (x:=x) (by omega)
   exact⟨x0,x1⟩
  refine bA.intro (fun mm env H'=>∃ (i:Nat) (r:Int) (L':List Lk) (UP:List Int),mm=i∧i≤dR.length∧c7 H' B C w L' UP tops∧Mg (aI w) (aU w) g R (bi L') (bq L') (dR.take i) r (-1)∧
   (∀x0,yB (aU w) (bi L) (bq L) x0 (bi L) (bq L) [] a0 b0→yB (aU w) (bi L) (bq L) x0 (bi L') (bq L') (dR.take i) r (-1))∧
   Sl H' 1 (.slice wa dR.length wc) dR.length (dR.map i64) fp∧ah (fun z=>C z∨z=B.tl∨z=B.rk∨H.size≤z) H H'∧
   env=[(0,ptr B.n),(7,.slice wa dR.length wc),(9,i64 r),(10,i64 ((i:Int) - 1))]) _ ⟨dR.length,r,L1,rs,rfl,anO _,l1,by rw[aod];exact m2,by rw[aod];exact f2,s1,e1,?_⟩ ?_
  ·rw[wrap64 (by omega) (by omega)]
  rintro mm env H2 ⟨i,r2,L2,Zg,hmi,hi,l2,m3,f3,s2,e2,rfl⟩
  obtain rfl:=hmi.symm
  refine vs ?_
  refine am.dec (fun gi=>?_) (fun gi=>?_)<;>refine vs ?_
  rotate_left
  ·obtain rfl:i=0:=by omega
   exact⟨r2,L2,Zg,rfl,l2,by simpa using m3,by simpa using f3,e2.mono fun z hz h=>h.elim .inl fun h=>.inr (by omega)⟩
  obtain⟨j,rfl⟩:∃j,i=j+1:=⟨i - 1,by omega⟩
  obtain⟨v,hv⟩:∃v,dR[j]? =some v:=⟨_,anx (by omega)⟩
  have tk:dR.take (j+1)=dR.take j++[v]:=by rw[aoi,hv];rfl
  rw[tk]at m3 f3
  have m4:=m3.back (au w)
  have f4:=fun x0 h0=>(f3 x0 h0).back
  obtain⟨v1,v2,v3,v4,v5,v6⟩:=m3.wy v (by simp)
  obtain⟨q1,vb,lb,rfl,q2,q3⟩:=Sl.Bl s2 hv
  have hvb:∃b',fp=some b'∧b'=vb:=by
   cases fp with
   |none=>have:=s2.2.2;injection this with h1;cases h1
   |some b'=>obtain⟨_,_,h1,_⟩:=s2.2;injection h1 with h1;injection h1 with h1;injection h1 with h1;exact⟨b',rfl,h1.symm⟩
  obtain⟨b',rfl,rfl⟩:=hvb
  have hvb:=jv b' rfl
  have V6:0<aI w v:=by rw[v2];exact m3.pos
  obtain⟨W7,vv1,_⟩:=aH V6
  have ji:((((j+1:Nat):Int) - 1)).toNat=j:=by omega
  obtain⟨Og,o2,_⟩:=l2.own
  refine am.dec (fun gr=>?_) (fun gr=>?_)<;>refine vs ?_
  ·rw[if_pos gr,if_pos gr]at m4
   simp only[if_pos gr]at f4
   have f5:=f4
   have l3:=l2
   have m5:=m4
   have o3b:=q2
   have s3:=s2
   have e3:=e2
   refine⟨⟨by omega,by omega⟩,?_⟩
   simp(disch:=(first|omega| (simp only[Zs]<;>omega)|fail)) only[go_sem, ↓reduceIte,Zv,ae o3b,anB,anD,ji,q3]
   refine(jb l3 ⟨W7,vv1⟩ (fun c hk=>CM.sM m5.bt hk)).mono ?_
   rintro _ H4 ⟨L4,V7,l4,k4,u4,e4⟩
   refine vs ?_
   refine⟨j,by omega,j,v,L4,V7,rfl,by omega,l4,?_,?_,s3.ext e4 (fun z hz ez=>by injection hz with hz;have:=h.slt B.tl (.inr (.inr (.inr (.inl rfl))));have:=h.slt B.rk (.inr (.inr (.inr (.inr (.inl rfl)))));omega),e3.trans (e4.mono fun z _ hz=>.inr (hz.elim .inl fun h=>.inr (.inl h))),?_⟩
   ·rcases k4 with k4|k4
    ·rw[k4,u4];exact m5
    ·rw[k4,u4];exact m5.yA (au w)
   ·rcases k4 with k4|k4
    ·rw[k4,u4];exact f5
    ·rw[k4,u4];exact fun x0 h0=>(f5 x0 h0).yA v1
   ·rw[show((j+1:Nat):Int) - 1 - 1=(j:Int) - 1 by omega,wrap64 (by omega) (by omega)]
  ·rw[if_neg gr,if_neg gr]at m4
   simp only[if_neg gr]at f4
   have zP:=m3.wa.resolve_left gr
   obtain⟨r0,r1,_⟩:=aH (w:=w) (x:=r2) (by rw[zP.1];exact m3.pos)
   have bv:=l2.len
   have hvr:v≠r2:=fun e=>by have:=v5 gr;rw[e,(au w).yf]at this;cases this
   simp(disch:=(first|omega| (simp only[Zs]<;>omega)|fail)) only[go_sem, ↓reduceIte,Zv,ae o2]
   refine⟨⟨by omega,by omega⟩,?_⟩
   simp(disch:=(first|omega| (simp only[Zs]<;>omega)|fail)) only[go_sem, ↓reduceIte,Zv,ae q2,anB,anD,ji,q3]
   refine(fG l2.bY (p:=v) (x:=r2) (c:=true) ⟨W7,by omega⟩ ⟨r0,by omega⟩ hvr zP.2 v4).mono ?_
   rintro _ H3 ⟨rfl,L3,t3,ll3,kk3,uu3,Ip⟩
   have l3:=l2.dN t3 Ip ll3
   have m5:Mg (aI w) (aU w) g R (bi L3) (bq L3) (dR.take j) v (-1):=by rw[kk3,uu3];exact m4
   have f5:=f4
   rw[←kk3,←uu3]at f5
   have nb:b'≠B.tl:=fun e=>by have:=h.slt B.tl (.inr (.inr (.inr (.inl rfl))));omega
   have o3b:=Ip.own q2 nb
   have s3:=s2.ext Ip (fun z hz ez=>by injection hz with hz;exact nb (hz.trans ez))
   have e3:=e2.trans (Ip.mono fun z _ hz=>.inr (.inl hz))
   refine vs ?_
   refine⟨⟨by omega,by omega⟩,?_⟩
   simp(disch:=(first|omega| (simp only[Zs]<;>omega)|fail)) only[go_sem, ↓reduceIte,Zv,ae o3b,anB,anD,ji,q3]
   refine(jb l3 ⟨W7,vv1⟩ (fun c hk=>CM.sM m5.bt hk)).mono ?_
   rintro _ H4 ⟨L4,V7,l4,k4,u4,e4⟩
   refine vs ?_
   refine⟨j,by omega,j,v,L4,V7,rfl,by omega,l4,?_,?_,s3.ext e4 (fun z hz ez=>by injection hz with hz;have:=h.slt B.tl (.inr (.inr (.inr (.inl rfl))));have:=h.slt B.rk (.inr (.inr (.inr (.inr (.inl rfl)))));omega),e3.trans (e4.mono fun z _ hz=>.inr (hz.elim .inl fun h=>.inr (.inl h))),?_⟩
   ·rcases k4 with k4|k4
    ·rw[k4,u4];exact m5
    ·rw[k4,u4];exact m5.yA (au w)
   ·rcases k4 with k4|k4
    ·rw[k4,u4];exact f5
    ·rw[k4,u4];exact fun x0 h0=>(f5 x0 h0).yA v1
   ·rw[show((j+1:Nat):Int) - 1 - 1=(j:Int) - 1 by omega,wrap64 (by omega) (by omega)]
end
end Go.Proofs.YtjlnnljohemifaaGreat
