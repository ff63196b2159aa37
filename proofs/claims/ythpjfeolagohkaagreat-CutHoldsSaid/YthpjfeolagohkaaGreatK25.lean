/- Texts put behind each other. -/
import Derived.Test.YthpjfeolagohkaaGreatK98
import Derived.Test.YthpjfeolagohkaaGreatK19
import Derived.Test.YthpjfeolagohkaaGreatK20
import Derived.Test.YthpjfeolagohkaaGreatK22
import Derived.Test.YthpjfeolagohkaaGreatK23
import Derived.Test.YthpjfeolagohkaaGreatK24
set_option maxRecDepth 100000
set_option maxHeartbeats 8000000
set_option linter.unusedVariables false
set_option linter.unusedSimpArgs false
namespace Go.Proofs.YthpjfeolagohkaaGreat
open Go Go.Vc
theorem mF{H:Hp}{B t bu bd bp n:Nat}{N:Int}{a:Option Addr}{c:Nat}{es:List Ed}{up deep part:Nat→Int}(T:cI H B t bu bd bp n N (.slice a es.length c) up deep part)(h:db H 3 (.slice a es.length c) es.length (dk es))
  {v:Nat}(hv:v<n)(hn:n≤4096)(bH:Oo es (up v))(hb:∀e∈es,0≤e.f∧e.f<4096∧0≤e.t∧e.t<4096)(RG:Touch (fE es (up v)) v):
  af Tryz.prog C0 [ptr t,i64 v] H fun w H'=>ax (w=i64 ((other (fE es (up v)) v:Nat):Int)∧ah H H'):=by
 refine EL Dd ⟨rfl,?_⟩
 obtain⟨ik,e,CF,he,PE⟩:=bH.get
 obtain⟨Yb,Yc,Yd,Ye⟩:=hb e (aqg he)
 have Yf:=nT he
 have hwv:e.f+e.t - (v:Int)=((other (fE es (up v)) v:Nat):Int):=by
  rw[CF,Yf]at RG ⊢
  unfold other
  rcases RG with h1|h1
  ·have h1:e.f.toNat=v:=h1
   show e.f+e.t - (v:Int)=((e.f.toNat+e.t.toNat - v:Nat):Int)
   omega
  ·have h1:e.t.toNat=v:=h1
   show e.f+e.t - (v:Int)=((e.f.toNat+e.t.toNat - v:Nat):Int)
   omega
 refine v1 qF.eq_1 ?_
 refine gP.intro (fun H'=>cI H' B t bu bd bp n N (.slice a es.length c) up deep part∧db H' 3 (.slice a es.length c) es.length (dk es)) ⟨T,h⟩ ?_
 refine vs ?_
 refine dP.intro (.slice a es.length c) (fun H' hI=>by refine v1 (ae hI.1.box) ?_;trivial) ?_
 refine vs ?_
 refine dP.intro (.slice (some ⟨bu,0,none⟩) n n) (fun H' hI=>by refine v1 (ae hI.1.box) ?_;trivial) ?_
 refine vs ?_
 refine⟨⟨by omega,by omega⟩,?_⟩
 refine vs ?_
 refine dP.intro (i64 ik) (fun H' hI=>by refine v6 (ae hI.1.RD) Int.toNat_natCast aqd aqa (ln up hv) CF ?_;trivial) ?_
 obtain⟨_,be,oe,le,rfl,KA,oP,dA,jW,sI,ww⟩:=db.sK h he
 refine vs ?_
 refine⟨⟨by omega,by omega⟩,?_⟩
 refine vs ?_
 refine dP.intro (.agg #[i64 e.f,i64 e.t,i64 e.w]) (fun H' hI=>?_) ?_
 ·obtain⟨_,be',oe',le',Vm,acD,acE,Vn⟩:=db.wN hI.2 he
  injection Vm with Vm
  injection Vm with Vm hoe
  subst Vm;subst hoe
  refine v2 acD Int.toNat_natCast ?_
  refine⟨by omega,?_⟩
  simp(disch:=(first|omega| (simp only[Zs]<;>omega)|fail)) only[go_sem, ↓reduceIte,Zv,Vn,cV]
  trivial
 have fz:ah H (H.new 53 [i64 0,i64 0,i64 0]):=(ag.refl _ _).new _ _
 have q1:=az H 53 [i64 0,i64 0,i64 0]
 refine vs ?_
 refine And.intro ⟨T.fresh fz,h.fresh fz⟩ ?_
 have f1:ah H ((H.new 53 [i64 0,i64 0,i64 0]).wr H.size [i64 e.f,i64 e.t,i64 e.w]):=fz.then ((ag.refl (fun z=>z=H.size) _).wr (fun _=>rfl) _) (fun z hz=>by omega)
 have q2:=ai (l:=[i64 e.f,i64 e.t,i64 e.w]) q1
 refine vs ?_
 refine And.intro ⟨T.fresh f1,h.fresh f1⟩ ?_
 refine v1 (ae q2) ?_
 rw[wrap64 (n:=e.f+e.t) (by omega) (by omega),wrap64 (n:=e.f+e.t - v) (by omega) (by omega),hwv]
 exact⟨rfl,f1⟩
def DA(l:List Int)(j:Nat):List Int:=(l.drop (l.length - j)).reverse++(l.drop j).take (l.length - 2*j)++(l.take j).reverse
theorem BW{l:List Int}{j:Nat}(hj:2*j≤l.length)(k:Nat)(hk:k<l.length):(DA l j)[k]? =if k<j∨l.length - j≤k then l[l.length - 1 - k]? else l[k]? :=by
 unfold DA
 rw[arz,List.getElem?_append,arO,arD]
 by_cases h1:k<j
 ·rw[if_pos (by omega),if_pos (.inl h1),List.getElem?_reverse (by rw[arD];omega),arD,aqJ]
  congr 1
  omega
 ·rw[if_neg (by omega),List.getElem?_append,aqO,arD]
  by_cases h2:l.length - j≤k
  ·rw[if_neg (by omega),if_pos (.inr h2),List.getElem?_reverse (by rw[aqO];omega),aqO,aqG,if_pos (by omega)]
   congr 1
   omega
  ·rw[if_pos (by omega),if_neg (by omega),aqG,if_pos (by omega),aqJ]
   congr 1
   omega
theorem GN{l:List Int}{j:Nat}(hj:2*j≤l.length):(DA l j).length=l.length:=by
 unfold DA
 simp only[aqj,arO,arD,aqO]
 omega
theorem QS{l:List Int}{j:Nat}(hj:j<l.length - 1 - j):((DA l j).set j (l.getD (l.length - 1 - j) 0)).set (l.length - 1 - j) (l.getD j 0)=DA l (j+1):=by
 apply aqX
 intro k
 have e1:=GN (l:=l) (j:=j) (by omega)
 by_cases hk:k<l.length
 ·rw[BW (by omega) k hk]
  have ej:l[l.length - 1 - j]? =some (l.getD (l.length - 1 - j) 0):=by rw[aqf,aqb (by omega)];rfl
  have ek:l[j]? =some (l.getD j 0):=by rw[aqf,aqb (by omega)];rfl
  by_cases h1:k=l.length - 1 - j
  ·subst h1
   rw[aqi (by rw[aqe,e1];omega),if_pos (.inr (by omega)),show l.length - 1 - (l.length - 1 - j)=j by omega,ek]
  ·rw[aqh (Ne.symm h1)]
   by_cases h2:k=j
   ·subst h2
    rw[aqi (by rw[e1];omega),if_pos (.inl (by omega)),ej]
   ·rw[aqh (Ne.symm h2),BW (by omega) k hk]
    by_cases h3:k<j∨l.length - j≤k
    ·rw[if_pos h3,if_pos (by omega)]
    ·rw[if_neg h3,if_neg (by omega)]
 ·rw[aqo (by simp only[aqe];omega),aqo (by rw[GN (by omega)];omega)]
theorem QT(l:List Int):DA l 0=l:=by unfold DA;simp
theorem SK{l:List Int}{j:Nat}(h1:l.length - 1 - j≤j)(h2:2*j≤l.length):DA l j=l.reverse:=by
 apply aqX
 intro k
 by_cases hk:k<l.length
 ·rw[BW h2 k hk,List.getElem?_reverse hk]
  by_cases h3:k<j∨l.length - j≤k
  ·rw[if_pos h3]
  ·rw[if_neg h3]
   congr 1
   omega
 ·rw[aqo (by rw[GN h2];omega),aqo (by rw[arO];omega)]
theorem vE{H:Hp}{a:Option Addr}{c:Nat}{xs:List Int}{fp:Option Nat}(h:Sl H 1 (.slice a xs.length c) xs.length (xs.map i64) fp)(hl:xs.length≤1000000000):
  af Tryz.prog pC [.slice a xs.length c] H fun v H'=>ax (v= .tuple [].toArray∧Sl H' 1 (.slice a xs.length c) xs.reverse.length (xs.reverse.map i64) fp∧ag (fun z=>fp=some z) H H'):=by
 refine bm pG ?_
 refine vs ?_
 rw[wrap64 (n:=((xs.length:Nat):Int) - 1) (by omega) (by omega)]
 refine aY.intro (fun m env H'=>∃j:Nat,m=xs.length - j∧2*j≤xs.length∧Sl H' 1 (.slice a xs.length c) xs.length ((DA xs j).map i64) fp∧ag (fun z=>fp=some z) H H'∧
  env=[(0,.slice a xs.length c),(2,i64 j),(3,i64 ((xs.length:Int) - 1 - j))]) xs.length ⟨0,by omega,by omega,by rw[QT];exact h,ag.refl _ _,by simp⟩ ?_
 rintro m env H1 ⟨j,hm,hj,s1,e1,rfl⟩
 refine vs ?_
 refine ar.dec (fun aN=>?_) (fun aN=>?_)<;>refine vs ?_
 ·cases fp with
  |none=>obtain⟨_,h0,_⟩:=h;omega
  |some b=>
   have ie:j<xs.length - 1 - j:=by omega
   have ej:(DA xs j)[j]? =some (xs.getD j 0):=by rw[BW hj j (by omega),if_neg (by omega),aqf,aqb (by omega)];rfl
   have ek:(DA xs j)[xs.length - 1 - j]? =some (xs.getD (xs.length - 1 - j) 0):=by rw[BW hj _ (by omega),if_neg (by omega),aqf,aqb (by omega)];rfl
   obtain⟨_,rfl,lb,ho,sI⟩:=Sl.num s1 ej
   obtain⟨_,_,Ys,ho',ww⟩:=Sl.num s1 ek
   rw[ho]at ho'
   injection ho' with ho'
   subst ho'
   have o8:xs.length≤lb.length:=by
    obtain⟨_,l,c2,_,h2,h3,h4,_⟩:=s1
    rw[ho]at h2;injection h2 with h2;subst h2;omega
   rw[show(xs.length:Int) - 1 - j=((xs.length - 1 - j:Nat):Int) by omega]
   refine⟨⟨by omega,by omega⟩,?_⟩
   refine v5 (ae ho) Int.toNat_natCast aqd aqa ww ?_
   refine⟨⟨by omega,by omega⟩,?_⟩
   refine v5 (ae ho) Int.toNat_natCast aqd aqa sI ?_
   refine⟨⟨by omega,by omega⟩,?_⟩
   refine v4 ho Int.toNat_natCast aqd aqa ?_
   refine⟨by omega,?_⟩
   have s2:=s1.qn ho j (i64 (xs.getD (xs.length - 1 - j) 0))
   have o2:=ai (l:=lb.set j (i64 (xs.getD (xs.length - 1 - j) 0))) ho
   have e2:ag (fun z=>some b=some z) H (H1.wr b (lb.set j (i64 (xs.getD (xs.length - 1 - j) 0)))):=e1.trans ((ag.refl (fun z=>some b=some z) _).wr (fun _=>rfl) _)
   refine vs ?_
   generalize H1.wr b (lb.set j (i64 (xs.getD (xs.length - 1 - j) 0)))=H2 at*
   refine⟨⟨by omega,by omega⟩,?_⟩
   refine v4 o2 Int.toNat_natCast aqd aqa ?_
   refine⟨by rw[aqe];omega,?_⟩
   have s3:=s2.qn o2 (xs.length - 1 - j) (i64 (xs.getD j 0))
   have e3:=e2.trans ((ag.refl (fun z=>some b=some z) H2).wr (fun _=>rfl) ((lb.set j (i64 (xs.getD (xs.length - 1 - j) 0))).set (xs.length - 1 - j) (i64 (xs.getD j 0))))
   rw[←aqP,←aqP,QS ie]at s3
   refine vs ?_
   rw[wrap64 (n:=(j:Int)+1) (by omega) (by omega),wrap64 (n:=((xs.length - 1 - j:Nat):Int) - 1) (by omega) (by omega)]
   refine⟨xs.length - (j+1),by omega,j+1,rfl,by omega,s3,e3,?_⟩
   rw[show(xs.length:Int) - 1 - ((j+1:Nat):Int)=((xs.length - 1 - j:Nat):Int) - 1 by omega]
   rfl
 ·have hr:DA xs j=xs.reverse:=SK (by omega) hj
  rw[hr]at s1
  refine⟨rfl,?_,e1⟩
  rw[arO]
  exact s1
theorem WE{H:Hp}{T:Nat}{w:Value}{xs:List Int}{fp:Option Nat}{K:Value→Hp→Prop}(s:Sl H 1 w xs.length (xs.map i64) fp)(x:Int)(hl:xs.length≤1000000000000)
  (hk:∀w' H' bI,(bI=fp∨∃b',bI=some b'∧H.size≤b')→Sl H' 1 w' (xs++[x]).length ((xs++[x]).map i64) bI→ag (fun z=>fp=some z) H H'→K w' H'):
  fA T 1 8 [i64 0] w (.slice (some ⟨H.size,0,none⟩) 1 1) (H.new T [i64 x]) K:=by
 have fl:ah H (H.new T [i64 x]):=(ag.refl _ _).new _ _
 refine Sl.append (s.ext fl (fun _ _ h=>h)) (Sl.bU (size:=1) (n:=1) (xs:=[i64 x]) rfl rfl).rd rfl (mS [x]) (by omega) ?_
 intro v' H' bI s' e' Lm
 refine hk v' H' bI ?_ (by rw[aqj,aqy];exact s') ⟨aqW fl.size e'.size,fun z hz hn=>by rw[e'.aM z (aqw hz fl.size) hn,fl.aM z hz (fun h=>h)]⟩
 rcases Lm with h| ⟨b',h,h1,_⟩
 ·exact .inl h
 ·rw[am]at h1
  exact .inr ⟨b',h,by omega⟩
theorem BX{H:Hp}{B t bu bd bp n:Nat}{N:Int}{a:Option Addr}{c:Nat}{es:List Ed}{ks:List Int}{up:Nat→Int}{deep part:Nat→Nat}(T:cI H B t bu bd bp n N (.slice a es.length c) up (fun v=>((deep v:Nat):Int)) (fun v=>((part v:Nat):Int)))(h:db H 3 (.slice a es.length c) es.length (dk es))
  (R:ir n (fE es) ks up deep part)(bH:∀i∈ks,Oo es i)(hd:∀v,v<n→deep v≤n)(hn:n≤4096)(hb:∀e∈es,0≤e.f∧e.f<4096∧0≤e.t∧e.t<4096){x y:Nat}(hx:x<n)(hy:y<n)(hp:part x=part y):
  af Tryz.prog Gq [ptr t,i64 x,i64 y] H fun v H'=>ax (ah H H'∧∃l fp,Vl es ks x y l∧Sl H' 1 v l.length (l.map i64) fp∧∀b,fp=some b→H.size≤b):=by
 refine bm Gw ?_
 refine vs ?_
 refine aY.intro (fun m env H'=>ah H H'∧∃ (u v:Nat) (fv bv:List Nat) (sa sb:Option Addr) (ca cb:Nat) (fa fb:Option Nat),m=deep u+deep v∧tf n (fE es) ks up deep part x y u v fv bv∧
  Sl H' 1 (.slice sa (fv.map up).length ca) (fv.map up).length ((fv.map up).map i64) fa∧Sl H' 1 (.slice sb (bv.map up).length cb) (bv.map up).length ((bv.map up).map i64) fb∧(∀z,fa=some z→H.size≤z)∧(∀z,fb=some z→H.size≤z)∧(∀z,fa=some z→fb≠some z)∧
  fv.length+deep u≤n∧bv.length+deep v≤n∧
  env=[(0,ptr t),(1,i64 u),(2,i64 v),(7,.slice sa (fv.map up).length ca),(8,.slice sb (bv.map up).length cb)]) _ ⟨ag.refl _ _,x,y,[],[],none,none,0,0,none,none,rfl,tf.start hx hy hp,Sl.nil _ _,Sl.nil _ _,(by intro z h;cases h),(by intro z h;cases h),(by intro z h;cases h),by have:=hd x hx;simpa using this,by have:=hd y hy;simpa using this,rfl⟩ ?_
 rintro m env H1 ⟨f1,u,v,fv,bv,sa,sb,ca,cb,fa,fb,hm,cl,s1,s2,la,lb,aR,Wx,Vo,rfl⟩
 have T1:=T.fresh f1
 have h1:=h.fresh f1
 have hu:=cl.an
 have hv:=cl.bn
 have hdu:=hd u hu
 have hdv:=hd v hv
 refine vs ?_
 refine ar.dec (fun huv=>?_) (fun huv=>?_)<;>refine v1 (ae T1.box) ?_
 ·have Yt:u=v:=by omega
  subst Yt
  refine(vE s2 (by rw[aqr];omega)).mono ?_
  rintro _ H2 ⟨rfl,s3,e3⟩
  have s1':=s1.ext e3 (fun z hz h=>aR z hz h)
  obtain⟨r1,r2,r3⟩:=cl.agn R
  have f2:ah H H2:=f1.then e3 (fun z hz=>lb z hz)
  refine vs ?_
  refine SF (B:=H.size) la f2.size s1' (ys:=(bv.map up).reverse) ?_ (by rw[arO,aqr,aqr];omega) fun w' H3 bI eB s4 e4=>?_
  ·have:=s3.rd
   rwa[arO]at this ⊢
  ·refine vs ?_
   exact⟨f2.then e4 (fun z hz=>hz),_,bI,⟨r1,r2,r3⟩,s4,eB⟩
 ·have Yt:u≠v:=by omega
  refine⟨⟨by omega,by omega⟩,?_⟩
  refine v6 (ae T1.vC) (ae T1.box) Int.toNat_natCast aqd aqa (ln (fun v=>((deep v:Nat):Int)) hu) ?_
  refine⟨⟨by omega,by omega⟩,?_⟩
  refine v5 (ae T1.vC) Int.toNat_natCast aqd aqa (ln (fun v=>((deep v:Nat):Int)) hv) ?_
  refine ar.dec (fun Nv=>?_) (fun Nv=>?_)<;>refine v1 (ae T1.box) ?_
  ·have Yu:deep v≤deep u:=by omega
   obtain⟨hk,RG,ahc,cl2⟩:=cl.left R Yt Yu
   obtain⟨iv,e,CF,he,PE⟩:=(bH _ hk).get
   refine⟨⟨by omega,by omega⟩,?_⟩
   refine v5 (ae T1.RD) Int.toNat_natCast aqd aqa (ln up hu) ?_
   refine WE s1 (up u) (by rw[aqr];omega) fun w' H2 bI eB s3 e3=>?_
   obtain⟨wa,wc,rfl,_⟩:=cH s3
   have s2':=s2.ext e3 (fun z hz h=>aR z h hz)
   have f2:ah H H2:=f1.then e3 (fun z hz=>la z hz)
   refine vs ?_
   refine(mF (T.fresh f2) (h.fresh f2) hu hn (bH _ hk) hb RG).mono ?_
   rintro _ H3 ⟨rfl,f23⟩
   have f3:=f2.trans f23
   refine vs ?_
   have s2':=s2'.ext f23 (fun _ _ h=>h)
   have Ui:=s3.ext f23 (fun _ _ h=>h)
   rw[show((fv.map up)++[up u])=(fv++[u]).map up by rw[aqy];rfl]at Ui
   have ahf:∀z,fb=some z→z<H1.size:=fun z hz=>by rw[hz]at s2;exact Sl.lt s2
   have SL:∀z,bI=some z→H.size≤z∧fb≠some z:=fun z hz=>by
    rcases eB with hh| ⟨b',hh,lI⟩
    ·rw[hh]at hz;exact⟨la z hz,fun h=>aR z hz h⟩
    ·rw[hh]at hz;injection hz with hz;subst hz;have:=f1.size;exact⟨by omega,fun h=>by have:=ahf _ h;omega⟩
   refine⟨deep (other (fE es (up u)) u)+deep v,by omega,f3,_,v,fv++[u],bv,wa,sb,wc,cb,bI,fb,rfl,cl2,Ui,s2',fun z hz=>(SL z hz).1,lb,fun z hz h=>(SL z hz).2 h,by rw[aqj,aqn];omega,Vo,?_⟩
   simp only[aqy,aqY,ase]
  ·have Yu:deep u<deep v:=by omega
   obtain⟨hk,RG,ahc,cl2⟩:=cl.right R Yu
   obtain⟨iv,e,CF,he,PE⟩:=(bH _ hk).get
   refine⟨⟨by omega,by omega⟩,?_⟩
   refine v5 (ae T1.RD) Int.toNat_natCast aqd aqa (ln up hv) ?_
   refine WE s2 (up v) (by rw[aqr];omega) fun w' H2 bI eB s3 e3=>?_
   obtain⟨wa,wc,rfl,_⟩:=cH s3
   have s1':=s1.ext e3 (fun z hz h=>aR z hz h)
   have f2:ah H H2:=f1.then e3 (fun z hz=>lb z hz)
   refine vs ?_
   refine(mF (T.fresh f2) (h.fresh f2) hv hn (bH _ hk) hb RG).mono ?_
   rintro _ H3 ⟨rfl,f23⟩
   have f3:=f2.trans f23
   refine vs ?_
   have s1':=s1'.ext f23 (fun _ _ h=>h)
   have Ui:=s3.ext f23 (fun _ _ h=>h)
   rw[show((bv.map up)++[up v])=(bv++[v]).map up by rw[aqy];rfl]at Ui
   have ahg:∀z,fa=some z→z<H1.size:=fun z hz=>by rw[hz]at s1;exact Sl.lt s1
   have SL:∀z,bI=some z→H.size≤z∧fa≠some z:=fun z hz=>by
    rcases eB with hh| ⟨b',hh,lI⟩
    ·rw[hh]at hz;exact⟨lb z hz,fun h=>aR z h hz⟩
    ·rw[hh]at hz;injection hz with hz;subst hz;have:=f1.size;exact⟨by omega,fun h=>by have:=ahg _ h;omega⟩
   refine⟨deep u+deep (other (fE es (up v)) v),by omega,f3,u,_,fv,bv++[v],sa,wa,ca,wc,fa,bI,rfl,cl2,s1',Ui,la,fun z hz=>(SL z hz).1,fun z hz h=>(SL z h).2 hz,Wx,by rw[aqj,aqn];omega,?_⟩
   simp only[aqy,aqY,ase]
theorem Al{H:Hp}{n:Int}{a:Option Addr}{c:Nat}{es:List Ed}{p q:Nat}{e:Ed}(h:db H 3 (.slice a es.length c) es.length (dk es))(hp:H.own p=some [i64 n,.slice a es.length c])(hq:H.own q=some (cV e)){i:Int}(hi:Oo es i):
  af Tryz.prog tg [i64 i,ptr p,ptr q] H fun v H'=>ax (v= .bool (decide (wE es i>e.w))∧H'=H):=by
 refine j6 mixed (an:=EQ) (by conv=>lhs;cbv) (nt:=14) (by kernel_rfl) (by simp) ?_
 obtain⟨ik,e',rfl,he,PE⟩:=hi.get
 obtain⟨_,be,oe,le,rfl,KA,oP,dA,jW,sI,ww⟩:=db.sK h he
 refine v1 (ae hp) ?_
 refine⟨⟨by omega,by omega⟩,?_⟩
 simp(disch:=(first|omega| (simp only[Zs]<;>omega)|fail)) only[go_sem, ↓reduceIte,Zv,KA,Int.toNat_natCast,ww,ae hq,cV]
 rw[MF he]
 exact⟨rfl,rfl⟩
def DB(es:List Ed)(ks:List Int)(e:Ed):Bool:=decide (bR ((Lg (wE es) ks e.w).map (fE es)) e.f.toNat e.t.toNat)
theorem DC{H:Hp}{B t bu bd bp p r:Nat}{n:Int}{a:Option Addr}{c:Nat}{es:List Ed}{ks:List Int}{up:Nat→Int}{deep part:Nat→Nat}(T:cI H B t bu bd bp n.toNat n (.slice a es.length c) up (fun v=>((deep v:Nat):Int)) (fun v=>((part v:Nat):Int)))(h:db H 3 (.slice a es.length c) es.length (dk es))
  (R:ir n.toNat (fE es) ks up deep part)(hs:SpR n es ks)(hl:ks.length≤1000000)(hd:∀v,v<n.toNat→deep v≤n.toNat)(hp:H.own p=some [ptr t])(hg:H.own r=some [i64 n,.slice a es.length c])(e:Ed)(he:e∈es):
  af Tryz.prog yq [.agg (cV e).toArray,ptr p,ptr r] H fun v H'=>ax (v= .bool (!DB es ks e)∧ah H H'):=by
 refine j6 mixed (an:=Iw) (by conv=>lhs;cbv) (nt:=13) (by kernel_rfl) (by simp) ?_
 have hr:=(eQ n es).1 hs.1
 have yL:=hr.n1
 obtain⟨e0,e1,e2,e3⟩:=hr.ends e he
 have f0:ah H (H.new 53 [i64 e.f,i64 e.t,i64 e.w]):=(ag.refl _ _).new _ _
 have b0:=az H 53 [i64 e.f,i64 e.t,i64 e.w]
 have p0:=f0.own hp (fun h=>h)
 have g0:=f0.own hg (fun h=>h)
 simp(disch:=(first|omega| (simp only[Zs]<;>omega)|fail)) only[go_sem, ↓reduceIte,Zv,cV,ae b0,ae p0]
 generalize H.new 53 [i64 e.f,i64 e.t,i64 e.w]=H0 at*
 obtain⟨u,hu⟩:∃u:Nat,e.f=u:=⟨e.f.toNat,by omega⟩
 obtain⟨w,hw⟩:∃u:Nat,e.t=u:=⟨e.t.toNat,by omega⟩
 have hh:bR (ks.map (fE es)) u w:=by
  obtain⟨k,hk⟩:=aqB he
  have:=hs.2.all _ _ (kG (aqK.2 ⟨(k:Int),j7.2 ⟨by omega,by have:=(aqc.1 hk).1;omega⟩,rfl⟩))
  rw[nT hk]at this
  have h2:bR (ks.map (fE es)) e.f.toNat e.t.toNat:=this
  rwa[hu,hw,Int.toNat_natCast,Int.toNat_natCast]at h2
 have Oy:=(R.RX (u:=u) (v:=w) (by omega) (by omega)).2 hh
 rw[hu,hw]
 refine(BX (T.fresh f0) (h.fresh f0) R hs.2.ins hd (by omega) (fun e he=>by have:=hr.ends e he;omega) (by omega) (by omega) Oy).mono ?_
 rintro v H1 ⟨f1,l,fp,xU,s1,nY⟩
 obtain⟨ra,rc,rfl,_⟩:=cH s1
 have b1:H1.own H.size=some (cV e):=f1.own b0 (fun h=>h)
 have g1:=f1.own g0 (fun h=>h)
 have h1:=h.fresh (f0.trans f1)
 have amd:l.length≤1000000:=by
  have h1:l.length≤ks.length:=(List.Nodup.length_le_of_subset xU.nd xU.sub)
  omega
 refine vs ?_
 refine(nV (H:=H1) tg [ptr r,ptr H.size] (fun i=>decide (wE es i>e.w)) (fun H'=>H'=H1) rfl (fun H' hI=>by rw[hI];exact s1.rd) (by kernel_rfl) (fun H' i hi hI=>?_) (by omega)).mono ?_
 ·subst hI
  exact Al h1 g1 b1 (hs.2.ins i (xU.sub i hi))
 ·rintro _ H2 ⟨rfl,rfl⟩
  refine vs ?_
  refine⟨aqv Value.bool ?_,f0.trans f1⟩
  have key:=UB (w:=wE es) hs.2.AP (hs.2.Wz hr) xU.ec xU.sub xU.nd e.w
  unfold DB
  rw[hu,hw,Int.toNat_natCast,Int.toNat_natCast]
  by_cases hk:bR ((Lg (wE es) ks e.w).map (fE es)) u w
  ·rw[aqp hk]
   have:=key.2 hk
   rw[ark,arY]
   intro i hi
   have:=this i hi
   simp;omega
  ·rw[aqA hk,ars,List.any_eq_true]
   apply aqt
   intro bO
   refine hk (key.1 fun i hi=>?_)
   apply aqt
   intro SM
   exact bO ⟨i,hi,aqp (by omega)⟩
theorem QU{es:List Ed}{ks:List Int}:es.any (fun e=> !DB es ks e)=false↔MH es ks:=by
 rw[arY]
 constructor
 ·intro h i hi
  obtain⟨k,e,rfl,he,_⟩:=(j7.1 hi).get
  have:=h e (aqg he)
  unfold DB at this
  rw[nT he,MF he]
  simpa using this
 ·intro h e he
  obtain⟨k,hk⟩:=aqB he
  have:=h (k:Int) (j7.2 ⟨by omega,by have:=(aqc.1 hk).1;omega⟩)
  rw[nT hk,MF hk]at this
  unfold DB
  simpa using this
theorem jn{H:Hp}{n:Int}{a a':Option Addr}{c c':Nat}{es:List Ed}{ks:List Int}(h:db H 3 (.slice a es.length c) es.length (dk es))(h':db H 1 (.slice a' ks.length c') ks.length (ks.map i64))
  (hm:es.length≤1000000000)(hl:ks.length≤1000000):
  af Tryz.prog Mh [Dt n (.slice a es.length c),.slice a' ks.length c'] H fun v H'=>ax (ah H H'∧∃b,v= .bool b∧(b=true↔SpR n es ks∧MH es ks)):=by
 refine bm Mq ?_
 have f0:ah H (H.new 26 [i64 n,.slice a es.length c]):=(ag.refl _ _).new _ _
 have b0:=az H 26 [i64 n,.slice a es.length c]
 simp(disch:=(first|omega| (simp only[Zs]<;>omega)|fail)) only[go_sem, ↓reduceIte,Zv,Dt]
 generalize H.new 26 [i64 n,.slice a es.length c]=H0 at*
 refine(eX (h.fresh f0) (h'.fresh f0) hm hl).mono ?_
 rintro _ H1 ⟨f1,b,rfl,hb⟩
 have b1:=f1.own b0 (fun h=>h)
 have SG:=f0.trans f1
 refine vs ?_
 cases b
 ·refine v1 ars ?_
  exact⟨SG,false,rfl,iff_of_false (by simp) fun hs=>absurd (hb.2 hs.1) (by simp)⟩
 have AK:=hb.1 rfl
 have hr:=(eQ n es).1 AK.1
 refine v2 ark (ae b1) ?_
 refine(Fa (h.fresh SG) (h'.fresh SG) hr AK.2.ins hl).mono ?_
 rintro _ H2 ⟨f2,t,bu,bd,bp,up,deep,part,rfl,T,R,hd⟩
 have Vf:=SG.trans f2
 have b2:=f2.own b1 (fun h=>h)
 have q2:=az H2 81 [.pointer none]
 have q3:=ai (l:=[ptr t]) q2
 have fw:ah H2 ((H2.new 81 [.pointer none]).wr H2.size [ptr t]):=((ag.refl _ _).new _ _:ah H2 _).then ((ag.refl (fun z=>z=H2.size) _).wr (fun _=>rfl) _) (fun z hz=>by omega)
 have b3:=fw.own b2 (fun h=>h)
 refine v2 q2 (ae b3) ?_
 have T3:=T.fresh fw
 have h3:=h.fresh (Vf.trans fw)
 generalize (H2.new 81 [.pointer none]).wr H2.size [ptr t]=H3 at*
 refine(nX (H:=H3) yq [ptr H2.size,ptr H.size] (fun e=> !DB es ks e) (fun H'=>ah H3 H') (ag.refl _ _)
  (fun H' hI=>h3.fresh hI) (by kernel_rfl) (fun H' e he hI=>?_) hm).mono ?_
 ·refine(DC (T3.fresh hI) (h3.fresh hI) R AK hl hd (hI.own q3 (fun h=>h)) (hI.own b3 (fun h=>h)) e he).mono ?_
  rintro _ zh ⟨rfl,hx⟩
  exact⟨rfl,hI.trans hx⟩
 ·rintro _ H4 ⟨rfl,f4⟩
  refine vs ?_
  refine⟨Vf.trans (fw.trans f4),_,rfl,?_⟩
  rw[Bool.not_eq_true',QU]
  exact⟨fun hh=>⟨AK,hh⟩,fun hh=>hh.2⟩
theorem wf_i64{x:Int}(h:(Lit.int .i64 x).wf=true): -9223372036854775808≤x∧x≤9223372036854775807:=by
 have e1:IntKind.i64.min= -9223372036854775808:=rfl
 have e2:IntKind.i64.max=9223372036854775807:=rfl
 simp only[Lit.wf,e1,e2,aq0,aqI]at h
 omega
def acH(e:Ed):Prop:=(-9223372036854775808≤e.f∧e.f≤9223372036854775807)∧(-9223372036854775808≤e.t∧e.t≤9223372036854775807)∧(-9223372036854775808≤e.w∧e.w≤9223372036854775807)
theorem SN:∀ {rows:List (List Value)},(∀r∈rows,nk Om [.i .i64,.i .i64,.i .i64] r)→∃es:List Ed,rows.flatten=dk es∧es.length=rows.length∧∀e∈es,acH e:=by
 intro rows
 induction rows with
 |nil=>intro _;exact⟨[],rfl,rfl,fun x hx=>by cases hx⟩
 |cons r rows ih=>
  intro h
  obtain⟨es,e1,e2,e3⟩:=ih fun q hq=>h q (aq1 _ hq)
  obtain⟨_,_,rfl,⟨a,rfl,ha⟩,_,_,rfl,⟨b,rfl,hb⟩,_,_,rfl,⟨c,rfl,hc⟩,rfl⟩:=h r aq9
  refine⟨⟨a,b,c⟩::es,?_,by simp[e2],fun x hx=>?_⟩
  ·rw[aq4,e1,sJ];rfl
  ·rcases aqC.1 hx with rfl|hx
   ·exact⟨wf_i64 ha,wf_i64 hb,wf_i64 hc⟩
   ·exact e3 x hx
theorem Oz{H:Hp}{v:Value}(h:EG H (true,[.k (.i .i64),.sl [.i .i64,.i .i64,.i .i64]]) v):∃ (n:Int) (es:List Ed) (a:Option Addr) (c:Nat),v=Dt n (.slice a es.length c)∧
  db H 3 (.slice a es.length c) es.length (dk es)∧es.length≤c∧es.length≤maxLen∧(-9223372036854775808≤n∧n≤9223372036854775807)∧∀e∈es,acH e:=by
 obtain⟨cs,rfl,_,_,rfl,⟨n,rfl,hn⟩,_,_,rfl,⟨rows,hr,Ex,Yv,a,c,rfl,Ry⟩,rfl⟩:=h
 obtain⟨es,e1,e2,e3⟩:=SN Ex
 rw[e1,←e2]at hr
 rw[←e2]at Ry Yv ⊢
 exact⟨n,es,a,c,rfl,hr,Ry,Yv,wf_i64 hn,e3⟩
theorem DD(H:Hp)(n:Int)(a:Option Addr)(k c:Nat):af Tryz.prog Ic [Dt n (.slice a k c)] H fun v H'=>ax (v= .bool (decide (30<k∨(20<n∧n≤4096)))∧ah H H'):=by
 refine bm Iq ?_
 have f0:ah H (H.new 26 [i64 n,.slice a k c]):=(ag.refl _ _).new _ _
 have b0:=az H 26 [i64 n,.slice a k c]
 simp(disch:=(first|omega| (simp only[Zs]<;>omega)|fail)) only[go_sem, ↓reduceIte,Zv,Dt]
 generalize H.new 26 [i64 n,.slice a k c]=H0 at*
 refine ar.dec (fun h1=>?_) (fun h1=>?_)<;>refine v1 (ae b0) ?_
 ·exact⟨aqv Value.bool (by symm;simp;omega),f0⟩
 ·refine ar.dec (fun h3=>?_) (fun h3=>?_)<;>refine v1 (ae b0) ?_
  ·exact⟨aqv Value.bool (by rw[decide_eq_decide];omega),f0⟩
  ·exact⟨aqv Value.bool (by symm;simp;omega),f0⟩
def KJ:List Ed:=[⟨0,1,1⟩,⟨1,2,2⟩,⟨2,0,3⟩]
theorem SO:dG 3 KJ=true:=by decide
theorem PJ(x y:Int)(h1:(x=0∧y=2)∨(x=0∧y=1)):SpR 3 KJ [x,y]:=by
 refine⟨SO,?_⟩
 rcases h1 with ⟨rfl,rfl⟩| ⟨rfl,rfl⟩
 ·refine⟨fun i hi=>?_,?_,fun u v=>jZ fun e he=>?_⟩
  ·simp only[aqC,arR,or_false]at hi
   rcases hi with rfl|rfl<;>exact⟨by decide,by decide⟩
  ·exact .snoc [fE KJ 0] (fE KJ 2) (.snoc [] (fE KJ 0) .nil (by decide)) (by decide)
  ·have he:e∈[(0,1),(1,2),(2,0)]:=he
   simp only[aqC,arR,or_false]at he
   rcases he with rfl|rfl|rfl<;>decide
 ·refine⟨fun i hi=>?_,?_,fun u v=>jZ fun e he=>?_⟩
  ·simp only[aqC,arR,or_false]at hi
   rcases hi with rfl|rfl<;>exact⟨by decide,by decide⟩
  ·exact .snoc [fE KJ 0] (fE KJ 1) (.snoc [] (fE KJ 0) .nil (by decide)) (by decide)
  ·have he:e∈[(0,1),(1,2),(2,0)]:=he
   simp only[aqC,arR,or_false]at he
   rcases he with rfl|rfl|rfl<;>decide
theorem Vp:¬MH KJ [0,2]:=fun h=>by
 have:=h 1 (by decide)
 revert this
 decide
theorem Vq:MH KJ [0,1]:=by
 intro i hi
 have hi:i∈[(0:Int),1,2]:=hi
 simp only[aqC,arR,or_false]at hi
 rcases hi with rfl|rfl|rfl<;>decide
theorem xV(H:Hp):af Tryz.prog CY [] H fun v H'=>ax (v= .bool true∧ah H H'):=by
 refine bm Db ?_
 refine vs ?_
 have fe:ah H (H.new 53 (dk KJ)):=(ag.refl _ _).new _ _
 have re:db (H.new 53 (dk KJ)) 3 (.slice (some ⟨H.size,0,none⟩) KJ.length 3) KJ.length (dk KJ):=(Sl.lit H 53 3 3 (dk KJ) rfl).rd
 have hze:(H.new 53 (dk KJ)).size=H.size+1:=by rw[am]
 have hE:H.new 53 [Value.int .i64 0,Value.int .i64 1,Value.int .i64 1,Value.int .i64 1,Value.int .i64 2,Value.int .i64 2,Value.int .i64 2,Value.int .i64 0,Value.int .i64 3]=H.new 53 (dk KJ):=rfl
 rw[hE]
 generalize H.new 53 (dk KJ)=H0 at*
 have q1:=az H0 26 [Value.int .i64 0,Value.slice none 0 0]
 have q2:=ai (l:=[Value.int .i64 3,Value.slice (some ⟨H.size,0,none⟩) 3 3]) q1
 have fw:ah H0 ((H0.new 26 [Value.int .i64 0,Value.slice none 0 0]).wr H0.size [Value.int .i64 3,Value.slice (some ⟨H.size,0,none⟩) 3 3]):=((ag.refl _ _).new _ _:ah H0 _).then ((ag.refl (fun z=>z=H0.size) _).wr (fun _=>rfl) _) (fun z hz=>by omega)
 rw[hze]at q2 fw
 generalize (H0.new 26 [Value.int .i64 0,Value.slice none 0 0]).wr (H.size+1) [Value.int .i64 3,Value.slice (some ⟨H.size,0,none⟩) 3 3]=H1 at*
 have r1:=re.fresh fw
 have f1:=fe.trans fw
 have lit:∀ (A:Hp) (x y:Int),ah H1 A→db (A.new 3 [Value.int .i64 x,Value.int .i64 y]) 1 (.slice (some ⟨A.size,0,none⟩) [x,y].length 2) [x,y].length ([x,y].map i64)∧ah A (A.new 3 [Value.int .i64 x,Value.int .i64 y]):=
  fun A x y hA=>⟨(Sl.lit A 3 1 2 [Value.int .i64 x,Value.int .i64 y] rfl).rd,(ag.refl _ _).new _ _⟩
 obtain⟨l1,g1⟩:=lit H1 0 2 (ag.refl _ _)
 refine v1 (ae q2) ?_
 refine(eX (r1.fresh g1) l1 (by decide) (by decide)).mono ?_
 rintro _ H2 ⟨f2,b,rfl,hb⟩
 rw[hb.2 (PJ 0 2 (.inl ⟨rfl,rfl⟩))]
 have q3:=(g1.trans f2).own q2 (fun h=>h)
 obtain⟨l2,g2⟩:=lit H2 0 2 (g1.trans f2)
 have k2:=(g1.trans f2).trans g2
 refine v1 (ae q3) ?_
 refine(jn (r1.fresh k2) l2 (by decide) (by decide)).mono ?_
 rintro _ H3 ⟨f3,b3,rfl,SP⟩
 have hf3:b3=false:=by
  cases b3
  ·rfl
  ·exact absurd (SP.1 rfl).2 Vp
 subst hf3
 have k3:=k2.trans f3
 have q4:=k3.own q2 (fun h=>h)
 obtain⟨l3,g3⟩:=lit H3 0 1 k3
 have k4:=k3.trans g3
 refine v2 (ae q4) ars ?_
 refine(jn (r1.fresh k4) l3 (by decide) (by decide)).mono ?_
 rintro _ H4 ⟨f4,b4,rfl,hb4⟩
 rw[hb4.2 ⟨PJ 0 1 (.inr ⟨rfl,rfl⟩),Vq⟩]
 refine vs ?_
 exact⟨rfl,f1.trans (k4.trans f4)⟩
def BY(a b:Int):Int:=if a<b then -1 else if b<a then 1 else 0
theorem lq(a:Int)(H:Hp):af Tryz.prog Bg [i64 a] H fun v H'=>ax (v= .bool false∧H=H'):=by
 refine bm BD ?_
 refine v1 aqZ ?_
 exact⟨rfl,rfl⟩
theorem jX(a:Int)(H:Hp):af Tryz.prog zw [u64 a] H fun v H'=>ax (v= .bool false∧H=H'):=by
 refine bm zV ?_
 refine v1 aqZ ?_
 exact⟨rfl,rfl⟩
theorem sL(a b:Int)(H:Hp):af Tryz.prog wX [i64 a,i64 b] H fun v H'=>ax (v=i64 (BY a b)∧H=H'):=by
 refine bm xx ?_
 refine vs ?_
 refine(lq a H).mono ?_
 rintro _ _ ⟨rfl,rfl⟩
 refine vs ?_
 refine(lq b H).mono ?_
 rintro _ _ ⟨rfl,rfl⟩
 refine vs ?_
 refine ar.dec (fun h=>?_) (fun h=>?_)<;>refine vs ?_
 ·exact⟨aqv i64 (by simp[BY,h]),rfl⟩
 ·refine ar.dec (fun h2=>?_) (fun h2=>?_)<;>refine vs ?_
  ·exact⟨aqv i64 (by simp[BY,h,show b<a from h2]),rfl⟩
  ·exact⟨aqv i64 (by simp[BY,h,show¬b<a from h2]),rfl⟩
theorem qW(a b:Int)(H:Hp):af Tryz.prog uX [u64 a,u64 b] H fun v H'=>ax (v=i64 (BY a b)∧H=H'):=by
 refine bm vj ?_
 refine vs ?_
 refine(jX a H).mono ?_
 rintro _ _ ⟨rfl,rfl⟩
 refine vs ?_
 refine(jX b H).mono ?_
 rintro _ _ ⟨rfl,rfl⟩
 refine vs ?_
 refine ar.dec (fun h=>?_) (fun h=>?_)<;>refine vs ?_
 ·exact⟨aqv i64 (by simp[BY,h]),rfl⟩
 ·refine ar.dec (fun h2=>?_) (fun h2=>?_)<;>refine vs ?_
  ·exact⟨aqv i64 (by simp[BY,h,show b<a from h2]),rfl⟩
  ·exact⟨aqv i64 (by simp[BY,h,show¬b<a from h2]),rfl⟩
def orI(xs:List Int):Int:=(xs.find? fun x=>x≠0).getD 0
theorem Fb{H:Hp}{v:Value}{n:Nat}{xs:List Int}(h:db H 1 v n (xs.map i64))(hn:n≤1000000)(hs:∃a c,v= .slice a n c):
  af Tryz.prog Kk [v] H fun r H'=>ax (r=i64 (orI xs)∧H=H'):=by
 obtain⟨a,c,rfl⟩:=hs
 have bf:xs.length=n:=by have:=h.1;simpa using this
 refine bm Ks ?_
 refine vs ?_
 refine aY.intro (fun m env H1=>∃k:Nat,env=[(3,i64 0),(6,.slice a n c),(7,i64 n),(8,i64 k)]∧H1=H∧k≤n∧m=n - k∧∀j,j<k→xs[j]? =some 0) n ⟨0,rfl,rfl,by omega,by omega,fun j hj=>by omega⟩ ?_
 rintro m env H1 ⟨k,rfl,rfl,hk,rfl,hz⟩
 refine vs ?_
 refine ar.dec (fun aN=>?_) (fun aN=>?_)<;>refine vs ?_
 ·have Oq:k<xs.length:=by omega
  obtain⟨b,o,c',l,hv,hr,_,hg⟩:=db.get h (i:=k) (j:=0) (x:=i64 xs[k]) (by omega) (by simp[Oq])
  injection hv with e1 e2 e3
  subst e1
  refine⟨by omega,?_⟩
  simp only[aqd,Nat.add_zero]at hg
  refine v4 hr Int.toNat_natCast aqd hg ?_
  refine ar.dec (fun h0=>?_) (fun h0=>?_)<;>refine vs ?_
  ·rw[wrap64 (by omega) (by omega)]
   refine⟨n - (k+1),by omega,k+1,rfl,trivial,by omega,rfl,fun j hj=>?_⟩
   by_cases e:j=k
   ·subst e;rw[aqb Oq,h0]
   ·exact hz j (by omega)
  ·refine⟨aqv i64 ?_,rfl⟩
   unfold orI
   have:xs.find? (fun x=>x≠0)=some xs[k]:=by
    rw[List.find?_eq_some_iff_getElem]
    refine⟨by simpa using h0,k,Oq,rfl,fun j hj=>?_⟩
    have:=hz j hj
    rw[aqb (by omega)]at this
    injection this with this
    simp[this]
   rw[this];rfl
 ·refine⟨aqv i64 ?_,rfl⟩
  unfold orI
  have:xs.find? (fun x=>x≠0)=none:=by
   rw[List.find?_eq_none]
   intro x hx
   obtain⟨j,hj,rfl⟩:=ar2.1 hx
   have:=hz j (by omega)
   rw[aqb hj]at this
   injection this with this
   simp[this]
  rw[this];rfl
def MJ(k s k' s':Int):Int:=orI [BY k k',BY s s']
def fQ(k s k' s':Int):Prop:=k<k'∨k=k'∧s<s'
instance(k s k' s':Int):Decidable (fQ k s k' s'):=by unfold fQ;infer_instance
theorem MK(k s k' s':Int):MJ k s k' s'<0↔fQ k s k' s':=by
 unfold MJ fQ orI BY
 by_cases h1:k<k'
 ·simp[h1]
 ·by_cases h2:k'<k
  ·simp[h1,h2];omega
  ·by_cases h3:s<s'
   ·simp[h1,h2,h3];omega
   ·by_cases h4:s'<s
    ·simp[h1,h2,h3,h4]
    ·simp[h1,h2,h3,h4]
theorem n7(k s k' s':Int)(H:Hp):af Tryz.prog EP [uw k s,uw k' s'] H fun v H'=>ax (v=i64 (MJ k s k' s')∧ah H H'):=by
 refine bm EW ?_
 refine vs ?_
 refine⟨_,(sL k k' _).mono fun _ _ h=>⟨h.out.1,h.out.2.symm⟩,?_⟩
 refine(qW s s' _).mono ?_
 rintro _ _ ⟨rfl,rfl⟩
 refine vs ?_
 refine(Fb (n:=2) (xs:=[BY k k',BY s s']) (Sl.bU (size:=1) rfl (by simp only[am])).rd (by omega) ⟨_,_,rfl⟩).mono ?_
 rintro _ _ ⟨rfl,rfl⟩
 exact⟨rfl,(((ag.refl _ _).new _ _).new _ _).new _ _⟩
theorem Fc(k s k' s':Int)(H:Hp):af Tryz.prog Kl [uw k s,uw k' s'] H fun v H'=>ax (v= .bool (decide (fQ k s k' s'))∧ah H H'):=by
 refine bm Kt ?_
 refine vs ?_
 refine(n7 k s k' s' _).mono ?_
 rintro _ _ ⟨rfl,hf⟩
 refine vs ?_
 refine⟨aqv Value.bool (by rw[decide_eq_decide];exact MK _ _ _ _),?_⟩
 exact(((ag.refl _ _).new _ _).new _ _).trans hf
def gf(m n:Int):Int:=if n≤0 then m else if n>4611686018427387904 - m then 4611686018427387904 else m+n
theorem DE{H:Hp}{b:Nat}{m:Int}{r:List Value}(h:H.own b=some (i64 m::r))(hm:0≤m∧m≤4611686018427387904)(n:Int)(hn:n≤4611686018427387904):
  af Tryz.prog wY [ptr b,i64 n] H fun v H'=>ax (v= .tuple [].toArray∧H'=H.wr b (i64 (gf m n)::r)∨v= .tuple [].toArray∧H'=H∧gf m n=m):=by
 refine bm xA ?_
 refine vs ?_
 refine ar.dec (fun h0=>?_) (fun h0=>?_)<;>refine v1 (ae h) ?_
 ·exact .inr ⟨rfl,rfl,by simp[gf,h0]⟩
 ·rw[wrap64 (by omega) (by omega)]
  refine ar.dec (fun h1=>?_) (fun h1=>?_)<;>refine v2 (ae h) h ?_
  ·exact .inl ⟨rfl,by rw[gf,if_neg h0,if_pos h1]⟩
  ·exact .inl ⟨rfl,by rw[gf,if_neg h0,if_neg h1,wrap64 (by omega) (by omega)]⟩
end Go.Proofs.YthpjfeolagohkaaGreat
