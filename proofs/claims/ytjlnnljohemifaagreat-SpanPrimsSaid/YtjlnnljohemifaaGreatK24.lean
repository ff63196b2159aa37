/- Texts put behind each other. -/
import Derived.Test.YtjlnnljohemifaaGreatK98
import Derived.Test.YtjlnnljohemifaaGreatK1
import Derived.Test.YtjlnnljohemifaaGreatK9
import Derived.Test.YtjlnnljohemifaaGreatK13
import Derived.Test.YtjlnnljohemifaaGreatK17
import Derived.Test.YtjlnnljohemifaaGreatK19
import Derived.Test.YtjlnnljohemifaaGreatK20
import Derived.Test.YtjlnnljohemifaaGreatK21
import Derived.Test.YtjlnnljohemifaaGreatK22
import Derived.Test.YtjlnnljohemifaaGreatK23
set_option maxRecDepth 100000
set_option maxHeartbeats 8000000
set_option linter.unusedVariables false
set_option linter.unusedSimpArgs false
namespace Go.Proofs.YtjlnnljohemifaaGreat
open Go Go.Vc
theorem zP{H:Hp}{bx:Nat}{a:Option Addr}{c:Nat}{xs:List Int}(hb:H.own bx=some [.slice a xs.length c])(h:cO H 1 (.slice a xs.length c) xs.length (xs.map i64))(hm:xs.length≤1000000)(x:Int):
  af Tryz.prog ja [i64 x,ptr bx] H fun v H'=>aw (v= .bool (decide (x∈xs))∧H'=H):=by
 refine vB mixed (an:=rG) (by conv=>lhs;cbv) (nt:=7) (by kernel_rfl) (by simp) ?_
 refine v1 (ae hb) ?_
 refine(uO h x (by omega)).mono ?_
 rintro _ H' ⟨rfl,e⟩
 obtain rfl:=e.symm
 refine vs ?_
 exact⟨rfl,rfl⟩
section
variable {H H' : Hp} {ro ro' : Nat → Rl} {nn fb tb c : Nat} {C : Nat → Prop} {w : Nw} {l : List Value} {V : Int → Value} {ch : Int → List Int} {par : Int → Int} {kb : Int → Option Nat} {va vb : Value} {a b W0 : List Int} {lt : Int → Int → Bool} {rows : Int → List Int} {g : Int}
def Xy(e:Env)(fb nn bx:Nat)(va vo vn:Value)(k:Nat):Prop:=
 e.find 0=some (ptr fb)∧e.find 1=some (.iface 198 (ptr nn))∧e.find 2=some va∧e.find 7=some (ptr bx)∧e.find 10=some vo∧e.find 11=some vn∧e.find 12=some (i64 k)
theorem JV{P:Program}{A B:S}{env:Env}{H:Hp}{Kn:Env→Hp→Prop}{Kx:Nat→Env→Hp→Prop}{Kr:Env→Hp→Prop}(I:Env→Hp→Prop)(h:vc P A env H I Kx Kr)(k:∀e h,I e h→vc P B e h Kn Kx Kr):vc P (.seq A B) env H Kn Kx Kr:=
 DI A env H _ _ _ _ _ _ k (fun _ _ _ h=>h) (fun _ _ h=>h) h
theorem pe.agu(h:pe H ro nn fb tb c C w H' ro' l V ch par kb va vb a b):pe H ro nn fb tb c C w H' ro' l V ch par kb (.slice none 0 0) (.slice none 0 0) [] []:=
 ⟨h.m,h.cq,h.hC,h.own,h.hn,h.hz,h.rk,⟨none,0,rfl,aov _,.inl rfl⟩,⟨none,0,rfl,aov _,.inl rfl⟩,h.e⟩
theorem pe.agv{va':Value}{a':List Int}(h:pe H ro nn fb tb c C w H' ro' l V ch par kb va vb a b)(r:Gi H' ro' H.size va' a'):pe H ro nn fb tb c C w H' ro' l V ch par kb va' vb a' b:=
 ⟨h.m,h.cq,h.hC,h.own,h.hn,h.hz,h.rk,r,h.rb,h.e⟩
theorem pe.Sq{vb':Value}{b':List Int}(h:pe H ro nn fb tb c C w H' ro' l V ch par kb va vb a b)(r:Gi H' ro' H.size vb' b'):pe H ro nn fb tb c C w H' ro' l V ch par kb va vb' a b':=
 ⟨h.m,h.cq,h.hC,h.own,h.hn,h.hz,h.rk,h.ra,r,h.e⟩
theorem pe.Dc{H3:Hp}{vo:Value}{out:List Int}{nb IS fo:Option Nat}(h:pe H ro nn fb tb c C w H' ro' l V ch par kb va vb a b)(bx:H'.own H.size=some [vb])(so:Sl H' 1 vo out.length (out.map i64) fo)
  (hd:∀z,nb=some z∨fo=some z→H.size<z∧z<H'.size∧ro' z= .no)(T3:∀z,nb=some z→fo=some z→False)(e3:ag (fun z=>nb=some z) H' H3)(DR:IS=nb∨∃z,IS=some z∧H'.size≤z∧z<H3.size):
  pe H ro nn fb tb c C w H3 ro' l V ch par kb va vb a b∧H3.own H.size=some [vb]∧Sl H3 1 vo out.length (out.map i64) fo∧(∀z,IS=some z∨fo=some z→H.size<z∧z<H3.size∧ro' z= .no)∧(∀z,IS=some z→fo=some z→False):=by
 have mq:=aB bx
 have hs:=e3.size
 refine⟨h.Ut e3 (fun z hz=>by have:=hd z (.inl hz);exact⟨by omega,this.2.2⟩),e3.own bx (fun hz=>by have:=hd _ (.inl hz);omega),so.ext e3 (fun z h1 h2=>T3 z h2 h1),fun z hz=>?_,fun z h1 h2=>?_⟩
 ·rcases hz with hz|hz
  ·rcases DR with h1| ⟨y,h1,h2,h3⟩
   ·rw[h1]at hz
    have:=hd z (.inl hz)
    exact⟨this.1,by omega,this.2.2⟩
   ·rw[h1]at hz
    injection hz with hz
    subst hz
    exact⟨by omega,h3,h.hz _ h2⟩
  ·have:=hd z (.inr hz)
   exact⟨this.1,by omega,this.2.2⟩
 ·rcases DR with h3| ⟨y,h3,h4,h5⟩
  ·exact T3 z (by rw[←h3];exact h1) h2
  ·rw[h3]at h1
   injection h1 with h1
   have:=hd z (.inr h2)
   omega
def Ss(H0:Hp)(Xx:Nat→Rl)(nn fb tb c:Nat)(C:Nat→Prop)(w:Nw)(lt:Int→Int→Bool)(rows:Int→List Int)(W0:List Int)(g:Int)(GY:Int→List Int)(k ia ib io:Nat)(pn:Nat→Prop)(H:Hp)(va vb vn vo:Value):Prop:=
 ∃ (a b now out:List Int) (nb fo:Option Nat) (ro:Nat→Rl) (l:List Value) (V:Int→Value) (ch:Int→List Int) (par:Int→Int) (kb:Int→Option Nat),
  pe H0 Xx nn fb tb c C w H ro l V ch par kb va vb a b∧jz (aG w) lt ch par rows (now++(a++(b++(out++W0))))∧mU (aG w) ch g k ia ib io a b now out∧pn now.length∧
  H.own H0.size=some [vb]∧ro H0.size= .no∧Ig H vn now nb∧Sl H 1 vo out.length (out.map i64) fo∧(∀z,nb=some z∨fo=some z→H0.size<z∧z<H.size∧ro z= .no)∧(∀z,nb=some z→fo=some z→False)∧(∀z∈W0,ch z=GY z)
theorem Dd(h0:pe H ro nn fb tb c C w H ro l V ch par kb va vb a b)(aO:∀a b,aQ w a b=true→lt a b=true)(f0:jz (aG w) lt ch par rows (a++(b++W0)))(hra:E7 ch a)(Xz:E7 ch b)(hg:∀c,c∈a∨c∈b→aG w c=g):
  af Tryz.prog kK [ptr fb,.iface 198 (ptr nn),va,vb] H fun v H'=>aw (∃out ro' l' V' dO bG tN vo fo,v= .tuple [vo,.bool true].toArray∧pe H ro nn fb tb c C w H' ro' l' V' dO bG tN (.slice none 0 0) (.slice none 0 0) [] []∧
   Sl H' 1 vo out.length (out.map i64) fo∧(∀z,fo=some z→H.size≤z∧ro' z= .no)∧jz (aG w) lt dO bG rows (out++W0)∧E7 dO out∧(∀c∈out,aG w c=g)∧∀z∈W0,dO z=ch z):=by
 have xt:=h0.cq.Ef
 obtain⟨aa,ca,rfl,Zy⟩:=h0.ra.cap
 obtain⟨ab,cb,rfl,GO⟩:=h0.rb.cap
 obtain⟨n1,n2,n3⟩:=ao2.1 f0.wn
 have bJ:∀x∈a++(b++W0),(0≤x∧x<w.cs.length)∧par x= -1:=fun x hx=>⟨f0.R5 (hm:=aG w) hx,(f0.wm x hx).1⟩
 have hla:=bZ n1 fun c hc=>(bJ c (aoy _ hc)).1
 have DB:=bZ (ao2.1 n2).1 fun c hc=>(bJ c (ape _ (aoy _ hc))).1
 refine Fa uo ⟨rfl,?_⟩
 refine v1 kS.eq_1 ?_
 have e1:ag (fun z=>H.size≤z) H (H.new 24 [.slice ab b.length cb]):=((ag.refl _ _).new _ _:ah H _).mono fun _ _ h=>h.elim
 have bx1:(H.new 24 [.slice ab b.length cb]).own H.size=some [.slice ab b.length cb]:=az _ _ _
 have z1:(H.new 24 [.slice ab b.length cb]).size=H.size+1:=ap _ _ _
 have h1:=h0.Ut e1 (fun z hz=>⟨hz,h0.hz z hz⟩)
 generalize H.new 24 [.slice ab b.length cb]=H1 at*
 refine(uY h1.m h1.ra.rd (fun x hx=>bJ x (aoy _ hx)) hra (by omega)).mono ?_
 rintro _ H' ⟨rfl,e⟩
 obtain rfl:=e.symm
 refine v1 (ae bx1) ?_
 refine(uY h1.m h1.rb.rd (fun x hx=>bJ x (ape _ (aoy _ hx))) Xz (by omega)).mono ?_
 rintro _ H' ⟨rfl,e⟩
 obtain rfl:=e.symm
 refine vs ?_
 refine(zO (H:=H1) ja [ptr H.size] (fun x=>decide (x∈b)) (fun H'=>H'=H1) rfl (fun H' hI=>by rw[hI];exact h1.ra.rd) (by kernel_rfl) (fun H' x hx hI=>?_) (by omega)).mono ?_
 ·rw[hI]
  exact zP bx1 h1.rb.rd (by omega) x
 rintro _ H' ⟨rfl,e⟩
 obtain rfl:=e.symm
 have abC:(a.any fun x=>decide (x∈b))=false:=List.any_eq_false.2 fun x hx=>by
  simp only[aoL]
  exact fun hb=>n3 x hx x (aoy _ hb) rfl
 rw[abC]
 refine vs ?_
 have i0:mU (aG w) ch g 0 0 0 0 a b [] []:=⟨hra,Xz,List.Pairwise.nil,fun _ _=>ap2 _,fun _ _=>ap2 _,by simp,by simp,fun c hc=>hg c (by simpa using hc)⟩
 have d0:∀z,((none:Option Nat)=some z∨(none:Option Nat)=some z)→H.size<z∧z<H1.size∧ro z= .no:=fun z hz=>by rcases hz with h|h<;>cases h
 have d00:∀z,(none:Option Nat)=some z→(none:Option Nat)=some z→False:=fun z h=>by cases h
 have cz0:Ss H ro nn fb tb c C w lt rows W0 g ch 0 0 0 0 (fun n=>n≤1) H1 (.slice aa a.length ca) (.slice ab b.length cb) (.slice none 0 0) (.slice none 0 0):=
  ⟨a,b,[],[],none,none,ro,l,V,ch,par,kb,h1,f0,i0,ap2 _,bx1,h0.hz _ (aov _),Ig.nil _ _,Sl.nil _ _,d0,d00,fun _ _=>rfl⟩
 refine aX.intro (fun mm env H'=>∃ (k:Nat) (va vb vn vo:Value),mm=w.cs.length+1 - k∧Ss H ro nn fb tb c C w lt rows W0 g ch k k k k (fun n=>n≤1) H' va vb vn vo∧
  env=[(0,ptr fb),(1,.iface 198 (ptr nn)),(2,va),(7,ptr H.size),(10,vo),(11,vn),(12,i64 k)]) _ ⟨0,_,_,_,_,rfl,cz0,rfl⟩ ?_
 clear h1 i0 bx1 f0 hra Xz hg bJ n1 n2 n3 hla DB abC h0 e1 d0 d00 cz0 Zy GO
 rintro mm env H2 ⟨k,va,vb,vn,vo,rfl,Tv,rfl⟩
 obtain⟨a,b,now,out,nb,fo,n9,l2,V2,lF,jr,DG,h2,f2,i2,Ql,pG,DJ,ED,DK,iP,qG,EE⟩:=id Tv
 obtain⟨aa,ca,rfl,Zy⟩:=h2.ra.cap
 obtain⟨ab,cb,rfl,GO⟩:=h2.rb.cap
 obtain⟨an,cn,rfl,P0⟩:=ED.cap
 obtain⟨ao,co,rfl⟩:=Sl.shape DK
 have NM:=aB pG
 have gA:=f2.wn
 have cX:=bZ gA fun c hc=>f2.R5 (hm:=aG w) hc
 simp only[aor]at cX
 refine v1 (ae pG) ?_
 rw[wrap64 (n:=(a.length:Int)+b.length) (by omega) (by omega),wrap64 (n:=(a.length:Int)+b.length+now.length) (by omega) (by omega)]
 refine am.dec (fun Wq=>?_) (fun Wq=>?_)
 rotate_left
 ·refine vs ?_
  have TZ:a=[]:=aoR.1 (by omega)
  have Rx:b=[]:=aoR.1 (by omega)
  have Ln:now=[]:=aoR.1 (by omega)
  subst TZ Rx Ln
  refine⟨out,n9,l2,V2,lF,jr,DG,_,fo,rfl,h2.agu,DK,fun z hz=>⟨by have:=iP z (.inr hz);omega,(iP z (.inr hz)).2.2⟩,f2,i2.ro,fun c hc=>i2.hg c (.inr (.inr (.inr hc))),EE⟩
 have aZ:∀z,(lF z).length≤w.cs.length:=fun z=>bZ (f2.pr.nd z) fun c hc=>h2.m.GV z c hc
 have hk:k≤w.cs.length:=by
  by_cases TZ:a=[]
  ·by_cases Rx:b=[]
   ·obtain⟨x,hx⟩:∃x,x∈now:=by
     cases now with
     |nil=>subst TZ Rx;simp at Wq
     |cons x r=>exact⟨x,by simp⟩
    have:=i2.kn x hx
    have:=aZ x
    omega
   ·obtain⟨x,r,rfl⟩:=apD Rx
    have:=i2.kb x (by simp)
    have:=aZ x
    omega
  ·obtain⟨x,r,rfl⟩:=apD TZ
   have:=i2.ka x (by simp)
   have:=aZ x
   omega
 clear Wq aZ cX gA
 rw[St,Uu,XA,XB]
 refine JV (fun e h=>∃va vb vn vo,Ss H ro nn fb tb c C w lt rows W0 g ch k (k+1) k k (fun n=>n≤2) h va vb vn vo∧Xy e fb nn H.size va vo vn k) ?_ ?_
 ·refine vs ?_
  refine am.dec (fun ga=>?_) (fun ga=>?_)
  ·obtain⟨x,r,rfl⟩:∃x r,a=x::r:=apD (fun h=>by rw[h]at ga;simp at ga)
   obtain⟨pb,po,pl,pc,hv,eW,PQ,bX,hpc⟩:=h2.ra.head
   injection hv with DL B3 hv3
   subst DL hv3
   refine vs ?_
   refine⟨⟨by omega,by omega⟩,?_⟩
   refine v5 eW bX Int.toNat_zero ao0 Nat.add_zero ?_
   refine(dc h2.m x).mono ?_
   rintro _ H' ⟨rfl,e⟩
   obtain rfl:=e.symm
   refine vs ?_
   refine am.dec (fun gd=>?_) (fun gd=>?_)
   ·refine vs ?_
    refine⟨⟨by omega,by omega⟩,?_⟩
    refine v5 eW bX Int.toNat_zero ao0 Nat.add_zero ?_
    refine ED.push x (by omega) fun w' H3 IS DR Qm e3=>?_
    obtain⟨h3,De,NN,Gj,Df⟩:=h2.Dc pG DK iP qG e3 DR
    refine vs ?_
    have uN:(x::r).length=r.length+1:=aoD
    refine⟨⟨by omega,by omega,by omega,by omega⟩,?_⟩
    refine vs ?_
    have fp:now++(x::r++(b++(out++W0)))=now++[x]++(r++(b++(out++W0))):=by simp
    rw[fp]at f2
    exact⟨_,_,_,_,⟨r,b,now++[x],out,IS,fo,n9,l2,V2,lF,jr,DG,h3.agv (h3.ra.tail _),f2,i2.aaq (by omega),by rw[aor,aoA];omega,De,DJ,Qm,NN,Gj,Df,EE⟩,rfl,rfl,rfl,rfl,rfl,rfl,rfl⟩
   ·refine vs ?_
    exact⟨_,_,_,_,⟨x::r,b,now,out,nb,fo,n9,l2,V2,lF,jr,DG,h2,f2,i2.Vk (fun c hc=>by injection hc with hc;rw[←hc];omega),by omega,pG,DJ,ED,DK,iP,qG,EE⟩,rfl,rfl,rfl,rfl,rfl,rfl,rfl⟩
  ·refine vs ?_
   have TZ:a=[]:=aoR.1 (by omega)
   exact⟨_,_,_,_,⟨a,b,now,out,nb,fo,n9,l2,V2,lF,jr,DG,h2,f2,i2.Vk (fun c hc=>by rw[TZ]at hc;cases hc),by omega,pG,DJ,ED,DK,iP,qG,EE⟩,rfl,rfl,rfl,rfl,rfl,rfl,rfl⟩
 clear Tv h2 f2 i2 Ql pG DJ ED DK iP qG EE NM Zy GO P0
 rintro e2 H2 ⟨va,vb,vn,vo,Tv,hv⟩
 obtain⟨a,b,now,out,nb,fo,n9,l2,V2,lF,jr,DG,h2,f2,i2,Ql,pG,DJ,ED,DK,iP,qG,EE⟩:=id Tv
 obtain⟨ab,cb,rfl,GO⟩:=h2.rb.cap
 obtain⟨an,cn,rfl,P0⟩:=ED.cap
 have NM:=aB pG
 obtain⟨Ih,DL,B3,Ii,pg,ph,pj⟩:=hv
 refine JV (fun e h=>∃va vb vn vo,Ss H ro nn fb tb c C w lt rows W0 g ch k (k+1) (k+1) k (fun n=>n≤3) h va vb vn vo∧Xy e fb nn H.size va vo vn k) ?_ ?_
 ·refine v8 Ih DL B3 Ii pg ph pj (ae pG) ?_
  refine am.dec (fun gb=>?_) (fun gb=>?_)
  ·obtain⟨x,r,rfl⟩:∃x r,b=x::r:=apD (fun h=>by rw[h]at gb;simp at gb)
   obtain⟨pb,po,pl,pc,hv,eW,PQ,bX,hpc⟩:=h2.rb.head
   injection hv with Su abD Sv
   subst Su Sv
   refine v8 Ih DL B3 Ii pg ph pj (ae pG) ?_
   refine⟨⟨by omega,by omega⟩,?_⟩
   refine v12 eW bX Int.toNat_zero ao0 Nat.add_zero Ih DL B3 Ii pg ph pj ?_
   refine(dc h2.m x).mono ?_
   rintro _ H' ⟨rfl,e⟩
   obtain rfl:=e.symm
   refine v7 Ih DL B3 Ii pg ph pj ?_
   have uN:(x::r).length=r.length+1:=aoD
   have fp:(now++(a++(x::r++(out++W0)))).Perm (now++[x]++(a++(r++(out++W0)))):=by
    rw[apW]
    intro z
    simp only[aqb,ap8,apt,List.count_nil]
    omega
   refine am.dec (fun gd=>?_) (fun gd=>?_)
   ·refine vs ?_
    replace f2:=f2.perm fp
    refine jB.intro (fun _=>True) trivial ?_
    refine vs ?_
    refine EN.intro ?_ ?_
    ·refine v6 (ae pG) eW bX Int.toNat_zero ao0 Nat.add_zero ?_
     refine⟨⟨by omega,by omega⟩,?_⟩
     refine v6 (ae pG) eW bX Int.toNat_zero ao0 Nat.add_zero ?_
     refine EN.intro ?_ ?_
     ·refine v6 (ae pG) eW bX Int.toNat_zero ao0 Nat.add_zero ?_
      refine EN.intro ?_ ?_
      ·refine v6 (ae pG) eW bX Int.toNat_zero ao0 Nat.add_zero ?_
       refine EN.intro ?_ ?_
       ·refine vs ?_
        refine ED.push x (by omega) fun w' H3 IS DR Qm e3=>?_
        obtain⟨h3,De,NN,Gj,Df⟩:=h2.Dc pG DK iP qG e3 DR
        refine v8 (ae De) De eW bX Int.toNat_zero ao0 Nat.add_zero aoi ?_
        refine⟨⟨by omega,by omega,by omega,by omega⟩,?_⟩
        refine v8 (ae De) De eW bX Int.toNat_zero ao0 Nat.add_zero aoi ?_
        have e4:∀v,ag (fun z=>z=H.size) H3 (H3.wr H.size [v]):=fun v=>(ag.refl (fun z=>z=H.size) _).wr (fun _=>rfl) _
        have Uv:∀v,(H3.wr H.size [v]).own H.size=some [v]:=fun v=>ai De
        have h4:=fun v=>h3.Ut (e4 v) (fun z hz=>by rw[hz];exact⟨aov _,DJ⟩)
        exact⟨_,_,_,_,⟨a,r,now++[x],out,IS,fo,n9,l2,V2,lF,jr,DG,(h4 _).Sq ((h4 _).rb.tail _),f2,i2.KH (by omega),by rw[aor,aoA];omega,Uv _,DJ,Qm.ext (e4 _) (fun z hz e=>by have:=Gj z (.inl hz);omega),NN.ext (e4 _) (fun z hz e=>by have:=Gj z (.inr hz);omega),fun z hz=>by rw[eo];exact Gj z hz,Df,EE⟩,rfl,rfl,rfl,rfl,rfl,rfl,rfl⟩
       ·refine v6 (ae pG) eW bX Int.toNat_zero ao0 Nat.add_zero ?_
        refine⟨⟨by omega,by omega,by omega,by omega⟩,?_⟩
        refine v6 (ae pG) eW bX Int.toNat_zero ao0 Nat.add_zero ?_
        refine ED.push x (by omega) fun w' H3 IS DR Qm e3=>?_
        obtain⟨h3,De,NN,Gj,Df⟩:=h2.Dc pG DK iP qG e3 DR
        refine v8 (ae De) De eW bX Int.toNat_zero ao0 Nat.add_zero aoi ?_
        have e4:∀v,ag (fun z=>z=H.size) H3 (H3.wr H.size [v]):=fun v=>(ag.refl (fun z=>z=H.size) _).wr (fun _=>rfl) _
        have Uv:∀v,(H3.wr H.size [v]).own H.size=some [v]:=fun v=>ai De
        have h4:=fun v=>h3.Ut (e4 v) (fun z hz=>by rw[hz];exact⟨aov _,DJ⟩)
        exact⟨_,_,_,_,⟨a,r,now++[x],out,IS,fo,n9,l2,V2,lF,jr,DG,(h4 _).Sq ((h4 _).rb.tail _),f2,i2.KH (by omega),by rw[aor,aoA];omega,Uv _,DJ,Qm.ext (e4 _) (fun z hz e=>by have:=Gj z (.inl hz);omega),NN.ext (e4 _) (fun z hz e=>by have:=Gj z (.inr hz);omega),fun z hz=>by rw[eo];exact Gj z hz,Df,EE⟩,rfl,rfl,rfl,rfl,rfl,rfl,rfl⟩
      ·refine v6 (ae pG) eW bX Int.toNat_zero ao0 Nat.add_zero ?_
       refine⟨⟨by omega,by omega,by omega,by omega⟩,?_⟩
       refine v6 (ae pG) eW bX Int.toNat_zero ao0 Nat.add_zero ?_
       refine ED.push x (by omega) fun w' H3 IS DR Qm e3=>?_
       obtain⟨h3,De,NN,Gj,Df⟩:=h2.Dc pG DK iP qG e3 DR
       refine v8 (ae De) De eW bX Int.toNat_zero ao0 Nat.add_zero aoi ?_
       have e4:∀v,ag (fun z=>z=H.size) H3 (H3.wr H.size [v]):=fun v=>(ag.refl (fun z=>z=H.size) _).wr (fun _=>rfl) _
       have Uv:∀v,(H3.wr H.size [v]).own H.size=some [v]:=fun v=>ai De
       have h4:=fun v=>h3.Ut (e4 v) (fun z hz=>by rw[hz];exact⟨aov _,DJ⟩)
       exact⟨_,_,_,_,⟨a,r,now++[x],out,IS,fo,n9,l2,V2,lF,jr,DG,(h4 _).Sq ((h4 _).rb.tail _),f2,i2.KH (by omega),by rw[aor,aoA];omega,Uv _,DJ,Qm.ext (e4 _) (fun z hz e=>by have:=Gj z (.inl hz);omega),NN.ext (e4 _) (fun z hz e=>by have:=Gj z (.inr hz);omega),fun z hz=>by rw[eo];exact Gj z hz,Df,EE⟩,rfl,rfl,rfl,rfl,rfl,rfl,rfl⟩
     ·refine v6 (ae pG) eW bX Int.toNat_zero ao0 Nat.add_zero ?_
      refine⟨⟨by omega,by omega,by omega,by omega⟩,?_⟩
      refine v6 (ae pG) eW bX Int.toNat_zero ao0 Nat.add_zero ?_
      refine ED.push x (by omega) fun w' H3 IS DR Qm e3=>?_
      obtain⟨h3,De,NN,Gj,Df⟩:=h2.Dc pG DK iP qG e3 DR
      refine v8 (ae De) De eW bX Int.toNat_zero ao0 Nat.add_zero aoi ?_
      have e4:∀v,ag (fun z=>z=H.size) H3 (H3.wr H.size [v]):=fun v=>(ag.refl (fun z=>z=H.size) _).wr (fun _=>rfl) _
      have Uv:∀v,(H3.wr H.size [v]).own H.size=some [v]:=fun v=>ai De
      have h4:=fun v=>h3.Ut (e4 v) (fun z hz=>by rw[hz];exact⟨aov _,DJ⟩)
      exact⟨_,_,_,_,⟨a,r,now++[x],out,IS,fo,n9,l2,V2,lF,jr,DG,(h4 _).Sq ((h4 _).rb.tail _),f2,i2.KH (by omega),by rw[aor,aoA];omega,Uv _,DJ,Qm.ext (e4 _) (fun z hz e=>by have:=Gj z (.inl hz);omega),NN.ext (e4 _) (fun z hz e=>by have:=Gj z (.inr hz);omega),fun z hz=>by rw[eo];exact Gj z hz,Df,EE⟩,rfl,rfl,rfl,rfl,rfl,rfl,rfl⟩
    ·refine v6 (ae pG) eW bX Int.toNat_zero ao0 Nat.add_zero ?_
     refine⟨⟨by omega,by omega,by omega,by omega⟩,?_⟩
     refine v6 (ae pG) eW bX Int.toNat_zero ao0 Nat.add_zero ?_
     refine⟨⟨by omega,by omega⟩,?_⟩
     refine v6 (ae pG) eW bX Int.toNat_zero ao0 Nat.add_zero ?_
     refine ED.push x (by omega) fun w' H3 IS DR Qm e3=>?_
     obtain⟨h3,De,NN,Gj,Df⟩:=h2.Dc pG DK iP qG e3 DR
     refine v8 (ae De) De eW bX Int.toNat_zero ao0 Nat.add_zero aoi ?_
     have e4:∀v,ag (fun z=>z=H.size) H3 (H3.wr H.size [v]):=fun v=>(ag.refl (fun z=>z=H.size) _).wr (fun _=>rfl) _
     have Uv:∀v,(H3.wr H.size [v]).own H.size=some [v]:=fun v=>ai De
     have h4:=fun v=>h3.Ut (e4 v) (fun z hz=>by rw[hz];exact⟨aov _,DJ⟩)
     exact⟨_,_,_,_,⟨a,r,now++[x],out,IS,fo,n9,l2,V2,lF,jr,DG,(h4 _).Sq ((h4 _).rb.tail _),f2,i2.KH (by omega),by rw[aor,aoA];omega,Uv _,DJ,Qm.ext (e4 _) (fun z hz e=>by have:=Gj z (.inl hz);omega),NN.ext (e4 _) (fun z hz e=>by have:=Gj z (.inr hz);omega),fun z hz=>by rw[eo];exact Gj z hz,Df,EE⟩,rfl,rfl,rfl,rfl,rfl,rfl,rfl⟩
   ·refine vs ?_
    exact⟨_,_,_,_,⟨a,x::r,now,out,nb,fo,n9,l2,V2,lF,jr,DG,h2,f2,i2.Vl (fun c hc=>by injection hc with hc;rw[←hc];omega),by omega,pG,DJ,ED,DK,iP,qG,EE⟩,rfl,rfl,rfl,rfl,rfl,rfl,rfl⟩
  ·refine v7 Ih DL B3 Ii pg ph pj ?_
   have Rx:b=[]:=aoR.1 (by omega)
   exact⟨_,_,_,_,⟨a,b,now,out,nb,fo,n9,l2,V2,lF,jr,DG,h2,f2,i2.Vl (fun c hc=>by rw[Rx]at hc;cases hc),by omega,pG,DJ,ED,DK,iP,qG,EE⟩,rfl,rfl,rfl,rfl,rfl,rfl,rfl⟩
 clear Tv h2 f2 i2 Ql pG DJ ED DK iP qG EE NM GO P0 Ih DL B3 Ii pg ph pj
 rintro e3 H2 ⟨va,vb,vn,vo,Tv,hv⟩
 obtain⟨a,b,now,out,nb,fo,n9,l2,V2,lF,jr,DG,h2,f2,i2,Ql,pG,DJ,ED,DK,iP,qG,EE⟩:=id Tv
 obtain⟨an,cn,rfl,P0⟩:=ED.cap
 obtain⟨ao,co,rfl⟩:=Sl.shape DK
 have NM:=aB pG
 have cX:=bZ f2.wn fun c hc=>f2.R5 (hm:=aG w) hc
 simp only[aor]at cX
 obtain⟨Ih,DL,B3,Ii,pg,ph,pj⟩:=hv
 refine JV (fun e h=>∃va vb vn vo,Ss H ro nn fb tb c C w lt rows W0 g ch k (k+1) (k+1) (k+1) (fun n=>n=0∨n=2) h va vb vn vo∧Xy e fb nn H.size va vo vn k) ?_ ?_
 ·refine v8 Ih DL B3 Ii pg ph pj (ae pG) ?_
  rw[if_neg (by decide:¬ (2:Int)=0),Int.tmod_eq_emod_of_nonneg (by omega)]
  refine v7 Ih DL B3 Ii pg ph pj ?_
  refine am.dec (fun gp=>?_) (fun gp=>?_)
  ·obtain⟨x,r,rfl⟩:∃x r,now=x::r:=apD (fun h=>by rw[h]at gp;simp at gp)
   have uN:(x::r).length=r.length+1:=aoD
   obtain⟨a',c',OW,Jc,hn'⟩:=id ED
   injection OW with Su abD Sv
   subst Su Sv
   obtain⟨pb,po,pl,rfl,Zw,Qf,OV,hpt⟩:=hn'.resolve_left (by omega)
   have bX:pl[po]? =some (i64 x):=by
    have h7:((x::r).map i64)[0]? =some (i64 x):=rfl
    rw[←hpt,aoV,if_pos (by simp),aoW]at h7
    exact h7
   have eW:=ae Qf
   refine v7 Ih DL B3 Ii pg ph pj ?_
   refine⟨⟨by omega,by omega⟩,?_⟩
   refine v5 eW bX Int.toNat_zero ao0 Nat.add_zero ?_
   refine RM DK x (by omega) fun w' H3 RP QU NN e3=>?_
   have h3:=h2.Ut e3 (fun z hz=>by have:=iP z (.inr hz);exact⟨by omega,this.2.2⟩)
   have De:=e3.own pG (fun hz=>by have:=iP _ (.inr hz);omega)
   have Qm:=ED.ext e3 (fun z h1 h2=>qG z h1 h2)
   have GR:=e3.size
   refine v7 Ih DL B3 Ii pg ph pj ?_
   refine⟨⟨by omega,by omega,by omega,by omega⟩,?_⟩
   refine v7 Ih DL B3 Ii pg ph pj ?_
   have fp:(x::r++(a++(b++(out++W0)))).Perm (r++(a++(b++(out++[x]++W0)))):=by
    rw[apW]
    intro z
    simp only[aqb,ap8,apt,List.count_nil]
    omega
   have Gj:∀z,nb=some z∨RP=some z→H.size<z∧z<H3.size∧n9 z= .no:=fun z hz=>by
    rcases hz with hz|hz
    ·have:=iP z (.inl hz)
     exact⟨this.1,by omega,this.2.2⟩
    ·rcases QU with h1| ⟨y,h1,RA,MK⟩
     ·rw[h1]at hz
      have:=iP z (.inr hz)
      exact⟨this.1,by omega,this.2.2⟩
     ·rw[h1]at hz
      injection hz with hz
      subst hz
      exact⟨by omega,MK,h2.hz _ RA⟩
   have Df:∀z,nb=some z→RP=some z→False:=fun z h1 RA=>by
    rcases QU with MK| ⟨y,MK,h4',h5'⟩
    ·exact qG z h1 (by rw[←MK];exact RA)
    ·rw[MK]at RA
     injection RA with RA
     have:=iP z (.inl h1)
     omega
   exact⟨_,_,_,_,⟨a,b,r,out++[x],nb,RP,n9,l2,V2,lF,jr,DG,h3,f2.perm fp,i2.ae8,by omega,De,DJ,Qm.tail _,NN,Gj,Df,EE⟩,rfl,rfl,rfl,rfl,rfl,rfl,rfl⟩
  ·refine v7 Ih DL B3 Ii pg ph pj ?_
   exact⟨_,_,_,_,⟨a,b,now,out,nb,fo,n9,l2,V2,lF,jr,DG,h2,f2,⟨i2.ra,i2.rb,i2.ro,i2.ka,i2.kb,i2.kn,fun c hc=>by have:=i2.ko c hc;omega,i2.hg⟩,by omega,pG,DJ,ED,DK,iP,qG,EE⟩,rfl,rfl,rfl,rfl,rfl,rfl,rfl⟩
 clear Tv h2 f2 i2 Ql pG DJ ED DK iP qG EE NM P0 Ih DL B3 Ii pg ph pj cX
 rintro e4 H2 ⟨va,vb,vn,vo,Tv,hv⟩
 obtain⟨a,b,now,out,nb,fo,n9,l2,V2,lF,jr,DG,h2,f2,i2,Ql,pG,DJ,ED,DK,iP,qG,EE⟩:=id Tv
 obtain⟨an,cn,rfl,P0⟩:=ED.cap
 have NM:=aB pG
 obtain⟨Ih,DL,B3,Ii,pg,ph,pj⟩:=hv
 refine v8 Ih DL B3 Ii pg ph pj (ae pG) ?_
 refine am.dec (fun gp=>?_) (fun gp=>?_)
 ·obtain⟨x,y,rfl⟩:∃x y,now=[x,y]:=by
   match now,gp with
   | [x,y],_=>exact⟨x,y,rfl⟩
   | [],gp=>simp at gp
   | [_],gp=>simp at gp
   |_::_::_::_,gp=>simp at gp;omega
  obtain⟨a',c',OW,Jc,hn'⟩:=id ED
  injection OW with Su abD Sv
  subst Su Sv
  have oJ:([x,y]:List Int).length=2:=rfl
  obtain⟨pb,po,pl,rfl,Zw,Qf,OV,hpt⟩:=hn'.resolve_left (by omega)
  have XC:pl[po]? =some (i64 x):=by
   have h7:(([x,y]:List Int).map i64)[0]? =some (i64 x):=rfl
   rw[←hpt,aoV,if_pos (by simp),aoW]at h7
   exact h7
  have XD:pl[po+1]? =some (i64 y):=by
   have h7:(([x,y]:List Int).map i64)[1]? =some (i64 y):=rfl
   rw[←hpt,aoV,if_pos (by simp),aoW]at h7
   exact h7
  have eW:=ae Qf
  refine v7 Ih DL B3 Ii pg ph pj ?_
  refine⟨⟨by omega,by omega⟩,?_⟩
  refine v12 eW XC Int.toNat_zero ao0 Nat.add_zero Ih DL B3 Ii pg ph pj ?_
  refine⟨⟨by omega,by omega⟩,?_⟩
  refine v11 eW XD Int.toNat_one Nat.one_mul Ih DL B3 Ii pg ph pj ?_
  have Du:=i2.kn x (by simp)
  have hyn:=i2.kn y (by simp)
  have OS:=i2.hg x (.inr (.inr (.inl (by simp))))
  have hyg:=i2.hg y (.inr (.inr (.inl (by simp))))
  refine(EB h2.m h2.hz h2.own h2.cq h2.hC aO (W:=a++(b++(out++W0))) f2 (by omega) (by omega)).mono ?_
  rintro _ H3 ⟨p,q,Qn,l3,V3,XE,rfl,Oz,m3,f3,c3,r3,MH,e3⟩
  have abF:∀z,n9 z= .no→¬KC n9 z:=fun z h1 h2=>by
   rcases h2 with (h2| ⟨_,h2⟩)|h2<;>(rw[h1]at h2;cases h2)
  have GR:=e3.size
  obtain⟨rest,ho⟩:=h2.own
  have agw:¬KC n9 nn:=fun h=>by
   have:=h2.hn
   rcases h with (h| ⟨_,h⟩)|h<;>(rw[this]at h;cases h)
  have h3:pe H ro nn fb tb c C w H3 Qn l3 V3 (ay lF p (lF p++[q])) (aH jr q p) XE va vb a b:=by
   refine⟨m3,c3,fun z hz=>?_,⟨rest,e3.own ho agw⟩,?_,MH,h2.rk.trans r3 h2.e.size,h2.ra.ext e3 (fun z _ h=>h) (fun z hz h=>r3.kcs hz h),h2.rb.ext e3 (fun z _ h=>h) (fun z hz h=>r3.kcs hz h),?_⟩
   ·have h5:=h2.hC z hz
    rw[r3.o z (h2.cq.slt z hz) (fun x e=>by rw[h5]at e;cases e),h5]
   ·rw[r3.o nn (aB ho) (fun x e=>by rw[h2.hn]at e;cases e),h2.hn]
   ·exact⟨apb h2.e.size e3.size,fun z hz hn=>by
     rw[e3.aM z (aoH hz h2.e.size) (fun h=>hn (h2.rk.kcs hz h)),h2.e.aM z hz hn]⟩
  have De:=e3.own pG (abF _ DJ)
  have NN:=DK.ext e3 (fun z hz=>abF z (iP z (.inr hz)).2.2)
  have f4:ah H3 (H3.new 3 [i64 p]):=(ag.refl _ _).new _ _
  have f4':ag (fun _=>False) H3 (H3.new 3 [i64 p]):=f4
  have h4:=h3.Ut f4' (fun z hz=>hz.elim)
  have nw4:Ig (H3.new 3 [i64 p]) (.slice (some ⟨H3.size,0,none⟩) 1 1) [p] (some H3.size):=Ig.lit p
  have Zw:=aoB.1 f3.wn
  have vA:p∉a∧p∉b∧p∉out∧p∉W0:=by
   have:=Zw.1
   simp only[aou,not_or]at this
   exact⟨this.1,this.2.1,this.2.2.1,this.2.2.2⟩
  have i4:=i2.aas (p:=p) (q:=q) (aov _) (Oz.imp (fun h=>h.1) (fun h=>h.1)) ⟨vA.1,vA.2.1,vA.2.2.1⟩
  have WR:(H3.new 3 [i64 p]).size=H3.size+1:=ap _ _ _
  have hd4:∀z,some H3.size=some z∨fo=some z→H.size<z∧z< (H3.new 3 [i64 p]).size∧Qn z= .no:=fun z hz=>by
   rcases hz with hz|hz
   ·injection hz with hz
    subst hz
    exact⟨by omega,by omega,MH _ (aov _)⟩
   ·have:=iP z (.inr hz)
    exact⟨this.1,by omega,r3.none this.2.1 this.2.2⟩
  have agx:∀z,some H3.size=some z→fo=some z→False:=fun z h1 RA=>by
   injection h1 with h1
   have:=iP z (.inr RA)
   omega
  refine v7 Ih DL B3 Ii pg ph pj ?_
  rw[wrap64 (n:=(k:Int)+1) (by omega) (by omega)]
  refine⟨w.cs.length+1 - (k+1),by omega,k+1,va,vb,_,vo,rfl,⟨a,b,[p],out,some H3.size,fo,Qn,l3,V3,_,_,XE,h4,f3,i4,by simp,f4.own De (fun h=>h),r3.none NM DJ,nw4,NN.ext f4 (fun _ _ h=>h),hd4,agx,fun z hz=>?_⟩,rfl⟩
  unfold ay
  rw[if_neg (fun e=>vA.2.2.2 (by rw[←e];exact hz))]
  exact EE z hz
 ·refine v7 Ih DL B3 Ii pg ph pj ?_
  have Ln:now=[]:=aoR.1 (by omega)
  subst Ln
  rw[wrap64 (n:=(k:Int)+1) (by omega) (by omega)]
  exact⟨w.cs.length+1 - (k+1),by omega,k+1,va,vb,_,vo,rfl,⟨a,b,[],out,nb,fo,n9,l2,V2,lF,jr,DG,h2,f2,i2.aar (aov _),by simp,pG,DJ,ED,DK,iP,qG,EE⟩,rfl⟩
end
end Go.Proofs.YtjlnnljohemifaaGreat

namespace Go.Proofs.YtjlnnljohemifaaGreat
open Go Go.Vc
structure Zz where
 n:Nat
 c:Nat
 fb:Nat
 tb:Nat
 rp:Nat
structure u0(H:Hp)(ro:Nat→Rl)(B:Zz)(C:Nat→Prop)(w:Nw)(l:List Value)(V:Int→Value)(ch:Int→List Int)(par:Int→Int)(kb:Int→Option Nat)(cS:List Value)(rows:Int→List Int)(rb:Int→Option Nat):Prop where
 own:∃tv,H.own B.n=some [ptr B.c,ptr B.fb,tv]∧Sl H 1 tv cS.length cS (some B.rp)
 row:∀g:Int,0≤g→g<cS.length→∃sv,cS[g.toNat]? =some sv∧Sl H 1 sv (rows g).length ((rows g).map i64) (rb g)
 cells:CQ H B.c C w
 fo:ForM H ro B.fb B.tb w.cs.length l V ch par kb
 hC:∀z,C z→ro z= .cell
 rn:ro B.n= .RJ
 rr:ro B.rp= .Lv
 mK:∀ (g:Int) b,0≤g→g<cS.length→rb g=some b→ro b= .row g
 hz:∀z,H.size≤z→ro z= .no
def dG(ro:Nat→Rl)(z:Nat):Prop:=ro z≠ .no
section
variable {H H' : Hp} {ro ro' : Nat → Rl} {B : Zz} {C T : Nat → Prop} {w w' : Nw} {l l' : List Value} {V V' : Int → Value} {ch dO : Int → List Int} {par bG : Int → Int} {kb tN : Int → Option Nat} {cS : List Value} {rows : Int → List Int} {rb : Int → Option Nat} {lt : Int → Int → Bool} {W W0 L : List Int}
theorem u0.slt(m:u0 H ro B C w l V ch par kb cS rows rb):∀z,dG ro z→z<H.size:=fun z hz=>by
 apply aoI
 intro h
 exact hz (m.hz z (by omega))
theorem fk{ro:Nat→Rl}{z:Nat}{r:Rl}(h:ro z=r)(hr:r≠ .no):dG ro z:=fun e=>hr (by rw[←h,e])
theorem u0.ext(m:u0 H ro B C w l V ch par kb cS rows rb)(e:ag T H H')(hd:∀z,dG ro z→¬T z):u0 H' ro B C w l V ch par kb cS rows rb:=by
 obtain⟨tv,h1,h2⟩:=m.own
 have hs:=e.size
 refine⟨⟨tv,e.own h1 (hd _ (fk m.rn nofun)),h2.ext e (fun b hb=>by injection hb with hb;subst hb;exact hd _ (fk m.rr nofun))⟩,fun g h0 h1=>?_,m.cells.ext e (fun z hz=>hd z (fk (m.hC z hz) nofun)),m.fo.ext e (fun z hz=>?_),m.hC,m.rn,m.rr,m.mK,fun z hz=>m.hz z (by omega)⟩
 ·obtain⟨sv,q1,q2⟩:=m.row g h0 h1
  exact⟨sv,q1,q2.ext e (fun b hb=>hd b (fk (m.mK g b h0 h1 hb) nofun))⟩
 ·rcases hz with h|h| ⟨x,h⟩<;>exact hd z (fk h nofun)
theorem u0.fresh(m:u0 H ro B C w l V ch par kb cS rows rb)(e:ah H H'):u0 H' ro B C w l V ch par kb cS rows rb:=m.ext e fun _ _ h=>h
theorem u0.aJ(m:u0 H ro B C w l V ch par kb cS rows rb)(c1:CQ H' B.c C w')(e:ag C H H')(hl:w'.cs.length=w.cs.length):u0 H' ro B C w' l V ch par kb cS rows rb:=by
 obtain⟨tv,h1,h2⟩:=m.own
 have hs:=e.size
 have hd:∀z r,ro z=r→r≠ .cell→¬C z:=fun z r h1 h2 hc=>h2 (by rw[←h1,m.hC z hc])
 refine⟨⟨tv,e.own h1 (hd _ _ m.rn nofun),h2.ext e (fun b hb=>by injection hb with hb;subst hb;exact hd _ _ m.rr nofun)⟩,fun g h0 h1=>?_,c1,?_,m.hC,m.rn,m.rr,m.mK,fun z hz=>m.hz z (by omega)⟩
 ·obtain⟨sv,q1,q2⟩:=m.row g h0 h1
  exact⟨sv,q1,q2.ext e (fun b hb=>hd b _ (m.mK g b h0 h1 hb) nofun)⟩
 ·rw[hl]
  refine m.fo.ext e (fun z hz=>?_)
  rcases hz with h|h| ⟨x,h⟩<;>exact hd z _ h nofun
theorem u0.Sw(m:u0 H ro B C w l V ch par kb cS rows rb)(f:ForM H' ro' B.fb B.tb w.cs.length l' V' dO bG tN)(c1:CQ H' B.c C w)(r:RK H.size ro ro')(hz:∀z,H'.size≤z→ro' z= .no)(e:ag (KC ro) H H'):u0 H' ro' B C w l' V' dO bG tN cS rows rb:=by
 obtain⟨tv,h1,h2⟩:=m.own
 have hd:∀z q,ro z=q→(∀x,q≠ .pD x)→q≠ .table→q≠ .cell→¬KC ro z:=fun z q h1 h2 h3 h4 hc=>by
  rcases hc with (hc| ⟨x,hc⟩)|hc
  ·exact h3 (by rw[←h1,hc])
  ·exact h2 x (by rw[←h1,hc])
  ·exact h4 (by rw[←h1,hc])
 have hk:∀z q,ro z=q→q≠ .no→(∀x,q≠ .pD x)→ro' z=q:=fun z q h1 h2 h3=>by
  rw[r.o z (m.slt z (fk h1 h2)) (fun x e=>h3 x (by rw[←h1,e])),h1]
 refine⟨⟨tv,e.own h1 (hd _ _ m.rn nofun nofun nofun),h2.ext e (fun b hb=>by injection hb with hb;subst hb;exact hd _ _ m.rr nofun nofun nofun)⟩,fun g h0 h1=>?_,c1,f,fun z hz=>hk z _ (m.hC z hz) nofun nofun,hk _ _ m.rn nofun nofun,hk _ _ m.rr nofun nofun,fun g b h0 h1 hb=>hk b _ (m.mK g b h0 h1 hb) nofun nofun,hz⟩
 obtain⟨sv,q1,q2⟩:=m.row g h0 h1
 exact⟨sv,q1,q2.ext e (fun b hb=>hd b _ (m.mK g b h0 h1 hb) nofun nofun nofun)⟩
theorem u0.VK(m:u0 H ro B C w l V ch par kb cS rows rb){g:Int}(hg:0≤g∧g<cS.length){H1:Hp}(e0:ag (fun z=>rb g=some z) H H1){lb:List Value}(DB:H1.own B.rp=some lb){sv:Value}{L':List Int}{o:Option Nat}(s:Sl H1 1 sv L'.length (L'.map i64) o)(ho:∀b,o=some b→ro b= .no∨ro b= .row g):
  u0 (H1.wr B.rp (lb.set g.toNat sv)) (fun z=>if o=some z then .row g else ro z) B C w l V ch par kb (cS.set g.toNat sv) (ay rows g L') (fun k=>if k=g then o else rb k)∧ag (dG ro) H (H1.wr B.rp (lb.set g.toNat sv))∧
   (∀z,dG (fun z=>if o=some z then .row g else ro z) z→dG ro z∨o=some z):=by
 obtain⟨tv,h1,h2⟩:=m.own
 have e:ag (fun z=>z=B.rp) H1 (H1.wr B.rp (lb.set g.toNat sv)):=(ag.refl (fun z=>z=B.rp) _).wr (fun _=>rfl) _
 have PD:(H1.wr B.rp (lb.set g.toNat sv)).size=H1.size:=eo _ _ _
 have hs0:=e0.size
 have Kl:∀z q,ro z=q→q≠ .no→q≠ .row g→(if o=some z then Rl.row g else ro z)=q:=fun z q h1 h2 h3=>by
  rw[if_neg (fun e=>by rcases ho z e with h|h;exact h2 (by rw[←h1,h]);exact h3 (by rw[←h1,h])),h1]
 have ne:∀z q,ro z=q→q≠ .Lv→z≠B.rp:=fun z q h1 h2 e=>h2 (by rw[←h1,e,m.rr])
 have n0:∀z q,ro z=q→q≠ .row g→¬rb g=some z:=fun z q h1 h2 h3=>h2 (by rw[←h1,m.mK g z hg.1 hg.2 h3])
 have hob:∀b,o=some b→b≠B.rp:=fun b hb e=>by rcases ho b hb with h|h<;>(rw[e,m.rr]at h;cases h)
 obtain⟨ta,tc,rfl⟩:=Sl.shape h2
 have hta:ta=some ⟨B.rp,0,none⟩:=by
  obtain⟨_,_,_,hh,_⟩:=h2
  injection hh with hh
 subst hta
 have h3:=h2.ext e0 (fun b hb=>by injection hb with hb;subst hb;exact n0 _ _ m.rr nofun)
 refine⟨⟨⟨_,e.own (e0.own h1 (n0 _ _ m.rn nofun)) (ne _ _ m.rn nofun),?_⟩,fun k h0 h1=>?_,(m.cells.ext e0 (fun z hz=>n0 z _ (m.hC z hz) nofun)).ext e (fun z hz=>ne z _ (m.hC z hz) nofun),?_,fun z hz=>Kl z _ (m.hC z hz) nofun nofun,Kl _ _ m.rn nofun nofun,Kl _ _ m.rr nofun nofun,fun k b h0 h1 hb=>?_,fun z hz=>?_⟩,
  (e0.mono fun z _ h=>fk (m.mK g z hg.1 hg.2 h) nofun).trans (e.mono fun z _ h=>by rw[h];exact fk m.rr nofun),fun z hz=>?_⟩
 ·rw[aok]
  exact h3.uC DB g.toNat sv
 ·rw[aok]at h1
  by_cases hk:k=g
  ·subst hk
   refine⟨sv,by rw[aop (by omega)],?_⟩
   unfold ay
   rw[if_pos rfl,if_pos rfl]
   exact s.ext e (fun b hb=>hob b hb)
  ·obtain⟨VA,q1,q2⟩:=m.row k h0 h1
   refine⟨VA,by rw[aoo (by omega)];exact q1,?_⟩
   unfold ay
   rw[if_neg hk,if_neg hk]
   exact(q2.ext e0 (fun b hb=>n0 b _ (m.mK k b h0 h1 hb) (fun e=>hk (by injection e)))).ext e (fun b hb=>ne b _ (m.mK k b h0 h1 hb) nofun)
 ·have f1:=(m.fo.ext e0 (fun z hz=>by rcases hz with h|h| ⟨x,h⟩<;>exact n0 z _ h nofun)).ext e (fun z hz=>by rcases hz with h|h| ⟨x,h⟩<;>exact ne z _ h nofun)
  exact⟨f1.t,f1.kd,Kl _ _ f1.rf nofun nofun,Kl _ _ f1.rt nofun nofun,fun x b h0 h1 hb=>Kl _ _ (f1.rk x b h0 h1 hb) nofun nofun,f1.GV,f1.no⟩
 ·rw[aok]at h1
  by_cases hk:k=g
  ·rw[if_pos hk]at hb
   rw[if_pos hb,hk]
  ·rw[if_neg hk]at hb
   have:=m.mK k b h0 h1 hb
   exact Kl b _ this nofun (fun e=>hk (by injection e))
 ·rw[PD]at hz
  rw[if_neg (fun e=>?_),m.hz z (by omega)]
  cases o with
  |none=>cases e
  |some b=>
   injection e with e
   have:=Sl.lt s
   omega
 ·by_cases h:o=some z
  ·exact .inr h
  ·refine .inl fun h2=>hz ?_
   simp only[if_neg h]
   exact h2
theorem u0.LV(m:u0 H ro B C w l V ch par kb cS rows rb){g:Int}(hg:0≤g∧g<cS.length):∃lb tc sv,H.own B.n=some [ptr B.c,ptr B.fb,.slice (some ⟨B.rp,0,none⟩) cS.length tc]∧H.own B.rp=some lb∧lb[g.toNat]? =some sv∧g.toNat<lb.length∧cS[g.toNat]? =some sv∧
  Sl H 1 sv (rows g).length ((rows g).map i64) (rb g):=by
 obtain⟨tv,h1,h2⟩:=m.own
 obtain⟨sv,q1,q2⟩:=m.row g hg.1 hg.2
 obtain⟨_,lb,tc,rfl,ho,hc,hl,ht⟩:=h2
 refine⟨lb,tc,sv,h1,ho,?_,by omega,q1,q2⟩
 have h7:=q1
 rw[←ht,aoV]at h7
 split at h7
 ·exact h7
 ·cases h7
theorem Sl.rdB{sv:Value}{L:List Int}{fp:Option Nat}{Bd:Nat}(s:Sl H 1 sv L.length (L.map i64) fp)(hf:∀b,fp=some b→b<Bd∧¬KC ro b):Gi H ro Bd sv L:=by
 cases fp with
 |none=>
  obtain⟨_,h2,rfl⟩:=s
  exact⟨none,0,by rw[h2],by omega,.inl (aoR.1 h2)⟩
 |some b=>
  obtain⟨_,lb,c,rfl,ho,hc,hl,ht⟩:=s
  obtain⟨h1,h2⟩:=hf b rfl
  refine⟨_,c,rfl,hc,.inr ⟨b,0,lb,rfl,h1,h2,ae ho,by omega,?_⟩⟩
  rw[aqe]
  rw[aol]at ht
  exact ht
theorem BG(m:u0 H ro B C w l V ch par kb cS rows rb){g:Int}{lv:Value}(Tt:Gi H ro H.size lv L)(aO:∀a b,aQ w a b=true→lt a b=true)(f:jz (aG w) lt ch par rows (L++W0))(hL:E7 ch L)(hg:∀c∈L,aG w c=g)(yu:0≤g∧g<cS.length):
  af Tryz.prog wu [ptr B.n,i64 g,lv] H fun v H'=>aw (∃ro' l' V' dO bG tN NJ jV rb',u0 H' ro' B C w l' V' dO bG tN NJ jV rb'∧jz (aG w) lt dO bG jV W0∧NJ.length=cS.length∧(∀z∈W0,dO z=ch z)∧
   (∀z,dG ro' z→dG ro z∨H.size≤z)∧ag (dG ro) H H'):=by
 obtain⟨lb,tc,sv,o1,q1,q2,DB,_,s2⟩:=m.LV yu
 obtain⟨va,vc,rfl⟩:=Sl.shape s2
 obtain⟨aL,cL,rfl,hcL⟩:=Tt.cap
 have hra:Gi H ro H.size (.slice va (rows g).length vc) (rows g):=Sl.rdB s2 (fun b hb=>by
  have h5:=m.mK g b yu.1 yu.2 hb
  refine⟨m.slt b (fk h5 nofun),fun hc=>?_⟩
  rcases hc with (hc| ⟨x,hc⟩)|hc<;>(rw[h5]at hc;cases hc))
 have h0:pe H ro B.n B.fb B.tb B.c C w H ro l V ch par kb (.slice va (rows g).length vc) (.slice aL L.length cL) (rows g) L:=⟨m.fo,m.cells,m.hC,⟨_,o1⟩,m.rn,m.hz,RK.refl m.hz,hra,Tt,ag.refl _ _⟩
 have f1:=f.loose g
 have sV:∀c∈rows g,aG w c=g:=fun c hc=>(f.rm g c hc).1
 refine Fa wX ⟨rfl,?_⟩
 refine v1 mf.eq_1 ?_
 refine jB.intro (fun H'=>H'.own B.n=some [ptr B.c,ptr B.fb,.slice (some ⟨B.rp,0,none⟩) cS.length tc]) o1 ?_
 refine vs ?_
 refine fJ.intro (.slice (some ⟨B.rp,0,none⟩) cS.length tc) (fun H' hI=>by refine v1 (ae hI) ?_;trivial) ?_
 refine vs ?_
 have hgi:0≤g∧g< (cS.length:Int):=yu
 have key:∀K:Value→Hp→Prop,(∀out ro' l' V' dO bG tN vo fo H',pe H ro B.n B.fb B.tb B.c C w H' ro' l' V' dO bG tN (.slice none 0 0) (.slice none 0 0) [] []→Sl H' 1 vo out.length (out.map i64) fo→(∀z,fo=some z→H.size≤z∧ro' z= .no)→jz (aG w) lt dO bG (ay rows g []) (out++W0)→E7 dO out→(∀c∈out,aG w c=g)→(∀z∈W0,dO z=ch z)→K (.tuple [vo,.bool true].toArray) H')→
   af Tryz.prog kK [ptr B.fb,.iface 198 (ptr B.n),.slice va (rows g).length vc,.slice aL L.length cL] H K:=fun K hK=>by
  refine(Dd h0 aO f1 (f.rr g) hL (fun c hc=>by rcases hc with h|h;exact sV c h;exact hg c h)).mono ?_
  rintro _ H' ⟨out,ro',l',V',dO,bG,tN,vo,fo,rfl,h1,h2,h3,h4,h5,h6,h7⟩
  exact hK out ro' l' V' dO bG tN vo fo H' h1 h2 h3 h4 h5 h6 h7
 refine EN.intro ?A ?B
 case' A=>
  refine v1 (ae o1) ?_
  refine And.intro o1 ?_
  refine v1 (ae o1) ?_
  refine And.intro o1 ?_
  refine vs ?_
  refine⟨⟨by omega,by omega⟩,?_⟩
  refine v4 (ae q1) aoi aol q2 ?_
  refine And.intro o1 ?_
  refine vs ?_
 case' B=>
  refine v1 (ae o1) ?_
  refine And.intro o1 ?_
  refine vs ?_
  refine⟨⟨by omega,by omega⟩,?_⟩
  refine vs ?_
  refine EN.intro ?C ?D
  case' C=>
   refine v1 (ae o1) ?_
   refine And.intro o1 ?_
   refine v4 (ae q1) aoi aol q2 ?_
   refine And.intro o1 ?_
   refine vs ?_
  case' D=>
   refine v4 (ae q1) aoi aol q2 ?_
   refine And.intro o1 ?_
   refine v1 (ae o1) ?_
   refine And.intro o1 ?_
   refine vs ?_
 all_goals
  refine key _ fun out n9 l2 V2 lF jr DG vo fo2 H2 h2 DK QU f2 r2 g2 w2=>?_
  obtain⟨vb,vc2,rfl⟩:=Sl.shape DK
  have m2:=m.Sw h2.m h2.cq h2.rk h2.hz h2.e
  obtain⟨lb2,tc2,sv2,o2,q3,q4,alD,_,_⟩:=m2.LV yu
  have o2':H2.own B.n=some [ptr B.c,ptr B.fb,.slice (some ⟨B.rp,0,none⟩) cS.length tc]:=h2.e.own o1 (fun hc=>by
   rcases hc with (hc| ⟨x,hc⟩)|hc<;>(rw[m.rn]at hc;cases hc))
  refine And.intro o2' ?_
  refine vs ?_
  refine⟨⟨by omega,by omega⟩,?_⟩
  refine v3 q3 aoi aol ?_
  refine⟨by omega,?_⟩
  obtain⟨m3,e3,TA⟩:=m2.VK yu (ag.refl _ _) q3 DK (fun b hb=>.inl (QU b hb).2)
  refine vs ?_
  have hnr:B.n≠B.rp:=fun e=>by have:=m2.rn;rw[e,m2.rr]at this;cases this
  refine And.intro (((ag.refl (fun z=>z=B.rp) _).wr (fun _=>rfl) _:ag (fun z=>z=B.rp) H2 _).own o2' hnr) ?_
  refine vs ?_
  have f3:=f2.row (g:=g) (by unfold ay;rw[if_pos rfl]) r2 g2
  rw[eB]at f3
  have NO:∀z,dG n9 z→dG ro z∨H.size≤z:=fun z hz=>by
   by_cases OI:z<H.size
   ·refine .inl fun h=>hz ?_
    exact h2.rk.none OI h
   ·exact .inr (by omega)
  refine⟨_,l2,V2,lF,jr,DG,_,_,_,m3,f3,aok ..,w2,fun z hz=>?_,?_⟩
  ·rcases TA z hz with h|h
   ·exact NO z h
   ·exact .inr (QU z h).1
  ·have e2:ag (dG ro) H H2:=h2.e.mono fun z _ h=>by
    rcases h with (h| ⟨x,h⟩)|h<;>exact fk h nofun
   exact⟨apb e2.size e3.size,fun z hz hn=>by
    rw[e3.aM z (aoH hz e2.size) (fun h=>by
     rcases NO z h with h|h
     ·exact hn h
     ·omega),e2.aM z hz hn]⟩
end
end Go.Proofs.YtjlnnljohemifaaGreat

namespace Go.Proofs.YtjlnnljohemifaaGreat
open Go Go.Vc
def gE(n:Nat)(H:Hp)(S:Nat→Prop)(w:Nw):Prop:=∃ (B:Zz) (ro:Nat→Rl) (C:Nat→Prop) (l:List Value) (V:Int→Value) (ch:Int→List Int) (par:Int→Int) (kb:Int→Option Nat) (cS:List Value) (rows:Int→List Int) (rb:Int→Option Nat),
 B.n=n∧u0 H ro B C w l V ch par kb cS rows rb∧jz (aG w) (aQ w) ch par rows []∧cS.length=w.hs.length∧∀z,S z↔dG ro z
theorem gE.slt{n:Nat}{H:Hp}{S:Nat→Prop}{w:Nw}(h:gE n H S w):∀z,S z→z<H.size:=by
 obtain⟨B,ro,C,l,V,ch,par,kb,cS,rows,rb,rfl,m,f,hl,hS⟩:=h
 exact fun z hz=>m.slt z ((hS z).1 hz)
theorem gE.ext{n:Nat}{H H':Hp}{S T:Nat→Prop}{w:Nw}(h:gE n H S w)(e:ag T H H')(hd:∀z,S z→¬T z):gE n H' S w:=by
 obtain⟨B,ro,C,l,V,ch,par,kb,cS,rows,rb,rfl,m,f,hl,hS⟩:=h
 exact⟨B,ro,C,l,V,ch,par,kb,cS,rows,rb,rfl,m.ext e (fun z hz=>hd z ((hS z).2 hz)),f,hl,hS⟩
section
variable {H H' : Hp} {ro ro' : Nat → Rl} {B : Zz} {C T : Nat → Prop} {w w' : Nw} {l l' : List Value} {V V' : Int → Value} {ch dO : Int → List Int} {par bG : Int → Int} {kb tN : Int → Option Nat} {cS : List Value} {rows : Int → List Int} {rb : Int → Option Nat} {lt : Int → Int → Bool} {W W0 L : List Int}
theorem u0.Sx(m:u0 H ro B C w l V ch par kb cS rows rb)(hl:cS.length=w.hs.length){g:Int}(h:w.has g):0≤g∧g<cS.length:=by
 have h1:=h.1
 have:=(aoj.1 h.2).1
 omega
theorem JW(m:u0 H ro B C w l V ch par kb cS rows rb)(f:jz (aG w) lt ch par rows W)(hl:cS.length=w.hs.length)(g:Int):af Tryz.prog ww [ptr B.n,i64 g] H fun v H'=>aw ((∃o,Sl H 1 v (rows g).length ((rows g).map i64) o∧∀b,o=some b→b<H.size∧¬KC ro b)∧H'=H):=by
 obtain⟨tv,ho,_⟩:=m.own
 refine bv wY ?_
 refine v1 (ae ho) ?_
 refine(iH m.cells g).mono ?_
 rintro _ _ ⟨rfl,rfl⟩
 refine vs ?_
 by_cases hg:w.has g
 ·rw[aow hg]
  have yu:=m.Sx hl hg
  obtain⟨lb,tc,sv,o1,q1,q2,DB,_,s2⟩:=m.LV yu
  refine v1 (ae o1) ?_
  refine⟨⟨by omega,by omega⟩,?_⟩
  refine v4 (ae q1) aoi aol q2 ?_
  refine⟨⟨rb g,s2,fun b hb=>?_⟩,rfl⟩
  have h5:=m.mK g b yu.1 yu.2 hb
  refine⟨m.slt b (fk h5 nofun),fun hc=>?_⟩
  rcases hc with (hc| ⟨x,hc⟩)|hc<;>(rw[h5]at hc;cases hc)
 ·rw[aoJ hg]
  refine vs ?_
  have hr:rows g=[]:=by
   cases hc:rows g with
   |nil=>rfl
   |cons c r=>
    obtain⟨h1,_,h2,_⟩:=f.rm g c (by rw[hc];simp)
    have:=((m.cells.hm c).2 (by omega)).1
    rw[h1]at this
    exact absurd this hg
  rw[hr]
  exact⟨⟨none,Sl.nil _ _,nofun⟩,rfl⟩
theorem jz.root(f:jz (aG w) (aQ w) ch par rows []){y g:Int}(hg:0<g)(hy:aG w y=g):∃r∈rows g,r=y∨aQ w r y=true:=by
 obtain⟨r,h1,h2,h3⟩:=f.pr.root (au w) (n:=w.cs.length) (fun x h=>uT x h) _ (aov _) (x:=y) (by omega)
 rcases f.jy r (by omega) h2 with h|h
 ·rw[h1,hy]at h
  exact⟨r,h,h3⟩
 ·cases h
theorem BH{n:Nat}{H:Hp}{S:Nat→Prop}{w:Nw}(h:gE n H S w)(g:Int):af Tryz.prog lU [ptr n,i64 g] H fun v H'=>aw (
  (w.len g=0∧v= .tuple [i64 0,.bool false].toArray∧gE n H' S w∧ag S H H')∨(∃x,w.first g x∧v= .tuple [i64 x,.bool true].toArray∧gE n H' S w∧ag S H H')):=by
 obtain⟨B,ro,C,l,V,ch,par,kb,cS,rows,rb,rfl,m,f,hl,hS⟩:=id h
 have xt:=m.cells.Ef
 refine bv wV ?_
 refine vs ?_
 refine(JW m f hl g).mono ?_
 rintro _ H' ⟨⟨o,s,hso⟩,e⟩
 obtain rfl:=e.symm
 obtain⟨va,vc,rfl⟩:=Sl.shape s
 refine vs ?_
 refine am.dec (fun h0=>?_) (fun h0=>?_)<;>refine vs ?_
 ·refine .inl ⟨?_,rfl,h,ag.refl _ _⟩
  have hr:rows g=[]:=aoR.1 (by omega)
  by_cases hg:0<g
  ·rw[uG hg]
   intro x hx
   obtain⟨r,vT,_⟩:=f.root hg hx
   rw[hr]at vT
   cases vT
  ·exact Nw.HP.2 (.inl (by omega))
 obtain⟨x,R,hr⟩:∃x R,rows g=x::R:=apD (fun e=>h0 (by rw[e];rfl))
 have Tr:∀c∈rows g,aG w c=g∧0<g:=fun c hc=>by
  obtain⟨h1,_,h2,_⟩:=f.rm g c hc
  exact⟨h1,h2⟩
 have RR:=(Tr x (by rw[hr];simp)).2
 rw[hr]at s Tr
 have Zp:(rows g).length=(x::R).length:=by rw[hr]
 rw[Zp]
 have oQ:(x::R).length=R.length+1:=aoD
 have hsB:=s
 have aZ:=bZ (f.rr g).nodup fun c hc=>uT (w:=w) c (by have:=Tr c (by rw[←hr];exact hc);omega)
 rw[hr]at aZ
 obtain⟨b,lb,c,yg,rfl,qb,qc,_,DB,_⟩:=Sl.Us s (i:=0) (x:=x) rfl
 injection yg with h1 h2 h3
 subst h1 h3
 have eW:=ae qb
 obtain⟨_,Vx,c',eK,q2,GR,WN,PV⟩:=id s
 injection eK with _ _ eK
 subst eK
 rw[qb]at q2
 injection q2 with q2
 subst q2
 rw[aol]at WN PV
 refine⟨⟨by omega,by omega⟩,?_⟩
 refine v5 eW qc Int.toNat_zero ao0 Nat.add_zero ?_
 refine⟨⟨by omega,by omega,by omega,by omega⟩,?_⟩
 refine vs ?_
 have yu:=m.Sx hl ((m.cells.hm x).2 (by have:=Tr x (by simp);omega)).1
 rw[(Tr x (by simp)).1]at yu
 have hrB:Gi H ro H.size (.slice (some ⟨b,0,none⟩) (x::R).length vc) (x::R):=Sl.rdB s hso
 obtain⟨a',hv,_,_,_⟩:=qF s.rd (lo:=1) (hi:=R.length+1) (lo':=1) (hi':=((R.length+1:Nat):Int)) rfl rfl (by omega) (by omega) (by omega)
 have hB:Gi H ro H.size (.slice a' R.length (vc - 1)) R:=by
  rw[show R.length=R.length+1 - 1 by omega,←hv]
  exact hrB.tail _
 rw[hv,show((R.length+1:Nat):Int).toNat - Int.toNat 1=R.length by simp,Nat.add_sub_cancel]
 refine aX.intro (fun mm env H'=>∃ (j:Nat) (bV:Int),mm=R.length - j∧j≤R.length∧CQ H' B.c C w∧ag C H H'∧bV∈x::R.take j∧(∀c∈x::R.take j,c≠bV→aQ w bV c=true)∧
  env=[(0,ptr B.n),(7,i64 bV),(20,.slice a' R.length (vc - 1)),(21,i64 R.length),(22,i64 j)]) R.length ⟨0,x,rfl,by omega,m.cells,ag.refl _ _,by simp,by simp,rfl⟩ ?_
 rintro mm env H1 ⟨j,bV,rfl,hj,c1,e1,Lm,oR,rfl⟩
 have m1:=m.aJ c1 e1 rfl
 obtain⟨CR,o1,_⟩:=m1.own
 refine vs ?_
 refine am.dec (fun aO=>?_) (fun aO=>?_)<;>refine vs ?_
 ·have fS:j<R.length:=by omega
  obtain⟨y,hy⟩:∃y,R[j]? =some y:=⟨_,aoh fS⟩
  have hB1:=hB.ext e1 (fun z _ hk hc=>hk (.inr (m.hC z hc))) (ro':=ro) (fun _ _ h=>h)
  obtain⟨_,b2,o2,lb2,rfl,q2,q3⟩:=cO.num hB1.rd hy
  refine⟨⟨by omega,by omega⟩,?_⟩
  refine v5 q2 aol Int.toNat_natCast q3 (ae o1) ?_
  refine(cF c1 y bV).mono ?_
  rintro _ H2 ⟨rfl,c2,e2⟩
  have hym:y∈x::R:=aoQ _ (aon hy)
  have EZ:bV∈x::R:=by
   rcases aot.1 Lm with h|h
   ·rw[h];simp
   ·exact aoQ _ (List.mem_of_mem_take h)
  have DQ:=Tr y hym
  have VL:=Tr bV EZ
  rw[gS (w:=w) (a:=y) (b:=bV) (by omega) (by omega)]
  have tk:R.take (j+1)=R.take j++[y]:=by rw[aoT,hy];rfl
  cases hyb:aQ w y bV
  ·refine vs ?_
   rw[wrap64 (n:=(j:Int)+1) (by omega) (by omega)]
   refine⟨R.length - (j+1),by omega,j+1,bV,rfl,by omega,c2,e1.trans e2,?_,fun c hc aP=>?_,rfl⟩
   ·rw[tk,←apt];exact aoy _ Lm
   ·rw[tk,←apt]at hc
    rcases aou.1 hc with hc|hc
    ·exact oR c hc aP
    ·rw[aoq.1 hc]at aP ⊢
     exact((au w).OD bV y (Ne.symm aP)).resolve_right (by rw[hyb];simp)
  ·refine vs ?_
   rw[wrap64 (n:=(j:Int)+1) (by omega) (by omega)]
   refine⟨R.length - (j+1),by omega,j+1,y,rfl,by omega,c2,e1.trans e2,?_,fun c hc aP=>?_,rfl⟩
   ·rw[tk];simp
   ·rw[tk,←apt]at hc
    rcases aou.1 hc with hc|hc
    ·by_cases e:c=bV
     ·rw[e];exact hyb
     ·exact(au w).tr _ _ _ hyb (oR c hc e)
    ·exact absurd (aoq.1 hc) aP
 ·obtain rfl:j=R.length:=by omega
  rw[aoP]at Lm oR
  refine .inr ⟨bV,?_,rfl,⟨B,ro,C,l,V,ch,par,kb,cS,rows,rb,rfl,m1,f,hl,hS⟩,e1.mono fun z _ hz=>(hS z).2 (fk (m.hC z hz) nofun)⟩
  rw[bM]
  refine⟨RR,(Tr bV Lm).1,fun y hy aP=>?_⟩
  obtain⟨r,Ia,vT⟩:=f.root RR hy
  rw[hr]at Ia
  by_cases e:r=bV
  ·rw[e]at vT
   exact vT.resolve_left (fun e2=>aP e2.symm)
  ·have h5:=oR r Ia e
   rcases vT with h6|h6
   ·rw[←h6];exact h5
   ·exact(au w).tr _ _ _ h5 h6
end
end Go.Proofs.YtjlnnljohemifaaGreat

namespace Go.Proofs.YtjlnnljohemifaaGreat
open Go Go.Vc
section
variable {H H' : Hp} {ro ro' : Nat → Rl} {B : Zz} {C T : Nat → Prop} {w w' : Nw} {l l' : List Value} {V V' : Int → Value} {ch dO : Int → List Int} {par bG : Int → Int} {kb tN : Int → Option Nat} {cS : List Value} {rows : Int → List Int} {rb : Int → Option Nat} {lt : Int → Int → Bool} {W W0 L : List Int}
theorem EF{n:Nat}{H:Hp}{S:Nat→Prop}{w:Nw}(h:gE n H S w)(g x k s:Int):af Tryz.prog iY [ptr n,i64 g,i64 x,tL k s] H fun v H'=>aw (
  (¬w.lN g x∧v= .bool false∧cB (gE n) S H H' w)∨(w.lN g x∧v= .bool true∧cB (gE n) S H H' (w.put x (g,k,s)))):=by
 obtain⟨B,ro,C,l,V,ch,par,kb,cS,rows,rb,rfl,m,f,hl,hS⟩:=h
 have hC:∀z,C z→S z:=fun z h=>(hS z).2 (fk (m.hC z h) nofun)
 refine bv rD ?_
 refine vs ?_
 have f0:ah H (H.new 224 [i64 k,u64 s]):=(ag.refl _ _).new _ _
 have b0:(H.new 224 [i64 k,u64 s]).own H.size=some [i64 k,u64 s]:=az _ _ _
 have m0:=m.fresh f0
 generalize H.new 224 [i64 k,u64 s]=H0 at*
 have ff:ag S H H0:=f0.mono fun _ _ h=>h.elim
 obtain⟨tv,HT,_⟩:=m0.own
 refine v2 (ae HT) (ae b0) ?_
 refine(kZ m0.cells g x k s).mono ?_
 rintro _ H1 (⟨bO,rfl,c1,e1⟩| ⟨qw,rfl,c1,e1⟩)
 ·refine vs ?_
  exact .inl ⟨bO,rfl,cB.same ⟨B,ro,C,l,V,ch,par,kb,cS,rows,rb,rfl,m0.aJ c1 e1 rfl,f,hl,hS⟩ (ff.trans (e1.mono fun z _ hz=>hC z hz))⟩
 obtain⟨hh,hx,bJ⟩:=id qw
 have m1:=m0.aJ c1 e1 (by simp[Nw.put])
 have hg:=hh.1
 have dk:=m.Sx hl hh
 have cN:=fun y=>dV hx (g,k,s) y
 have gf:aG w x≤0:=Int.not_lt.1 fun h=>bJ (bz.1 h)
 have el:∀a b,0<aG w a→0<aG w b→a≠x→b≠x→aQ (w.put x (g,k,s)) a b=aQ w a b:=fun a b ha hb tS mq=>dw hx _ ha hb tS mq
 obtain⟨f1,_⟩:=f.put (hm':=aG (w.put x (g,k,s))) (lt':=aQ (w.put x (g,k,s))) (g:=g) rfl gf (by omega) (by omega) (by rw[cN,if_pos rfl]) (fun y hy=>by rw[cN,if_neg hy]) el
 refine vs ?_
 have f2:ah H1 (H1.new 3 [i64 x]):=(ag.refl _ _).new _ _
 have m2:=m1.fresh f2
 have s2:Sl (H1.new 3 [i64 x]) 1 (.slice (some ⟨H1.size,0,none⟩) 1 1) [x].length ([x].map i64) (some H1.size):=Sl.bU (size:=1) (n:=1) (xs:=[i64 x]) rfl rfl
 have z2:(H1.new 3 [i64 x]).size=H1.size+1:=ap _ _ _
 have Tt:Gi (H1.new 3 [i64 x]) ro (H1.new 3 [i64 x]).size (.slice (some ⟨H1.size,0,none⟩) 1 1) [x]:=Sl.rdB s2 fun b hb=>by
  injection hb with hb
  subst hb
  refine⟨by omega,fun hc=>?_⟩
  have:=m1.hz H1.size (aov _)
  rcases hc with (hc| ⟨x,hc⟩)|hc<;>(rw[this]at hc;cases hc)
 generalize H1.new 3 [i64 x]=H2 at*
 refine(BG m2 Tt (fun _ _ h=>h) (W0:=[]) f1 (List.pairwise_singleton _ _) (fun c hc=>by rw[aoq.1 hc,cN,if_pos rfl]) dk).mono ?_
 rintro _ H3 ⟨Qn,l3,V3,MJ,oZ,XE,agA,BI,rb3,m3,f3,RN,_,TA,e3⟩
 refine vs ?_
 have eS:ag S H H2:=(ff.trans (e1.mono fun z _ h=>hC z h)).trans (f2.mono fun _ _ h=>h.elim)
 have z1:=eS.size
 refine .inr ⟨qw,rfl,dG Qn,⟨B,Qn,C,l3,V3,MJ,oZ,XE,agA,BI,rb3,rfl,m3,f3,by rw[RN,hl];rfl,fun z=>Iff.rfl⟩,eS.trans (e3.mono fun z _ h=>(hS z).2 h),fun z hz=>?_⟩
 rcases TA z hz with h|h
 ·exact .inl ((hS z).2 h)
 ·exact .inr (by omega)
theorem jz.Uw{hm:Int→Int}(f:jz hm lt ch par rows W)(x:Int):E7 ch (ch x):=by
 unfold E7
 rw[List.pairwise_iff_getElem]
 intro i j hi hj Km
 rw[f.dg x i _ (aoh hi),f.dg x j _ (aoh hj)]
 exact Km
theorem jz.Ux{hm:Int→Int}(f:jz hm lt ch par rows []){x g:Int}(hx:x∈rows g):jz hm lt ch par (ay rows g ((rows g).filter fun y=> !decide (x=y))) [x]:=by
 have hn:=(f.rr g).nodup
 have hp:(rows g++[]).Perm (((rows g).filter fun y=> !decide (x=y))++[x]):=by
  rw[apa]
  refine(List.perm_ext_iff_of_nodup hn ?_).2 fun y=>?_
  ·rw[ao2]
   refine⟨hn.filter _,by simp,fun u hu v hv e=>?_⟩
   rw[ao9]at hu
   rw[aoq.1 hv]at e
   simp[e]at hu
  ·rw[aou,ao9,aoq]
   by_cases h:x=y
   ·simp[←h,hx]
   ·simp[h,Ne.symm h]
 have f2:=((f.loose g).perm hp).row (g:=g) (by unfold ay;rw[if_pos rfl]) ((f.rr g).sub List.filter_sublist) (fun c hc=>(f.rm g c (ao9.1 hc).1).1)
 rwa[eB]at f2
theorem EG{H:Hp}{bx:Nat}{x:Int}(hb:H.own bx=some [i64 x])(y:Int):af Tryz.prog iZ [i64 y,ptr bx] H fun v H'=>aw (v= .bool (decide (x=y))∧H'=H):=by
 refine vB mixed (an:=rF) (by conv=>lhs;cbv) (nt:=7) (by kernel_rfl) (by simp) ?_
 refine v1 (ae hb) ?_
 exact⟨rfl,rfl⟩
theorem Ij(m:u0 H ro B C w l V ch par kb cS rows rb)(aO:∀a b,aQ w a b=true→lt a b=true)(f:jz (aG w) lt ch par rows []){x g:Int}(uN:x∈rows g)(yu:0≤g∧g<cS.length)(abG:∀a b,0<aG w a→0<aG w b→a≠x→b≠x→lt a b=true→aQ (w.put x (0,0,0)) a b=true):
  af Tryz.prog ua [ptr B.n,i64 g,i64 x] H fun v H'=>aw (v= .bool true∧∃ro' l' V' dO bG tN NJ jV rb',u0 H' ro' B C (w.put x (0,0,0)) l' V' dO bG tN NJ jV rb'∧jz (aG (w.put x (0,0,0))) (aQ (w.put x (0,0,0))) dO bG jV []∧NJ.length=cS.length∧
   (∀z,dG ro' z→dG ro z∨H.size≤z)∧ag (dG ro) H H'):=by
 obtain⟨OS,Kt,RR,_⟩:=f.rm g x uN
 have gf:=uT (w:=w) x (by omega)
 have xt:=m.cells.Ef
 have aZ:=bZ (f.rr g).nodup fun c hc=>uT (w:=w) c (by have:=f.rm g c hc;omega)
 refine Fa ul ⟨rfl,?_⟩
 refine v1 kP.eq_1 ?_
 have f0:ah H (H.new 3 [i64 x]):=(ag.refl _ _).new _ _
 have b0:(H.new 3 [i64 x]).own H.size=some [i64 x]:=az _ _ _
 have z0:(H.new 3 [i64 x]).size=H.size+1:=ap _ _ _
 have m0:=m.fresh f0
 generalize H.new 3 [i64 x]=H0 at*
 obtain⟨lb,tc,sv,o1,q1,q2,DB,_,s2⟩:=m0.LV yu
 obtain⟨va,vc,rfl⟩:=Sl.shape s2
 refine jB.intro (fun H'=>H'.own B.n=some [ptr B.c,ptr B.fb,.slice (some ⟨B.rp,0,none⟩) cS.length tc]) o1 ?_
 refine vs ?_
 refine fJ.intro (.slice (some ⟨B.rp,0,none⟩) cS.length tc) (fun H' hI=>by refine v1 (ae hI) ?_;trivial) ?_
 refine v1 (ae o1) ?_
 refine And.intro o1 ?_
 refine vs ?_
 refine⟨⟨by omega,by omega⟩,?_⟩
 refine v4 (ae q1) aoi aol q2 ?_
 refine And.intro o1 ?_
 refine vs ?_
 have JX:∀b,rb g=some b→ro b= .row g:=fun b hb=>m.mK g b yu.1 yu.2 hb
 refine(CT s2 iZ [ptr H.size] (fun y=>decide (x=y)) (by kernel_rfl) (fun H' e' y=>EG (e'.own b0 (fun hh=>by have:=m.slt _ (fk (JX _ hh) nofun);omega)) y) (by omega)).mono ?_
 rintro _ H1 ⟨s3,e1⟩
 obtain⟨va',VG,rfl⟩:=Sl.shape s3
 have abH:∀z q,ro z=q→q≠ .row g→¬rb g=some z:=fun z q h1 h2 h3=>h2 (by rw[←h1,JX z h3])
 have o2:=e1.own o1 (abH _ _ m.rn nofun)
 have q3:=e1.own q1 (abH _ _ m.rr nofun)
 refine And.intro o2 ?_
 refine vs ?_
 refine⟨⟨by omega,by omega⟩,?_⟩
 refine v3 q3 aoi aol ?_
 refine⟨by omega,?_⟩
 obtain⟨m2,e2,vT⟩:=m0.VK yu e1 q3 s3 (fun b hb=>.inr (JX b hb))
 have hnr:B.n≠B.rp:=fun e=>by have:=m.rn;rw[e,m.rr]at this;cases this
 refine vs ?_
 refine And.intro o2 ?_
 have XF:¬dG ro H.size:=fun h=>by have:=m.slt _ h;omega
 have b2:=e2.own b0 XF
 have z2:=e2.size
 have f2:=f.Ux uN
 generalize H1.wr B.rp (lb.set g.toNat (Value.slice va' ((rows g).filter fun y=> !decide (x=y)).length VG))=H2 at*
 obtain⟨n9,agB⟩:∃n9:Nat→Rl,n9=fun z=>if rb g=some z then Rl.row g else ro z:=⟨_,rfl⟩
 rw[←agB]at m2 vT
 have XG:∀z,dG n9 z→dG ro z:=fun z hz=>(vT z hz).elim id fun h=>fk (JX z h) nofun
 obtain⟨No,o3,_⟩:=m2.own
 refine v2 (ae o3) (ae b2) ?_
 have nU:(ch x).length≤w.cs.length:=bZ (f.pr.nd x) fun c hc=>m.fo.GV x c hc
 refine(Db m2.fo m2.hz gf Kt (by omega)).mono ?_
 rintro sv H3 ⟨Qn,l3,V3,XE,fp3,fo3,r3,MH,e3,s4,fZ⟩
 have z3:=e3.size
 have m3:=m2.Sw fo3 (m2.cells.ext e3 (fun z hz hk=>by
  have:=m2.hC z hz
  rcases hk with hk| ⟨_,hk⟩<;>(rw[this]at hk;cases hk))) r3 MH (e3.mono fun z _ h=>.inl h)
 have f3:=f2.split.perm (show(x::(ch x++[])).Perm (ch x++[x]) by
  rw[apa]
  exact apf (l₁:=[x]) (l₂:=ch x))
 have Ko:x∉ch x:=fun h=>by have:=f.less h;omega
 have Tt:Gi H3 Qn H3.size sv (ch x):=Sl.rdB s4 fun b hb=>by
  rw[hb]at s4
  refine⟨Sl.lt s4,fun hc=>?_⟩
  have:=(fZ b hb).2
  rcases hc with (hc| ⟨x,hc⟩)|hc<;>(rw[this]at hc;cases hc)
 have agD:0≤g∧g< ((cS.set g.toNat (Value.slice va' ((rows g).filter fun y=> !decide (x=y)).length VG)).length:Int):=by rw[aok];exact yu
 refine(BG m3 Tt aO f3 ((f.Uw x).frame fun c hc=>by unfold ay;rw[if_neg (fun e=>Ko (by have h7:=hc;rw[e]at h7;exact h7))]) (fun c hc=>by
  have:=(f.pr.dn x c hc).2.2.1
  omega) agD).mono ?_
 rintro _ H4 ⟨ro4,l4,V4,Ur,JR,kb4,agF,abI,rb4,m4,f4,Ui,w4,hr4,e4⟩
 have XH:∀z,dG Qn z→dG ro z∨H.size+1≤z:=fun z hz=>by
  by_cases OI:z<H2.size
  ·refine .inl (XG z fun h=>hz ?_)
   exact r3.none OI h
  ·exact .inr (by omega)
 have T1:¬dG Qn H.size:=fun h=>by
  rcases XH _ h with h|h
  ·exact XF h
  ·omega
 have agG:¬KB n9 H.size:=fun h=>XF (XG _ (by rcases h with h| ⟨_,h⟩<;>exact fk h nofun))
 have b4:=e4.own (e3.own b2 agG) T1
 obtain⟨tv4,o5,_⟩:=m4.own
 refine v2 (ae o5) (ae b4) ?_
 refine(ci m4.cells x).mono ?_
 have bJ:cY w.cs x:=bz.1 (by omega)
 rintro _ H5 (⟨bO,_,_⟩| ⟨_,rfl,c5,e5⟩)
 ·exact absurd bJ bO
 have m5:=m4.aJ c5 e5 (by simp[Nw.put])
 refine vs ?_
 have cN:=fun y=>dV (w:=w) gf (0,0,0) y
 have f5:=f4.drop (hm':=aG (w.put x (0,0,0))) (lt':=aQ (w.put x (0,0,0))) (by
  rw[w4 x (by simp)]
  unfold ay
  rw[if_pos rfl]) rfl (by rw[cN,if_pos rfl]) (fun y hy=>by rw[cN,if_neg hy]) abG
 have z4:=e4.size
 have abJ:∀z,dG ro4 z→dG ro z∨H.size+1≤z:=fun z hz=>by
  rcases hr4 z hz with h|h
  ·exact XH z h
  ·exact .inr (by omega)
 refine⟨rfl,ro4,l4,V4,Ur,JR,kb4,agF,abI,rb4,m5,f5,by rw[Ui,aok],fun z hz=>?_,?_⟩
 ·rcases abJ z hz with h|h
  ·exact .inl h
  ·exact .inr (by omega)
 ·refine⟨by have:=e5.size;omega,fun z hz hn=>?_⟩
  rw[e5.aM z (by omega) (fun h=>by
   rcases abJ z (fk (m4.hC z h) nofun)with h|h
   ·exact hn h
   ·omega),e4.aM z (by omega) (fun h=>by
   rcases XH z h with h|h
   ·exact hn h
   ·omega),e3.aM z (by omega) (fun h=>hn (XG z (by rcases h with h| ⟨_,h⟩<;>exact fk h nofun))),e2.aM z (by omega) (fun h=>hn h),f0.aM z hz (fun h=>h)]
theorem Dg{n:Nat}{H:Hp}{S:Nat→Prop}{w:Nw}(h:gE n H S w)(g:Int):af Tryz.prog iu [ptr n,i64 g] H fun v H'=>aw (
  (w.len g=0∧v= .tuple [i64 0,.bool false].toArray∧cB (gE n) S H H' w)∨(∃x,w.first g x∧v= .tuple [i64 x,.bool true].toArray∧cB (gE n) S H H' (w.put x (0,0,0)))):=by
 refine bv pY ?_
 refine vs ?_
 refine(BH h g).mono ?_
 rintro _ H1 (⟨h0,rfl,h1,e1⟩| ⟨x,hx,rfl,h1,e1⟩)
 ·refine vs ?_
  exact .inl ⟨h0,rfl,cB.same h1 e1⟩
 refine vs ?_
 obtain⟨B,ro,C,l,V,ch,par,kb,cS,rows,rb,rfl,m,f,hl,hS⟩:=h1
 obtain⟨hg,OS,mF⟩:=bM.1 hx
 have uN:x∈rows g:=by
  obtain⟨r,Ia,vT⟩:=f.root hg OS
  rcases vT with h|h
  ·rw[←h];exact Ia
  ·by_cases e:r=x
   ·rw[←e];exact Ia
   ·have h2:=mF r (f.rm g r Ia).1 e
    rw[(au w).asym h2]at h
    cases h
 have gf:=uT (w:=w) x (by omega)
 have yu:=m.Sx hl ((m.cells.hm x).2 (by omega)).1
 rw[OS]at yu
 refine(Ij m (fun _ _ h=>h) f uN yu (fun a b ha hb tS mq h=>by rw[dw gf _ ha hb tS mq];exact h)).mono ?_
 rintro _ H2 ⟨rfl,n9,l2,V2,lF,jr,DG,agH,abK,rb2,m2,f2,oJ,vT,e2⟩
 refine vs ?_
 have z1:=e1.size
 refine .inr ⟨x,hx,rfl,dG n9,⟨B,n9,C,l2,V2,lF,jr,DG,agH,abK,rb2,rfl,m2,f2,by rw[oJ,hl];rfl,fun z=>Iff.rfl⟩,e1.trans (e2.mono fun z _ h=>(hS z).2 h),fun z hz=>?_⟩
 rcases vT z hz with h|h
 ·exact .inl ((hS z).2 h)
 ·exact .inr (by omega)
end
end Go.Proofs.YtjlnnljohemifaaGreat

namespace Go.Proofs.YtjlnnljohemifaaGreat
open Go Go.Vc
section
variable {H H' : Hp} {ro ro' : Nat → Rl} {B : Zz} {C T : Nat → Prop} {w w' : Nw} {l l' : List Value} {V V' : Int → Value} {ch dO : Int → List Int} {par bG : Int → Int} {kb tN : Int → Option Nat} {cS : List Value} {rows : Int → List Int} {rb : Int → Option Nat} {lt : Int → Int → Bool} {W W0 L : List Int}
theorem u0.abL(m:u0 H ro B C w l V ch par kb cS rows rb){g:Int}(hg:0≤g∧g<cS.length){H1:Hp}(e:ag (fun z=>rb g=some z) H H1){sv:Value}(yg:cS[g.toNat]? =some sv){L':List Int}(s:Sl H1 1 sv L'.length (L'.map i64) (rb g)):
  u0 H1 ro B C w l V ch par kb cS (ay rows g L') rb:=by
 obtain⟨tv,h1,h2⟩:=m.own
 have hs:=e.size
 have n0:∀z q,ro z=q→q≠ .row g→¬rb g=some z:=fun z q h1 h2 h3=>h2 (by rw[←h1,m.mK g z hg.1 hg.2 h3])
 refine⟨⟨tv,e.own h1 (n0 _ _ m.rn nofun),h2.ext e (fun b hb=>by injection hb with hb;subst hb;exact n0 _ _ m.rr nofun)⟩,fun k h0 h1=>?_,m.cells.ext e (fun z hz=>n0 z _ (m.hC z hz) nofun),m.fo.ext e (fun z hz=>by rcases hz with h|h| ⟨x,h⟩<;>exact n0 z _ h nofun),m.hC,m.rn,m.rr,m.mK,fun z hz=>m.hz z (by omega)⟩
 by_cases hk:k=g
 ·subst hk
  refine⟨sv,yg,?_⟩
  unfold ay
  rw[if_pos rfl]
  exact s
 ·obtain⟨VA,q1,q2⟩:=m.row k h0 h1
  refine⟨VA,q1,?_⟩
  unfold ay
  rw[if_neg hk]
  exact q2.ext e (fun b hb=>n0 b _ (m.mK k b h0 h1 hb) (fun e=>hk (by injection e)))
theorem Ik(m:u0 H ro B C w l V ch par kb cS rows rb){x g:Int}(f:MC (aG w) (aQ w) ch par rows [] x)(OS:aG w x=g)(RR:0<g)(yu:0≤g∧g<cS.length)(fid:FuncId)(qv:List Value)(q:Int→Bool)(J:Hp→Prop)(E:(Int→List Int)→Prop)(hJ:J H)
  (uE:∀H' GQ,J H'→ag (fun z=>dG ro z∧z≠B.n) H' GQ→J GQ)(Em:eF Tryz.prog fid=true)
  (hq:∀H' p,J H'→CQ H' B.c C w→0<aG w p→af Tryz.prog fid (i64 p::qv) H' fun v GQ=>aw (v= .bool (q p)∧CQ GQ B.c C w∧ag C H' GQ))(hE:E ch)
  (hEs:∀ (ch:Int→List Int) (par:Int→Int) (rows:Int→List Int) p,MC (aG w) (aQ w) ch par rows [] x→x∈ch p→q p=true→E ch→E (GP ch x p)):
  af Tryz.prog tZ [ptr B.n,i64 g,i64 x,.func (.func fid) #[] qv.toArray] H fun v H'=>aw (∃ro' l' V' dO bG tN jV,u0 H' ro' B C w l' V' dO bG tN cS jV rb∧MC (aG w) (aQ w) dO bG jV [] x∧E dO∧(bG x= -1∨q (bG x)=false)∧
   (∀z,dG ro' z→dG ro z)∧ag (dG ro) H H'):=by
 have ls:=au w
 have gf:=uT (w:=w) x (by omega)
 have xt:=m.cells.Ef
 refine bv uj ?_
 refine vs ?_
 refine aX.intro (fun mm env H'=>∃ (ro':Nat→Rl) (l':List Value) (V':Int→Value) (dO:Int→List Int) (bG:Int→Int) (tN:Int→Option Nat) (jV:Int→List Int),mm=w.cs.length - (dO x).length∧u0 H' ro' B C w l' V' dO bG tN cS jV rb∧MC (aG w) (aQ w) dO bG jV [] x∧E dO∧J H'∧
  (∀z,dG ro' z→dG ro z)∧ag (dG ro) H H'∧env=[(0,ptr B.n),(1,i64 g),(2,i64 x),(3,.func (.func fid) #[] qv.toArray)]) _ ⟨ro,l,V,ch,par,kb,rows,rfl,m,f,hE,hJ,fun _ h=>h,ag.refl _ _,rfl⟩ ?_
 clear m f hE hJ
 rintro mm env H1 ⟨Xt,l1,V1,O1,xB,Zu,oC,rfl,m1,f1,hE1,hJ1,Ia,e1,rfl⟩
 obtain⟨CR,o1,_⟩:=m1.own
 refine v1 (ae o1) ?_
 refine(oU m1.fo.t gf).mono ?_
 rintro _ H' ⟨⟨hp,rfl⟩| ⟨hp,rfl⟩,e⟩
 ·obtain rfl:=e.symm
  refine vs ?_
  exact⟨Xt,l1,V1,O1,xB,Zu,oC,m1,f1,hE1,.inl hp,Ia,e1⟩
 obtain rfl:=e.symm
 obtain⟨p,XI⟩:∃p,p=xB x:=⟨_,rfl⟩
 rw[←XI]at hp ⊢
 have Kt:=f1.w.pr.up x p XI.symm hp
 obtain⟨_,_,hpg,B0,_⟩:=f1.w.pr.dn p x Kt
 have fB:=f1.w.less Kt
 have hp0:=uT (w:=w) p (by omega)
 have aZ:∀z,(O1 z).length≤w.cs.length:=fun z=>bZ (f1.w.pr.nd z) fun c hc=>m1.fo.GV z c hc
 refine vs ?_
 refine⟨Em,?_⟩
 refine af.mono (by simpa using hq H1 p hJ1 m1.cells (by omega)) ?_
 rintro _ H2 ⟨rfl,c2,e2⟩
 have m2:=m1.aJ c2 e2 rfl
 have e2':ag (dG ro) H1 H2:=e2.mono fun z _ h=>Ia z (fk (m1.hC z h) nofun)
 have hJ2:=uE _ _ hJ1 (e2.mono fun z _ h=>⟨Ia z (fk (m1.hC z h) nofun),fun e=>by have:=m1.hC z h;rw[e,m1.rn]at this;cases this⟩)
 have pE:=e1.trans e2'
 cases hqp:q p
 ·refine vs ?_
  exact⟨Xt,l1,V1,O1,xB,Zu,oC,m2,f1,hE1,.inr (by rw[←XI];exact hqp),Ia,pE⟩
 obtain⟨No,o2,_⟩:=m2.own
 refine v1 (ae o2) ?_
 refine(oU m2.fo.t hp0).mono ?_
 have XJ:∀h,x∉oC h:=fun h hh=>hp (by rw[XI];exact(f1.w.rm h x hh).2.1)
 have Rh:xB p≠ -1→0≤xB p∧xB p<w.cs.length:=fun h=>by
  have:=(f1.w.pr.dn _ _ (f1.w.pr.up p _ rfl h)).2.2
  exact uT (w:=w) _ (by omega)
 have fin:∀ (H3:Hp) (BI:Int→List Int),u0 H3 Xt B C w l1 V1 O1 xB Zu cS BI rb→(∀h,BI h=(oC h).map (gW x p))→J H3→ag (dG ro) H H3→∀ (K:Value→Hp→Prop),(∀H4,(∃m',m'<w.cs.length - (O1 x).length∧∃ (ro':Nat→Rl) (l':List Value) (V':Int→Value) (dO:Int→List Int) (bG:Int→Int) (tN:Int→Option Nat) (jV:Int→List Int),m'=w.cs.length - (dO x).length∧u0 H4 ro' B C w l' V' dO bG tN cS jV rb∧MC (aG w) (aQ w) dO bG jV [] x∧E dO∧J H4∧
  (∀z,dG ro' z→dG ro z)∧ag (dG ro) H H4)→K (.bool true) H4)→af Tryz.prog lV [ptr B.fb,i64 x] H3 K:=fun H3 BI m3 Dz hJ3 e3 K hK=>by
  refine(EA m3.fo m3.hz f1.w gf hp0 Kt Rh xt).mono ?_
  rintro _ H4 ⟨rfl,ro4,l4,V4,kb4,fo4,r4,WR,e4,agJ⟩
  have m4:=m3.Sw fo4 (m3.cells.ext e4 (fun z hz hk=>by
   have:=m3.hC z hz
   rcases hk with hk| ⟨_,hk⟩<;>(rw[this]at hk;cases hk))) r4 WR (e4.mono fun z _ h=>.inl h)
  have e4':ag (dG ro) H3 H4:=e4.mono fun z _ h=>Ia z (by rcases h with h| ⟨_,h⟩<;>exact fk h nofun)
  have f4:=f1.up ls Kt
  have XK:(fun h=>(oC h).map (gW x p))=BI:=by funext h;exact(Dz h).symm
  rw[XK,List.map_nil]at f4
  have Ui:(GP O1 x p x).length=(O1 p).length:=by unfold GP;rw[kF,aoF]
  have:=aZ p
  have alP:=e4.size
  refine hK H4 ⟨w.cs.length - (GP O1 x p x).length,by omega,ro4,l4,V4,_,_,kb4,BI,rfl,m4,f4,hEs _ _ _ p f1 Kt hqp hE1,uE _ _ hJ3 (e4.mono fun z _ h=>⟨Ia z (by rcases h with h| ⟨_,h⟩<;>exact fk h nofun),fun e=>by rw[e]at h;rcases h with h| ⟨_,h⟩<;>(rw[m3.rn]at h;cases h)⟩),fun z hz=>?_,e3.trans e4'⟩
  exact Ia z fun h=>hz (agJ z h)
 rintro _ H' ⟨⟨Ps,rfl⟩| ⟨Ps,rfl⟩,e⟩
 ·obtain rfl:=e.symm
  have hpr:p∈oC g:=by
   rcases f1.w.jy p (by omega) Ps with h|h
   ·rw[hpg,OS]at h;exact h
   ·cases h
  obtain⟨lb,tc,sv,o3,q1,q2,DB,yg,s3⟩:=m2.LV yu
  obtain⟨k0,ZA,ek0⟩:=aqc.1 hpr
  obtain⟨b,lr,rc,rfl,Xz,qb,qk0,alQ,Ws,_⟩:=Sl.Us s3 (i:=k0) (x:=p) (by rw[aoh ZA,ek0])
  have Zp:=bZ (f1.w.rr g).nodup fun c hc=>uT (w:=w) c (by have:=f1.w.rm g c hc;omega)
  refine v1 (ae o3) ?_
  refine⟨⟨by omega,by omega⟩,?_⟩
  refine v5 (ae q1) aoi aol q2 (ae o3) ?_
  refine⟨⟨by omega,by omega⟩,?_⟩
  refine v4 (ae q1) aoi aol q2 ?_
  have gA:=(f1.w.rr g).nodup
  have abM:(oC g)[k0]? =some p:=by rw[aoh ZA,ek0]
  refine⟨i64 (k0:Int),(fD s3.rd p (by omega)).mono ?_,?_⟩
  ·rintro _ H' ⟨⟨j,rfl,hj⟩,e⟩
   obtain⟨hj0,hj⟩:=hj.resolve_left (fun h=>h.2 hpr)
   have Y2:=(aoj.1 hj).1
   have:=(List.getElem?_inj Y2 gA).1 (hj.trans abM.symm)
   exact⟨by rw[show j=(k0:Int) by omega],e⟩
  refine vs ?_
  refine⟨⟨by omega,by omega⟩,?_⟩
  refine v4 qb aoi aol Int.toNat_natCast ?_
  refine⟨by omega,?_⟩
  rw[Xz]at s3
  have s4:=s3.uC qb k0 (i64 x)
  have e3:ag (fun z=>rb g=some z) H2 (H2.wr b (lr.set k0 (i64 x))):=(ag.refl (fun z=>rb g=some z) _).wr (fun _=>Xz) _
  have Sm:(oC g).map (gW p x)=(oC g).map (gW x p):=aqf fun c _=>by
   unfold gW
   by_cases e1:c=x
   ·by_cases e2:c=p
    ·rw[if_pos e2,if_pos e1];exact e1▸e2▸rfl
    ·rw[if_neg e2,if_pos e1,if_pos e1]
   ·by_cases e2:c=p
    ·rw[if_pos e2,if_neg e1,if_pos e2]
    ·rw[if_neg e2,if_neg e1,if_neg e1,if_neg e2]
  rw[←ao4,JT gA (XJ g) abM,Sm]at s4
  have Xa:((oC g).map (gW x p)).length=(oC g).length:=aoF ..
  have m3:=m2.abL yu e3 yg (L':=(oC g).map (gW x p)) (by rw[Xz,Xa];exact s4)
  have Zc:ag (dG ro) H2 (H2.wr b (lr.set k0 (i64 x))):=e3.mono fun z _ h=>Ia z (fk (m2.mK g z yu.1 yu.2 h) nofun)
  obtain⟨Y9,o4,_⟩:=m3.own
  refine v1 (ae o4) ?_
  refine fin _ _ m3 (fun h=>?_) (uE _ _ hJ2 (e3.mono fun z _ h=>⟨Ia z (fk (m2.mK g z yu.1 yu.2 h) nofun),fun e=>by have:=m2.mK g z yu.1 yu.2 h;rw[e,m2.rn]at this;cases this⟩)) (pE.trans Zc) _ fun H4 hh=>?_
  ·unfold ay
   split
   ·rename_i e;rw[e]
   ·rename_i e
    exact(Ag (XJ h) (fun hh=>e (by rw[← (f1.w.rm h p hh).1,hpg,OS]))).symm
  obtain⟨m',hm',ro',l',V',dO,bG,tN,jV,h1,h2,h3,h4,h5,h6,h7⟩:=hh
  refine vs ?_
  exact⟨m',hm',ro',l',V',dO,bG,tN,jV,h1,h2,h3,h4,h5,h6,h7,trivial⟩
 ·obtain rfl:=e.symm
  have agK:∀h,p∉oC h:=fun h hh=>Ps (f1.w.rm h p hh).2.1
  refine v1 (ae o2) ?_
  refine fin H2 oC m2 (fun h=>(Ag (XJ h) (agK h)).symm) hJ2 pE _ fun H4 hh=>?_
  obtain⟨m',hm',ro',l',V',dO,bG,tN,jV,h1,h2,h3,h4,h5,h6,h7⟩:=hh
  refine vs ?_
  exact⟨m',hm',ro',l',V',dO,bG,tN,jV,h1,h2,h3,h4,h5,h6,h7,trivial⟩
end
end Go.Proofs.YtjlnnljohemifaaGreat

namespace Go.Proofs.YtjlnnljohemifaaGreat
open Go Go.Vc
theorem xI{H:Hp}{C:Nat→Prop}{w:Nw}{b3 b4 n c:Nat}{x:Int}{rest:List Value}(h3:H.own b3=some [ptr n])(h4:H.own b4=some [i64 x])(hn:H.own n=some (ptr c::rest))(cq:CQ H c C w){p:Int}(hx:0<aG w x)(hp:0<aG w p):
  af Tryz.prog fL [i64 p,ptr b3,ptr b4] H fun v H'=>aw (v= .bool (aQ w x p)∧CQ H' c C w∧ag C H H'):=by
 refine vB mixed (an:=nl) (by conv=>lhs;cbv) (nt:=12) (by kernel_rfl) (by simp) ?_
 refine v3 (ae h3) (ae h4) (ae hn) ?_
 refine(cF cq x p).mono ?_
 rintro _ H1 ⟨rfl,c1,e1⟩
 rw[gS (w:=w) (a:=x) (b:=p) hx hp]
 refine vs ?_
 exact⟨rfl,c1,e1⟩
theorem BJ{n:Nat}{H:Hp}{S:Nat→Prop}{w:Nw}(h:gE n H S w)(x k s:Int):af Tryz.prog gN [ptr n,i64 x,tL k s] H fun v H'=>aw (
  (¬w.db x k s∧v= .bool false∧cB (gE n) S H H' w)∨(w.db x k s∧v= .bool true∧∃y,w.cs[x.toNat]? =some y∧cB (gE n) S H H' (w.put x (y.1,k,s)))):=by
 obtain⟨B,ro,C,l,V,ch,par,kb,cS,rows,rb,rfl,m,f,hl,hS⟩:=h
 have hC:∀z,C z→S z:=fun z h=>(hS z).2 (fk (m.hC z h) nofun)
 have hSR:∀z,S z→z<H.size:=fun z hz=>m.slt z ((hS z).1 hz)
 refine bv oN ?_
 refine vs ?_
 have f0:ah H (((H.new 198 [ptr B.n]).new 3 [i64 x]).new 224 [i64 k,u64 s]):=(((ag.refl _ _).new _ _).new _ _).new _ _
 have b3:(((H.new 198 [ptr B.n]).new 3 [i64 x]).new 224 [i64 k,u64 s]).own H.size=some [ptr B.n]:=by
  rw[cu (by simp only[ap];omega),cu (by simp only[ap];omega),az]
 have b4:(((H.new 198 [ptr B.n]).new 3 [i64 x]).new 224 [i64 k,u64 s]).own (H.size+1)=some [i64 x]:=by
  rw[cu (by simp only[ap];omega)]
  exact aU (by simp only[ap])
 have b5:(((H.new 198 [ptr B.n]).new 3 [i64 x]).new 224 [i64 k,u64 s]).own (H.size+1+1)=some [i64 k,u64 s]:=aU (by simp only[ap])
 have m0:=m.fresh f0
 generalize ((H.new 198 [ptr B.n]).new 3 [i64 x]).new 224 [i64 k,u64 s]=H0 at*
 have ff:ag S H H0:=f0.mono fun _ _ h=>h.elim
 obtain⟨tv,HT,_⟩:=m0.own
 refine v4 (ae b3) (ae b4) (ae HT) (ae b5) ?_
 refine(gR m0.cells x k s).mono ?_
 rintro _ H1 (⟨bO,rfl,c1,e1⟩| ⟨bJ,rfl,y,hy,fB,c1,e1⟩)
 ·refine vs ?_
  exact .inl ⟨bO,rfl,cB.same ⟨B,ro,C,l,V,ch,par,kb,cS,rows,rb,rfl,m0.ext e1 (fun _ _ h=>h),f,hl,hS⟩ (ff.trans (e1.mono fun _ _ h=>h.elim))⟩
 have mF:(w.put x (y.1,k,s)).cs.length=w.cs.length:=by simp[Nw.put]
 have m1:=m0.aJ c1 e1 mF
 have Bp:w.db x k s:=⟨bJ,fun z hz=>by rw[hy]at hz;injection hz with hz;rw[←hz];exact fB⟩
 have hx:0≤x∧x<w.cs.length:=⟨bJ.1,by have:=(aoj.1 hy).1;have:=bJ.1;omega⟩
 have OO:aG w x=y.1:=j7 bJ.1 hy
 have dH:=bz.2 bJ
 have hw:aG (w.put x (y.1,k,s))=aG w:=by
  funext z
  rw[dV hx]
  split
  ·rename_i e;rw[e,OO]
  ·rfl
 have Eu:cY (w.put x (y.1,k,s)).cs x:=bz.1 (by rw[hw];exact dH)
 have el:∀a b,0<aG w a→0<aG w b→a≠x→b≠x→aQ (w.put x (y.1,k,s)) a b=aQ w a b:=fun a b ha hb tS mq=>dw hx _ ha hb tS mq
 have ex:∀b,0<aG w b→b≠x→aQ w x b=true→aQ (w.put x (y.1,k,s)) x b=true:=fun b hb mq h=>Bg bJ hy fB hb mq h
 have ls:=au w
 have Ts:=au (w.put x (y.1,k,s))
 have nC:∀z,H.size≤z→¬C z:=fun z hz hc=>by have:=hSR z (hC z hc);omega
 have b31:=e1.own b3 (nC _ (aov _))
 have b41:=e1.own b4 (nC _ (by omega))
 obtain⟨CR,o1,_⟩:=m1.own
 have yu:=m.Sx hl ((m.cells.hm x).2 dH).1
 have hhl:(w.put x (y.1,k,s)).hs.length=w.hs.length:=by simp[Nw.put]
 refine v3 (ae b31) (ae b41) (ae o1) ?_
 refine(di m1.cells x).mono ?_
 rintro _ H2 (⟨bO,_,_⟩| ⟨_,rfl,c2,e2⟩)
 ·exact absurd Eu bO
 have m2:=m1.aJ c2 e2 rfl
 have pE:ag S H H2:=(ff.trans (e1.mono fun z _ h=>hC z h)).trans (e2.mono fun z _ h=>hC z h)
 have b32:=e2.own b31 (nC _ (aov _))
 have b42:=e2.own b41 (nC _ (by omega))
 rw[hw]
 refine v2 (ae b32) (ae b42) ?_
 have f2:MC (aG (w.put x (y.1,k,s))) (aQ (w.put x (y.1,k,s))) ch par rows [] x:=by
  rw[hw]
  exact MC.start ls f el
 have hE0:∀d∈ch x,aQ (w.put x (y.1,k,s)) x d=true:=fun d hd=>by
  obtain⟨_,_,_,h4,h5⟩:=f.pr.dn x d hd
  exact ex d h4 (fun e=>by have:=f.less hd;rw[e]at this;omega) h5
 have hsR:∀z,dG ro z→z<H.size:=m.slt
 refine(Ik m2 f2 (g:=aG w x) (by rw[hw]) dH yu fL [ptr H.size,ptr (H.size+1)] (fun p=>aQ (w.put x (y.1,k,s)) x p) (fun H'=>H'.own H.size=some [ptr B.n]∧H'.own (H.size+1)=some [i64 x]∧∃tv,H'.own B.n=some [ptr B.c,ptr B.fb,tv])
  (fun ch=>∀d∈ch x,aQ (w.put x (y.1,k,s)) x d=true) ?_ (fun H' GQ hJ e=>?_) (by kernel_rfl) (fun H' p hJ cq hp=>?_) hE0 (fun ch par rows p cx Kt hq _=>cx.low Ts Kt hq)).mono ?_
 ·obtain⟨No,o2,_⟩:=m2.own
  exact⟨b32,b42,No,o2⟩
 ·obtain⟨j1,j2,No,o2⟩:=hJ
  exact⟨e.own j1 (fun h=>by have:=hsR _ h.1;omega),e.own j2 (fun h=>by have:=hsR _ h.1;omega),No,e.own o2 (fun h=>h.2 rfl)⟩
 ·obtain⟨j1,j2,No,o2⟩:=hJ
  exact xI j1 j2 o2 cq (by rw[hw];exact dH) hp
 rintro _ H3 ⟨Qn,l3,V3,MJ,oZ,XE,BI,m3,f3,hE3,hq3,TA,e3⟩
 refine vs ?_
 have f4:=f3.done hE3 (fun hp=>by
  rcases hq3 with h|h
  ·exact absurd h hp
  ·have hxc:=f3.w.pr.up x _ rfl hp
   have XL:=f3.w.less hxc
   exact(Ts.OD (oZ x) x (fun e=>by rw[e]at XL;omega)).resolve_right (by rw[h];simp))
 have z2:=pE.size
 refine .inr ⟨Bp,rfl,y,hy,dG Qn,⟨B,Qn,C,l3,V3,MJ,oZ,XE,cS,BI,rb,rfl,m3,f4,by rw[hl,hhl],fun z=>Iff.rfl⟩,pE.trans (e3.mono fun z _ h=>(hS z).2 h),fun z hz=>.inl ((hS z).2 (TA z hz))⟩
theorem JY(cap:Int)(H:Hp):af Tryz.prog Fg [i64 cap] H fun v H'=>aw (
  ah H H'∧((¬ (0≤cap∧cap≤65536)∧v= .tuple [.pointer none,i64 31].toArray)∨
   ((0≤cap∧cap≤65536)∧∃n S,v= .tuple [ptr n,i64 0].toArray∧gE n H' S (zE cap)∧∀x,S x→H.size≤x))):=by
 refine bv Fm ?_
 refine vs ?_
 refine(k8 cap H).mono ?_
 rintro _ H1 ⟨f1,⟨hb,rfl⟩| ⟨hb,c,C,rfl,c1,hC⟩⟩
 ·refine vs ?_
  exact⟨f1,.inl ⟨hb,rfl⟩⟩
 refine vs ?_
 refine(Gh H1 hb).mono ?_
 rintro _ H2 ⟨fb,tb,l,rfl,t2,f2,hfb,Vo⟩
 have c2:=c1.fresh f2
 refine vs ?_
 have yb:=c1.slt
 have z1:=f1.size
 have z2:=f2.size
 have hts:=t2.RL
 have aP:=t2.ne
 have f3:ah H2 ((H2.new 24 [.slice none 0 0]).new 260 [ptr c,ptr fb,.slice (some ⟨H2.size,0,none⟩) 1 1]):=((ag.refl _ _).new _ _).new _ _
 have e2:ag (fun _=>False) (H2.new 24 [.slice none 0 0]) ((H2.new 24 [.slice none 0 0]).new 260 [ptr c,ptr fb,.slice (some ⟨H2.size,0,none⟩) 1 1]):=(ag.refl _ _).new _ _
 have z3:((H2.new 24 [.slice none 0 0]).new 260 [ptr c,ptr fb,.slice (some ⟨H2.size,0,none⟩) 1 1]).size=H2.size+1+1:=by simp only[ap]
 obtain⟨ro,NO⟩:∃ro:Nat→Rl,ro=fun z=>if z=H2.size+1 then Rl.RJ else if z=H2.size then Rl.Lv else if z=fb then Rl.FO else if z=tb then Rl.table else @ite _ (C z) (Classical.propDecidable _) Rl.cell Rl.no:=⟨_,rfl⟩
 have r1:ro (H2.size+1)= .RJ:=by rw[NO];simp
 have r2:ro H2.size= .Lv:=by rw[NO];simp
 have r3:ro fb= .FO:=by rw[NO];show(if fb=H2.size+1 then _ else _)=_;rw[if_neg (by omega),if_neg (by omega),if_pos rfl]
 have r4:ro tb= .table:=by rw[NO];show(if tb=H2.size+1 then _ else _)=_;rw[if_neg (by omega),if_neg (by omega),if_neg (by omega),if_pos rfl]
 have r5:∀z,C z→ro z= .cell:=fun z hz=>by
  have:=yb z hz
  rw[NO];show(if z=H2.size+1 then _ else _)=_;rw[if_neg (by omega),if_neg (by omega),if_neg (by omega),if_neg (by omega),if_pos hz]
 have r6:∀z,ro z≠ .no→H.size≤z∧z<H2.size+1+1:=fun z hz=>by
  rw[NO]at hz
  simp only at hz
  split at hz
  ·omega
  ·split at hz
   ·omega
   ·split at hz
    ·omega
    ·split at hz
     ·omega
     ·split at hz
      ·rename_i h
       have:=hC z h
       have:=yb z h
       omega
      ·exact absurd rfl hz
 have nU:(zE cap).cs.length=cap.toNat:=by simp[zE]
 refine⟨(f1.trans f2).trans f3,.inr ⟨hb,H2.size+1,dG ro,rfl,⟨⟨H2.size+1,c,fb,tb,H2.size⟩,ro,C,l,fun _=>.slice none 0 0,fun _=>[],fun _=> -1,fun _=>none,[.slice none 0 0],fun _=>[],fun _=>none,rfl,⟨⟨.slice (some ⟨H2.size,0,none⟩) 1 1,aU (by simp only[ap]),?_⟩,fun g h0 h1=>?_,c2.fresh f3,?_,r5,r1,r2,fun g b _ _ h=>(by cases h),fun z hz=>?_⟩,
  ⟨⟨rfl,fun x c hc=>absurd hc (by simp),fun c x h hx=>absurd (Eq.symm h) hx,fun x=>aps⟩,fun x i c hc=>by simp at hc,fun h=>List.Pairwise.nil,fun h c hc=>absurd hc (by simp),aps,fun c hc=>absurd hc (by simp),fun c hc=>absurd hc (lh cap c)⟩,rfl,fun z=>Iff.rfl⟩,fun z hz=>(r6 z hz).1⟩⟩
 ·exact(Sl.bU (size:=1) (n:=1) (xs:=[.slice none 0 0]) rfl rfl).ext e2 (fun _ _ h=>h)
 ·have h1:g<1:=h1
  have hg:g=0:=by omega
  subst hg
  exact⟨.slice none 0 0,rfl,Sl.nil _ _⟩
 ·rw[nU]
  exact⟨t2.ext f3 (fun h=>h) (fun h=>h),fun x h0 h1=>Sl.nil _ _,r3,r4,fun x b _ _ h=>(by cases h),fun x c hc=>absurd hc (by simp),fun _ _=>rfl⟩
 ·apply aoI
  intro h
  have:=(r6 z h).2
  have hz':H2.size+1+1≤z:=by rw[←z3];exact hz
  omega
theorem Il{n:Nat}{H:Hp}{S:Nat→Prop}{w:Nw}(h:gE n H S w):af Tryz.prog kJ [ptr n] H fun v H'=>aw (
  (w.hs.length=65537∧v=i64 0∧cB (gE n) S H H' w)∨(w.hs.length≠65537∧v=i64 w.hs.length∧cB (gE n) S H H' w.make)):=by
 obtain⟨B,ro,C,l,V,ch,par,kb,cS,rows,rb,rfl,m,f,hl,hS⟩:=id h
 obtain⟨tv,ho,z7⟩:=m.own
 refine bv ui ?_
 refine v1 (ae ho) ?_
 refine(jo m.cells).mono ?_
 rintro _ H1 (⟨h1,rfl,rfl⟩| ⟨h1,rfl,C',c1,e1,zF⟩)
 ·refine vs ?_
  exact .inl ⟨h1,rfl,cB.same h (ag.refl _ _)⟩
 have gh:=m.cells.pos
 have hhs:=m.cells.z7
 have slt:=m.slt
 have LF:=c1.slt
 have z1:=e1.size
 have nc:∀z q,ro z=q→q≠ .cell→¬C z:=fun z q h1 h2 hc=>h2 (by rw[←h1,m.hC z hc])
 have o1:=e1.own ho (nc _ _ m.rn nofun)
 refine vs ?_
 refine am.cQ (aow (by omega)) ?_
 refine v1 (ae o1) ?_
 have s1:=z7.ext e1 (fun b hb=>by injection hb with hb;subst hb;exact nc _ _ m.rr nofun)
 have fl:ah H1 (H1.new 24 [.slice none 0 0]):=(ag.refl _ _).new _ _
 have zl:(H1.new 24 [.slice none 0 0]).size=H1.size+1:=ap _ _ _
 refine Sl.append (s1.ext fl (fun _ _ h=>h)) (Sl.bU (size:=1) (n:=1) (xs:=[.slice none 0 0]) rfl rfl).rd rfl (fun v hv=>by rw[aoq.1 hv];rfl) (by omega) ?_
 intro w' H2 cP s2 e2' fZ
 have e2:ag (fun z=>z=B.rp) H1 H2:=⟨apb fl.size e2'.size,fun z hz hn=>by
  rw[e2'.aM z (aoH hz fl.size) (fun h=>hn (by injection h with h;exact h.symm)),fl.aM z hz (fun h=>h)]⟩
 obtain⟨b',rfl,jY⟩:∃b',cP=some b'∧(b'=B.rp∨H1.size≤b'∧b'<H2.size):=by
  rcases fZ with rfl| ⟨b',rfl,h2,h3⟩
  ·exact⟨_,rfl,.inl rfl⟩
  ·exact⟨b',rfl,.inr ⟨by omega,h3⟩⟩
 have hnr:B.n≠B.rp:=fun e=>by have:=m.rn;rw[e,m.rr]at this;cases this
 have o2:=e2.own o1 hnr
 obtain⟨wa,wc,OU⟩:=Sl.shape s2
 subst OU
 refine v1 o2 ?_
 have hln:B.n<H.size:=slt _ (fk m.rn nofun)
 have Zp:B.rp<H.size:=slt _ (fk m.rr nofun)
 have e3:∀v,ag (fun z=>z=B.n) H2 (H2.wr B.n [ptr B.c,ptr B.fb,v]):=fun v=>(ag.refl (fun z=>z=B.n) _).wr (fun _=>rfl) _
 obtain⟨n9,NO⟩:∃n9:Nat→Rl,n9=fun z=>if z=b' then Rl.Lv else if z<H.size then ro z else @ite _ (C' z) (Classical.propDecidable _) Rl.cell Rl.no:=⟨_,rfl⟩
 have r1:n9 b'= .Lv:=by rw[NO];show(if b'=b' then _ else _)=_;rw[if_pos rfl]
 have r2:∀z q,ro z=q→q≠ .no→q≠ .Lv→n9 z=q:=fun z q h1 h2 h3=>by
  have hz:=slt z (fk h1 h2)
  rw[NO]
  show(if z=b' then _ else _)=_
  rw[if_neg (fun e=>?_),if_pos hz,h1]
  rcases jY with h|h
  ·exact h3 (by rw[←h1,e,h,m.rr])
  ·omega
 have r3:∀z,C' z→n9 z= .cell:=fun z hz=>by
  have hzl:=LF z hz
  by_cases dL:z<H.size
  ·rcases zF z hz with h|h
   ·exact r2 z _ (m.hC z h) nofun nofun
   ·omega
  ·rw[NO]
   show(if z=b' then _ else _)=_
   rw[if_neg (by omega),if_neg dL,if_pos hz]
 have r4:∀z,dG n9 z→dG ro z∨H.size≤z:=fun z hz=>by
  by_cases dL:z<H.size
  ·refine .inl fun h=>hz ?_
   rw[NO]
   show(if z=b' then _ else _)=_
   rw[if_neg (fun e=>?_),if_pos dL,h]
   rcases jY with h'|h'
   ·rw[e,h',m.rr]at h;cases h
   ·omega
  ·exact .inr (by omega)
 have r5:∀z,H2.size≤z→n9 z= .no:=fun z hz=>by
  have h2:=e2.size
  rw[NO]
  show(if z=b' then _ else _)=_
  rw[if_neg (by omega),if_neg (by omega),if_neg (fun h=>by have:=LF z h;omega)]
 have agL:∀v,(H2.wr B.n [ptr B.c,ptr B.fb,v]).size=H2.size:=fun v=>eo _ _ _
 have XM:∀z q,ro z=q→q≠ .Lv→z≠B.rp:=fun z q h1 h2 e=>h2 (by rw[←h1,e,m.rr])
 have JF:∀z q,ro z=q→q≠ .RJ→z≠B.n:=fun z q h1 h2 e=>h2 (by rw[←h1,e,m.rn])
 have alV:b'≠B.n:=by rcases jY with h|h<;>omega
 refine .inr ⟨h1,rfl,dG n9,⟨⟨B.n,B.c,B.fb,B.tb,b'⟩,n9,C',l,V,ch,par,kb,cS++[.slice none 0 0],rows,(fun k=>if k< (cS.length:Int)then rb k else none),rfl,⟨⟨_,ai o2,?_⟩,fun g h0 hg=>?_,?_,?_,r3,r2 _ _ m.rn nofun nofun,r1,fun g b h0 hg hb=>?_,fun z hz=>r5 z (by rw[agL]at hz;exact hz)⟩,f,by rw[aor,hl];simp[Nw.make],fun z=>Iff.rfl⟩,?_,fun z hz=>(r4 z hz).imp_left fun h=>(hS z).2 h⟩
 ·rw[aor]
  exact s2.ext (e3 _) (fun b hb=>by injection hb with hb;omega)
 ·rw[aor,aoA]at hg
  by_cases dk:g<cS.length
  ·obtain⟨sv,q1,q2⟩:=m.row g h0 dk
   refine⟨sv,by rw[aox (by omega)];exact q1,?_⟩
   rw[if_pos dk]
   exact((q2.ext e1 (fun b hb=>nc b _ (m.mK g b h0 dk hb) nofun)).ext e2 (fun b hb=>XM b _ (m.mK g b h0 dk hb) nofun)).ext (e3 _) (fun b hb=>JF b _ (m.mK g b h0 dk hb) nofun)
  ·have OC:g=(cS.length:Int):=by omega
   have hre:rows g=[]:=by
    cases hc:rows g with
    |nil=>rfl
    |cons c r=>
     obtain⟨h5,_,h6,_⟩:=f.rm g c (by rw[hc];simp)
     have:=((m.cells.hm c).2 (by omega)).2
     omega
   refine⟨.slice none 0 0,by rw[OC,Int.toNat_natCast,aoK (aov _)];simp,?_⟩
   rw[hre,if_neg dk]
   exact Sl.nil _ _
 ·exact(c1.ext e2 (fun z hz e=>by
   rcases zF z hz with h|h
   ·exact XM z _ (m.hC z h) nofun e
   ·omega)).ext (e3 _) (fun z hz e=>by
   rcases zF z hz with h|h
   ·exact JF z _ (m.hC z h) nofun e
   ·omega)
 ·have XN:∀z,(ro z= .FO∨KB ro z)→(¬C z∧z≠B.rp)∧z≠B.n:=fun z hz=>by
   rcases hz with h|h| ⟨x,h⟩<;>exact⟨⟨nc z _ h nofun,XM z _ h nofun⟩,JF z _ h nofun⟩
  have f1:=((m.fo.ext e1 (fun z hz=>(XN z hz).1.1)).ext e2 (fun z hz=>(XN z hz).1.2)).ext (e3 (.slice wa (cS.length+1) wc)) (fun z hz=>(XN z hz).2)
  exact⟨f1.t,f1.kd,r2 _ _ f1.rf nofun nofun,r2 _ _ f1.rt nofun nofun,fun x b h0 h1 hb=>r2 _ _ (f1.rk x b h0 h1 hb) nofun nofun,f1.GV,f1.no⟩
 ·rw[aor,aoA]at hg
  by_cases dk:g<cS.length
  ·rw[if_pos dk]at hb
   exact r2 _ _ (m.mK g b h0 dk hb) nofun nofun
  ·rw[if_neg dk]at hb
   cases hb
 ·refine(((e1.mono fun z _ h=>?_).trans (e2.mono fun z _ h=>?_)).trans ((e3 _).mono fun z _ h=>?_):ag S H _)
  ·exact(hS z).2 (fk (m.hC z h) nofun)
  ·exact(hS z).2 (by rw[h];exact fk m.rr nofun)
  ·exact(hS z).2 (by rw[h];exact fk m.rn nofun)
theorem Sy(n:Nat):yi (.iface 198 (ptr n)) (gE n) where
 slt h:=h.slt
 ext h e hd:=h.ext e hd
 cells:=by
  rintro H S w ⟨B,ro,C,l,V,ch,par,kb,cS,rows,rb,rfl,m,f,hl,hS⟩
  exact⟨B.c,C,m.cells⟩
 has:=by
  rintro H S w g ⟨B,ro,C,l,V,ch,par,kb,cS,rows,rb,rfl,m,f,hl,hS⟩
  obtain⟨tv,ho,_⟩:=m.own
  exact⟨_,_,bE,ptr B.c,rfl,fU (off:=0) (by kernel_rfl) (ae ho) rfl,(iH m.cells g).mono fun v H' hp=>hp⟩
 make:=by
  intro H S w h
  exact⟨_,_,kJ,ptr n,rfl,bD (by kernel_rfl),(Il h).mono fun v H' hp=>hp⟩
 insert:=by
  intro H S w g x k s h
  exact⟨_,_,iY,ptr n,rfl,bD (by kernel_rfl),(EF h g x k s).mono fun v H' hp=>hp⟩
 min:=by
  intro H S w g h
  refine⟨_,_,lU,ptr n,rfl,bD (by kernel_rfl),(BH h g).mono ?_⟩
  rintro v H' (⟨h1,rfl,h2,h3⟩| ⟨x,h1,rfl,h2,h3⟩)
  ·exact .inl ⟨h1,rfl,cB.same h2 h3⟩
  ·exact .inr ⟨x,h1,rfl,cB.same h2 h3⟩
 extract:=by
  intro H S w g h
  exact⟨_,_,iu,ptr n,rfl,bD (by kernel_rfl),(Dg h g).mono fun v H' hp=>hp⟩
 lf:=by
  intro H S w x k s h
  exact⟨_,_,gN,ptr n,rfl,bD (by kernel_rfl),(BJ h x k s).mono fun v H' hp=>hp⟩
 entry:=by
  rintro H S w x ⟨B,ro,C,l,V,ch,par,kb,cS,rows,rb,rfl,m,f,hl,hS⟩
  obtain⟨tv,ho,_⟩:=m.own
  refine⟨_,_,bh,ptr B.c,rfl,fU (off:=0) (by kernel_rfl) (ae ho) rfl,(gQ m.cells x).mono ?_⟩
  rintro v H' ⟨c1,f1,hv⟩
  exact⟨⟨B,ro,C,l,V,ch,par,kb,cS,rows,rb,rfl,m.fresh f1,f,hl,hS⟩,f1,hv⟩
theorem zQ(n:Nat)(H:Hp):af Tryz.prog pL [ptr n,i64 0] H fun v H'=>aw (v= .tuple [.iface 198 (ptr n),i64 0].toArray∧H'=H):=by
 refine bv pW ?_
 refine v1 aoZ ?_
 exact⟨rfl,rfl⟩
theorem BK(n:Nat)(H:Hp):af Tryz.prog qS [ptr n,i64 0] H fun v H'=>aw (v= .tuple [.iface 202 (ptr n),i64 0].toArray∧H'=H):=by
 refine bv rz ?_
 refine v1 aoZ ?_
 exact⟨rfl,rfl⟩
theorem BL(n:Nat)(H:Hp):af Tryz.prog qU [ptr n,i64 0] H fun v H'=>aw (v= .tuple [.iface 210 (ptr n),i64 0].toArray∧H'=H):=by
 refine bv rA ?_
 refine v1 aoZ ?_
 exact⟨rfl,rfl⟩
theorem Gk(n:Nat)(H:Hp):af Tryz.prog wg [ptr n,i64 0] H fun v H'=>aw (v= .tuple [.iface 214 (ptr n),i64 0].toArray∧H'=H):=by
 refine bv wO ?_
 refine v1 aoZ ?_
 exact⟨rfl,rfl⟩
theorem Gl(n:Nat)(H:Hp):af Tryz.prog wh [ptr n,i64 0] H fun v H'=>aw (v= .tuple [.iface 218 (ptr n),i64 0].toArray∧H'=H):=by
 refine bv wP ?_
 refine v1 aoZ ?_
 exact⟨rfl,rfl⟩
theorem JZ{kd dd cap:Int}(hf:gD kd dd)(hc:0≤cap∧cap≤65536)(H:Hp):af Tryz.prog IA [Nr kd dd,i64 cap] H fun v H'=>aw (∃t vv I Sn,v= .tuple [.iface t vv,i64 0].toArray∧yi (.iface t vv) I∧I H' Sn (zE cap)∧ah H H'∧∀z,Sn z→H.size≤z):=by
 refine bv Pw ?_
 refine vs ?_
 have f0:ah H (H.new 23 [i64 kd,i64 dd]):=(ag.refl _ _).new _ _
 have o0:(H.new 23 [i64 kd,i64 dd]).own H.size=some [i64 kd,i64 dd]:=az _ _ _
 have z0:(H.new 23 [i64 kd,i64 dd]).size=H.size+1:=ap _ _ _
 generalize H.new 23 [i64 kd,i64 dd]=H0 at*
 obtain rfl|rfl|rfl|rfl|rfl|rfl|rfl|rfl:kd=1∨kd=2∨kd=3∨kd=4∨kd=5∨kd=6∨kd=7∨kd=8:=by have:=hf.1;omega
 ·refine am.cQ (by decide) ?_
  refine v1 (ae o0) ?_
  refine am.cQ (by decide) ?_
  refine v1 (ae o0) ?_
  refine(oz hf (by decide) H0).mono ?_
  rintro _ H1 ⟨rfl,f1⟩
  refine vs ?_
  refine(yn cap _ H1).mono ?_
  rintro _ H2 ⟨f2,⟨hb,rfl⟩| ⟨_,hd,rfl⟩| ⟨_,hd,n,Sn,rfl,h2,NP⟩⟩
  ·exact absurd hc hb
  ·refine absurd ?_ hd
   obtain⟨_,h|h⟩:=hf
   ·first|exact⟨h.2.1,h.2.2⟩|exact absurd h.1 (by decide)
   ·first|exact⟨by decide,by decide⟩|exact absurd rfl h.1
  ·refine vs ?_
   refine(uU n H2).mono ?_
   rintro _ _ ⟨rfl,rfl⟩
   have z1:=f1.size
   refine vs ?_
   exact⟨_,_,_,Sn,rfl,F4 n _,⟨0,h2⟩,(f0.trans f1).trans f2,fun z hz=>by have:=NP z hz;omega⟩
 ·refine am.aY (by decide) ?_
  refine vs ?_
  refine am.cQ (by decide) ?_
  refine v1 (ae o0) ?_
  refine(oz hf (by decide) H0).mono ?_
  rintro _ H1 ⟨rfl,f1⟩
  refine vs ?_
  refine(yn cap _ H1).mono ?_
  rintro _ H2 ⟨f2,⟨hb,rfl⟩| ⟨_,hd,rfl⟩| ⟨_,hd,n,Sn,rfl,h2,NP⟩⟩
  ·exact absurd hc hb
  ·refine absurd ?_ hd
   obtain⟨_,h|h⟩:=hf
   ·first|exact⟨h.2.1,h.2.2⟩|exact absurd h.1 (by decide)
   ·first|exact⟨by decide,by decide⟩|exact absurd rfl h.1
  ·refine vs ?_
   refine(uU n H2).mono ?_
   rintro _ _ ⟨rfl,rfl⟩
   have z1:=f1.size
   refine vs ?_
   exact⟨_,_,_,Sn,rfl,F4 n _,⟨0,h2⟩,(f0.trans f1).trans f2,fun z hz=>by have:=NP z hz;omega⟩
 ·refine am.aY (by decide) ?_
  refine vs ?_
  refine am.aY (by decide) ?_
  refine vs ?_
  refine am.cQ (by decide) ?_
  refine vs ?_
  refine(JY cap H0).mono ?_
  rintro _ H2 ⟨f2,⟨hb,rfl⟩| ⟨_,n,Sn,rfl,h2,NP⟩⟩
  ·exact absurd hc hb
  ·refine vs ?_
   refine(zQ n H2).mono ?_
   rintro _ _ ⟨rfl,rfl⟩
   refine vs ?_
   exact⟨_,_,_,Sn,rfl,Sy n,h2,f0.trans f2,fun z hz=>by have:=NP z hz;omega⟩
 ·refine am.aY (by decide) ?_
  refine vs ?_
  refine am.aY (by decide) ?_
  refine vs ?_
  refine am.aY (by decide) ?_
  refine vs ?_
  refine am.cQ (by decide) ?_
  refine vs ?_
  refine(Da cap H0).mono ?_
  rintro _ H2 ⟨f2,⟨hb,rfl⟩| ⟨_,n,Sn,rfl,h2,NP⟩⟩
  ·exact absurd hc hb
  ·refine vs ?_
   refine(BK n H2).mono ?_
   rintro _ _ ⟨rfl,rfl⟩
   refine vs ?_
   exact⟨_,_,_,Sn,rfl,JS n,h2,f0.trans f2,fun z hz=>by have:=NP z hz;omega⟩
 ·refine am.aY (by decide) ?_
  refine vs ?_
  refine am.aY (by decide) ?_
  refine vs ?_
  refine am.aY (by decide) ?_
  refine vs ?_
  refine am.aY (by decide) ?_
  refine vs ?_
  refine am.cQ (by decide) ?_
  refine vs ?_
  refine(JN cap H0).mono ?_
  rintro _ H2 ⟨f2,⟨hb,rfl⟩| ⟨_,n,Sn,rfl,h2,NP⟩⟩
  ·exact absurd hc hb
  ·refine vs ?_
   refine(xC n H2).mono ?_
   rintro _ _ ⟨rfl,rfl⟩
   refine vs ?_
   exact⟨_,_,_,Sn,rfl,Sa n,h2,f0.trans f2,fun z hz=>by have:=NP z hz;omega⟩
 ·refine am.aY (by decide) ?_
  refine vs ?_
  refine am.aY (by decide) ?_
  refine vs ?_
  refine am.aY (by decide) ?_
  refine vs ?_
  refine am.aY (by decide) ?_
  refine vs ?_
  refine am.aY (by decide) ?_
  refine vs ?_
  refine am.cQ (by decide) ?_
  refine vs ?_
  refine(CW cap H0).mono ?_
  rintro _ H2 ⟨f2,⟨hb,rfl⟩| ⟨_,n,Sn,rfl,h2,NP⟩⟩
  ·exact absurd hc hb
  ·refine vs ?_
   refine(BL n H2).mono ?_
   rintro _ _ ⟨rfl,rfl⟩
   refine vs ?_
   exact⟨_,_,_,Sn,rfl,JG n,h2,f0.trans f2,fun z hz=>by have:=NP z hz;omega⟩
 ·refine am.aY (by decide) ?_
  refine vs ?_
  refine am.aY (by decide) ?_
  refine vs ?_
  refine am.aY (by decide) ?_
  refine vs ?_
  refine am.aY (by decide) ?_
  refine vs ?_
  refine am.aY (by decide) ?_
  refine vs ?_
  refine am.aY (by decide) ?_
  refine vs ?_
  refine am.cQ (by decide) ?_
  refine vs ?_
  refine(If cap H0).mono ?_
  rintro _ H2 ⟨f2,⟨hb,rfl⟩| ⟨_,n,Sn,rfl,h2,NP⟩⟩
  ·exact absurd hc hb
  ·refine vs ?_
   refine(Gk n H2).mono ?_
   rintro _ _ ⟨rfl,rfl⟩
   refine vs ?_
   exact⟨_,_,_,Sn,rfl,Qh n,h2,f0.trans f2,fun z hz=>by have:=NP z hz;omega⟩
 ·refine am.aY (by decide) ?_
  refine vs ?_
  refine am.aY (by decide) ?_
  refine vs ?_
  refine am.aY (by decide) ?_
  refine vs ?_
  refine am.aY (by decide) ?_
  refine vs ?_
  refine am.aY (by decide) ?_
  refine vs ?_
  refine am.aY (by decide) ?_
  refine vs ?_
  refine am.aY (by decide) ?_
  refine vs ?_
  refine(HX cap H0).mono ?_
  rintro _ H2 ⟨f2,⟨hb,rfl⟩| ⟨_,n,Sn,rfl,h2,NP⟩⟩
  ·exact absurd hc hb
  ·refine vs ?_
   refine(Gl n H2).mono ?_
   rintro _ _ ⟨rfl,rfl⟩
   refine vs ?_
   exact⟨_,_,_,Sn,rfl,NA n,⟨0,h2⟩,f0.trans f2,fun z hz=>by have:=NP z hz;omega⟩
theorem LW{kd dd:Int}(hf:gD kd dd):Sb kd dd:=fun _ hc H=>JZ hf hc H
theorem EH{H:Hp}{a:Option Addr}{c:Nat}{xs:List Int}(h:cO H 1 (.slice a xs.length c) xs.length (xs.map i64))(p q:Int)(hl:xs.length≤1000000000):
  af Tryz.prog Jk [.slice a xs.length c,i64 p,i64 q] H fun v H'=>aw (ah H H'∧∃b,H.size≤b∧Sl H' 1 v xs.length ((xs.map fun x=>if x=q then p else x).map i64) (some b)):=by
 refine bv Jr ?_
 refine vs ?_
 have s0:Sl (H.new 3 []) 1 (.slice (some ⟨H.size,0,none⟩) 0 0) (([]:List Int)).length (([]:List Int).map i64) (some H.size):=Sl.bU (size:=1) (n:=0) (xs:=[]) rfl rfl
 have f0:ah H (H.new 3 []):=(ag.refl _ _).new _ _
 generalize H.new 3 []=H0 at*
 refine aX.intro (fun m env H'=>ah H H'∧∃ (j:Nat) (w:Value) (b:Nat),m=xs.length - j∧j≤xs.length∧H.size≤b∧Sl H' 1 w ((xs.take j).map fun x=>if x=q then p else x).length (((xs.take j).map fun x=>if x=q then p else x).map i64) (some b)∧
  env=[(1,i64 p),(2,i64 q),(7,w),(11,.slice a xs.length c),(12,i64 xs.length),(13,i64 j)]) xs.length ⟨f0,0,_,H.size,by omega,by omega,by omega,s0,rfl⟩ ?_
 rintro m env H1 ⟨f1,j,w,b,hm,hj,hb,s1,rfl⟩
 have h1:=h.fresh f1
 refine vs ?_
 refine am.dec (fun aO=>?_) (fun aO=>?_)<;>refine vs ?_
 ·obtain⟨x,hx⟩:∃x,xs[j]? =some x:=⟨_,aoh (by omega)⟩
  obtain⟨_,bx,o,lb,rfl,eW,bX⟩:=cO.num h1 hx
  refine⟨⟨by omega,by omega⟩,?_⟩
  refine v4 eW Int.toNat_natCast aol bX ?_
  have LR:(xs.take (j+1)).map (fun x=>if x=q then p else x)=(xs.take j).map (fun x=>if x=q then p else x)++[if x=q then p else x]:=by rw[aoT,hx,aoN];rfl
  refine am.dec (fun hq=>?_) (fun hq=>?_)<;>refine vs ?_
  ·rw[if_pos hq]at LR
   refine IE (B:=H.size) hb (f1.size) s1 _ (by simp;omega) ?_
   intro w' H' b' jY s' e'
   refine vs ?_
   rw[wrap64 (n:=(j:Int)+1) (by omega) (by omega)]
   exact⟨xs.length - (j+1),by omega,f1.then e' (fun z hz=>hz),j+1,w',b',rfl,by omega,jY,by rw[LR];exact s',rfl⟩
  ·rw[if_neg hq]at LR
   refine IE (B:=H.size) hb (f1.size) s1 _ (by simp;omega) ?_
   intro w' H' b' jY s' e'
   refine vs ?_
   rw[wrap64 (n:=(j:Int)+1) (by omega) (by omega)]
   exact⟨xs.length - (j+1),by omega,f1.then e' (fun z hz=>hz),j+1,w',b',rfl,by omega,jY,by rw[LR];exact s',rfl⟩
 ·have fS:j=xs.length:=by omega
  subst fS
  rw[aoP,aoF]at s1
  exact⟨f1,b,hb,s1⟩
theorem gu{H:Hp}{n:Int}{a a':Option Addr}{c c':Nat}{es:List Ed}{ks:List Int}(h:cO H 3 (.slice a es.length c) es.length (dX es))(h':cO H 1 (.slice a' ks.length c') ks.length (ks.map i64))
  (hr:fj n es)(hk:∀i∈ks,LO es i)(hl:ks.length≤1000000000):
  af Tryz.prog G6 [zK n (.slice a es.length c),.slice a' ks.length c'] H fun v H'=>aw (ah H H'∧∃b,H.size≤b∧Sl H' 1 v n.toNat ((ee n.toNat (ks.map (fE es))).map i64) (some b)):=by
 refine bv Ho ?_
 have f0:ah H (H.new 52 [i64 n,.slice a es.length c]):=(ag.refl _ _).new _ _
 have b0:=az H 52 [i64 n,.slice a es.length c]
 have DE:(H.new 52 [i64 n,.slice a es.length c]).size=H.size+1:=by rw[ap]
 simp(disch:=(first|omega| (simp only[Zs]<;>omega)|fail)) only[go_sem, ↓reduceIte,Zv,zK]
 generalize H.new 52 [i64 n,.slice a es.length c]=H0 at*
 have fo:ah H0 (H0.new 3 []):=(ag.refl _ _).new _ _
 have s0:Sl (H0.new 3 []) 1 (.slice (some ⟨H.size+1,0,none⟩) 0 0) (allI 0).length ((allI 0).map i64) (some (H.size+1)):=Sl.bU (size:=1) (n:=0) (xs:=[]) rfl DE.symm
 have b1:=fo.own b0 (fun h=>h)
 generalize H0.new 3 []=H1 at*
 have Ln:=hr.n0
 have vW:=hr.n1
 refine aX.intro (fun m env H'=>ah H H'∧H'.own H.size=some [i64 n,.slice a es.length c]∧∃ (j:Nat) (w:Value) (b:Nat),m=n.toNat - j∧j≤n.toNat∧H.size+1≤b∧Sl H' 1 w (allI j).length ((allI j).map i64) (some b)∧
  env=[(1,.slice a' ks.length c'),(2,ptr H.size),(5,w),(6,i64 j)]) n.toNat ⟨f0.trans fo,b1,0,_,H.size+1,by omega,by omega,by omega,s0,rfl⟩ ?_
 clear s0 b1 fo b0 f0
 rintro m env H2 ⟨f2,b2,j,w,b,hm,hj,hb,s2,rfl⟩
 have dL:=aB b2
 refine v1 (ae b2) ?_
 refine am.dec (fun aO=>?_) (fun aO=>?_)<;>refine vs ?_
 ·refine IE (B:=H.size+1) hb (by omega) s2 _ (by rw[uW];omega) ?_
  intro w' H' b' jY s' e'
  rw[←vK]at s'
  refine vs ?_
  rw[wrap64 (n:=(j:Int)+1) (by omega) (by omega)]
  exact⟨n.toNat - (j+1),by omega,f2.then e' (fun z hz=>by omega),e'.own b2 (fun h=>by omega),j+1,w',b',rfl,by omega,jY,s',rfl⟩
 ·have fS:j=n.toNat:=by omega
  subst fS
  rw[←Qc]at s2
  clear hj aO hm
  refine aX.intro (fun m env H'=>ah H H'∧H'.own H.size=some [i64 n,.slice a es.length c]∧∃ (k:Nat) (w:Value) (b:Nat),m=ks.length - k∧k≤ks.length∧H.size+1≤b∧Sl H' 1 w (ee n.toNat ((ks.take k).map (fE es))).length ((ee n.toNat ((ks.take k).map (fE es))).map i64) (some b)∧
   env=[(2,ptr H.size),(5,w),(22,.slice a' ks.length c'),(23,i64 ks.length),(24,i64 k)]) ks.length ⟨f2,b2,0,w,b,by omega,by omega,hb,s2,rfl⟩ ?_
  clear s2 b2 f2 hb dL
  rintro m env H3 ⟨f3,b3,k,w,b,hm,Ud,hb,s3,rfl⟩
  have MH:=aB b3
  have h3:=h.fresh f3
  have MK:=h'.fresh f3
  refine vs ?_
  refine am.dec (fun aO=>?_) (fun aO=>?_)<;>refine vs ?_
  ·obtain⟨i,hi⟩:∃x,ks[k]? =some x:=⟨_,aoh (by omega)⟩
   obtain⟨_,bx,o,lb,rfl,eW,bX⟩:=cO.num MK hi
   obtain⟨ik,e,rfl,he,hik⟩:=(hk i (aon hi)).get
   obtain⟨ef0,ef1,et0,et1⟩:=hr.ends e (aon he)
   obtain⟨_,be,oe,le,rfl,XO,nT,eG,kE,vC,sC⟩:=cO.oV h3 he
   obtain⟨wa,wc,rfl,_⟩:=cJ s3
   obtain⟨_,rfl,lw,Tw,ZB⟩:=Sl.num s3 (iK ((ks.take k).map (fE es)) (v:=e.f.toNat) (by omega))
   obtain⟨_,_,lw',J0,EE⟩:=Sl.num s3 (iK ((ks.take k).map (fE es)) (v:=e.t.toNat) (by omega))
   rw[Tw]at J0
   injection J0 with J0
   subst J0
   have OV:=qA n.toNat ((ks.take k).map (fE es))
   have LR:ee n.toNat ((ks.take (k+1)).map (fE es))=(ee n.toNat ((ks.take k).map (fE es))).map fun x=>if x=((max (aD ((ks.take k).map (fE es)) e.f.toNat) (aD ((ks.take k).map (fE es)) e.t.toNat):Nat):Int)then((min (aD ((ks.take k).map (fE es)) e.f.toNat) (aD ((ks.take k).map (fE es)) e.t.toNat):Nat):Int)else x:=by
    have:=NH n.toNat ((ks.take k).map (fE es)) (fE es ik)
    rw[BA he]at this
    rw[←this,aoT,hi,aoN]
    congr 2
    simp[BA he]
   refine⟨⟨by omega,by omega⟩,?_⟩
   refine v5 eW Int.toNat_natCast aol bX (ae b3) ?_
   refine⟨⟨by omega,by omega⟩,?_⟩
   refine v4 XO Int.toNat_natCast Nat.add_zero kE ?_
   refine⟨⟨by omega,by omega⟩,?_⟩
   refine v5 (ae Tw) aol aoi ZB (ae b3) ?_
   refine⟨⟨by omega,by omega⟩,?_⟩
   refine v3 XO Int.toNat_natCast vC ?_
   refine⟨⟨by omega,by omega⟩,?_⟩
   refine v4 (ae Tw) aol aoi EE ?_
   generalize aD ((ks.take k).map (fE es)) e.f.toNat=pf at*
   generalize aD ((ks.take k).map (fE es)) e.t.toNat=pt at*
   have agM:(if(pt:Int)< (pf:Int)then(pt:Int)else(pf:Int))=((min pf pt:Nat):Int):=by split<;>omega
   have agN:(if(pt:Int)> (pf:Int)then(pt:Int)else(pf:Int))=((max pf pt:Nat):Int):=by split<;>omega
   rw[agM,agN]
   refine(EH s3.rd _ _ (by omega)).mono ?_
   rintro u H4 ⟨f4,b',jY,s4⟩
   rw[←LR]at s4
   refine vs ?_
   rw[wrap64 (n:=(k:Int)+1) (by omega) (by omega)]
   exact⟨ks.length - (k+1),by omega,f3.trans f4,f4.own b3 (fun h=>h),k+1,u,b',rfl,by omega,by omega,by rw[qA];rw[OV]at s4;exact s4,rfl⟩
  ·have z6:k=ks.length:=by omega
   subst z6
   rw[aoP,qA]at s3
   exact⟨f3,b,by omega,s3⟩
def zR(n:Int):Nat:=(n%18446744073709551616).toNat
theorem Sz(n:Int):IntKind.u64.wrap n=(zR n:Int):=by
 have e:(2^IntKind.u64.bits:Int)=18446744073709551616:=rfl
 unfold IntKind.wrap zR
 simp only[e,IntKind.signed,ap1]
 rw[if_neg (by simp)];omega
theorem Uy(n:Int):zR n<18446744073709551616:=by unfold zR;omega
def Im(s:Int×Nat)(n:Int):Int×Nat:=
 (IntKind.i64.wrap (s.1+(if n<0 then -1 else 0)+((s.2+zR n) / 18446744073709551616:Nat)),(s.2+zR n)%18446744073709551616)
def Dh(l:List Int):Int×Nat:=l.foldl Im (0,0)
def Io(s:Int×Nat):Value:=.agg [i64 s.1,u64 s.2].toArray
theorem Qo(l:List Int)(x:Int):Dh (l++[x])=Im (Dh l) x:=by
 unfold Dh
 rw[List.foldl_append]
 rfl
theorem abN(x:Nat):Int.tmod (x:Int) 4294967296=((x%4294967296:Nat):Int):=rfl
theorem abO(x:Nat):Int.tdiv (x:Int) 4294967296=((x / 4294967296:Nat):Int):=rfl
theorem J1{a b:Nat}(h:a+b<18446744073709551616):IntKind.u64.wrap ((a:Int)+(b:Int))=((a+b:Nat):Int):=by rw[rZ (by omega) (by omega)];rfl
theorem Gm(x:Int):IntKind.i64.wrap (IntKind.u64.wrap x)=IntKind.i64.wrap x:=by
 have e:(2^IntKind.i64.bits:Int)=18446744073709551616:=rfl
 have e2:(2^IntKind.u64.bits:Int)=18446744073709551616:=rfl
 have e':(2^ (IntKind.i64.bits - 1):Int)=9223372036854775808:=rfl
 unfold IntKind.wrap
 simp only[e,e',e2,IntKind.signed,apz,ap1,aoL]
 rw[if_neg (by simp:¬ (false=true))]
 split<;>split<;>omega
theorem vN(a b:Int):IntKind.u64.wrap (IntKind.u64.wrap a+b)=IntKind.u64.wrap (a+b):=by
 have e2:(2^IntKind.u64.bits:Int)=18446744073709551616:=rfl
 unfold IntKind.wrap
 simp only[e2,IntKind.signed,ap1]
 rw[if_neg (by simp:¬ (false=true)),if_neg (by simp:¬ (false=true)),if_neg (by simp:¬ (false=true))]
 omega
theorem IT{a b:Int}(h:a%18446744073709551616=b%18446744073709551616):IntKind.i64.wrap a=IntKind.i64.wrap b:=by
 have e:(2^IntKind.i64.bits:Int)=18446744073709551616:=rfl
 unfold IntKind.wrap
 simp only[e,h]
theorem Gn(H:Hp)(s:Int×Nat)(n:Int)(h0: -9223372036854775808≤n)(h1:n≤9223372036854775807)(hs0: -9223372036854775808≤s.1)(eK:s.1≤9223372036854775807)(Kk:s.2<18446744073709551616):
  af Tryz.prog KP [Io s,i64 n] H fun v H'=>aw (v=Io (Im s n)∧ah H H'):=by
 refine bv KX ?_
 simp(disch:=(first|omega| (simp only[Zs]<;>omega)|fail)) only[go_sem, ↓reduceIte,Zv,Io]
 have f0:ah H ((H.new 39 [i64 s.1,u64 s.2]).new 39 [i64 0,u64 0]):=((ag.refl _ _).new _ _).new _ _
 have b0:((H.new 39 [i64 s.1,u64 s.2]).new 39 [i64 0,u64 0]).own H.size=some [i64 s.1,u64 s.2]:=ag.own (((ag.refl (fun _=>False) _).new _ _):ah (H.new 39 [i64 s.1,u64 s.2]) _) (az _ _ _) (fun h=>h)
 have d0:((H.new 39 [i64 s.1,u64 s.2]).new 39 [i64 0,u64 0]).own (H.size+1)=some [i64 0,u64 0]:=aU (by simp only[ap])
 generalize (H.new 39 [i64 s.1,u64 s.2]).new 39 [i64 0,u64 0]=H0 at*
 have hl:=Uy n
 have z:¬ ((4294967296:Int)=0):=by omega
 have wn:=Sz n
 obtain⟨lo,Jx⟩:∃lo:Nat,s.2%4294967296+zR n%4294967296=lo:=⟨_,rfl⟩
 obtain⟨h3,hh3⟩:∃h3:Nat,s.2 / 4294967296+zR n / 4294967296=h3:=⟨_,rfl⟩
 obtain⟨hi,Uz⟩:∃hi:Nat,h3+lo / 4294967296=hi:=⟨_,rfl⟩
 have w1:IntKind.u64.wrap (((s.2%4294967296:Nat):Int)+((zR n%4294967296:Nat):Int))=(lo:Int):=by rw[J1 (by omega),Jx]
 have w3:IntKind.u64.wrap (((s.2 / 4294967296:Nat):Int)+((zR n / 4294967296:Nat):Int))=(h3:Int):=by rw[J1 (by omega),hh3]
 have w5:IntKind.u64.wrap ((h3:Int)+((lo / 4294967296:Nat):Int))=(hi:Int):=by rw[J1 (by omega),Uz]
 have Zy:(s.2+zR n) / 18446744073709551616=hi / 4294967296:=by omega
 have Vy:(s.2+zR n)%18446744073709551616=hi%4294967296*4294967296+lo%4294967296:=by omega
 have w6:IntKind.u64.wrap (((hi%4294967296:Nat):Int)*4294967296)=((hi%4294967296*4294967296:Nat):Int):=by rw[rZ (by omega) (by omega)];rfl
 have w7:IntKind.u64.wrap (((hi%4294967296*4294967296:Nat):Int)+((lo%4294967296:Nat):Int))=((hi%4294967296*4294967296+lo%4294967296:Nat):Int):=J1 (by omega)
 have q1:IntKind.u64.wrap ((s.2 / 4294967296:Nat):Int)=((s.2 / 4294967296:Nat):Int):=rZ (by omega) (by omega)
 have q2:IntKind.u64.wrap ((zR n / 4294967296:Nat):Int)=((zR n / 4294967296:Nat):Int):=rZ (by omega) (by omega)
 have q3:IntKind.u64.wrap ((lo / 4294967296:Nat):Int)=((lo / 4294967296:Nat):Int):=rZ (by omega) (by omega)
 have q4:IntKind.u64.wrap ((hi / 4294967296:Nat):Int)=((hi / 4294967296:Nat):Int):=rZ (by omega) (by omega)
 have ea:Im s n=(IntKind.i64.wrap (s.1+(if n<0 then -1 else 0)+((hi / 4294967296:Nat):Int)),hi%4294967296*4294967296+lo%4294967296):=by rw[←Zy,←Vy];rfl
 rw[ea]
 clear ea Zy Vy
 have fin:∀v:Value,ah H (H0.wr (H.size+1) [v,u64 ((hi%4294967296*4294967296+lo%4294967296:Nat):Int)]):=fun v=>f0.then ((ag.refl (fun z=>z=H.size+1) _).wr (fun _=>rfl) _) (fun z hz=>by omega)
 refine am.dec (fun hn=>?_) (fun hn=>?_)<;>simp(disch:=(first|omega| (simp only[Zs]<;>omega)|fail)) only[go_sem, ↓reduceIte,Zv,ae b0,wn,if_neg z,abN,abO,w1,w3,w5,w6,w7,d0,q1,q2,q3,q4]
 ·have e9:IntKind.i64.wrap (IntKind.u64.wrap (IntKind.u64.wrap (IntKind.u64.wrap s.1+18446744073709551615)+((hi / 4294967296:Nat):Int)))=IntKind.i64.wrap (s.1+(if n<0 then -1 else 0)+((hi / 4294967296:Nat):Int)):=by
   rw[vN,Int.add_assoc,vN,Gm,if_pos hn]
   exact IT (by omega)
  refine v1 e9 ?_
  have d1:=ai (l:=[i64 (IntKind.i64.wrap (s.1+(if n<0 then -1 else 0)+((hi / 4294967296:Nat):Int))),u64 ((hi%4294967296*4294967296+lo%4294967296:Nat):Int)]) d0
  refine v1 (ae d1) ?_
  exact⟨rfl,fin _⟩
 ·have e9:IntKind.i64.wrap (IntKind.u64.wrap (IntKind.u64.wrap (IntKind.u64.wrap s.1+0)+((hi / 4294967296:Nat):Int)))=IntKind.i64.wrap (s.1+(if n<0 then -1 else 0)+((hi / 4294967296:Nat):Int)):=by
   rw[vN,Int.add_assoc,vN,Gm,if_neg hn]
   exact IT (by omega)
  refine v1 e9 ?_
  have d1:=ai (l:=[i64 (IntKind.i64.wrap (s.1+(if n<0 then -1 else 0)+((hi / 4294967296:Nat):Int))),u64 ((hi%4294967296*4294967296+lo%4294967296:Nat):Int)]) d0
  refine v1 (ae d1) ?_
  exact⟨rfl,fin _⟩
theorem Gp(x:Int): -9223372036854775808≤IntKind.i64.wrap x∧IntKind.i64.wrap x≤9223372036854775807:=by
 have e:(2^IntKind.i64.bits:Int)=18446744073709551616:=rfl
 have e':(2^ (IntKind.i64.bits - 1):Int)=9223372036854775808:=rfl
 unfold IntKind.wrap
 simp only[e,e',IntKind.signed,apz,aoL]
 split<;>omega
def InS(s:Int×Nat):Prop:= -9223372036854775808≤s.1∧s.1≤9223372036854775807∧s.2<18446744073709551616
theorem UA(s:Int×Nat)(n:Int):InS (Im s n):=⟨(Gp _).1,(Gp _).2,Nat.mod_lt _ (by omega)⟩
theorem SA(l:List Int):∀s,InS s→InS (l.foldl Im s):=by
 induction l with
 |nil=>exact fun _ h=>h
 |cons x l ih=>exact fun s h=>ih _ (UA s x)
theorem UB(l:List Int):InS (Dh l):=SA l _ ⟨by decide,by decide,by decide⟩
theorem Di{H:Hp}{a:Option Addr}{n c:Nat}{l:List Int}(h:cO H 1 (.slice a n c) n (l.map i64))(hn:n≤1000000)(hl:∀x∈l, -9223372036854775808≤x∧x≤9223372036854775807):
  af Tryz.prog Ha [.slice a n c] H fun v H'=>aw (v=Io (Dh l)∧ah H H'):=by
 have aZ:l.length=n:=by have:=h.1;simpa using this
 refine bv Hs ?_
 have f0:ah H ((H.new 39 [i64 0,u64 0]).new 39 [i64 0,u64 0]):=((ag.refl _ _).new _ _).new _ _
 have b0:((H.new 39 [i64 0,u64 0]).new 39 [i64 0,u64 0]).own H.size=some [i64 0,u64 0]:=ag.own (((ag.refl (fun _=>False) _).new _ _):ah (H.new 39 [i64 0,u64 0]) _) (az _ _ _) (fun h=>h)
 have d0:((H.new 39 [i64 0,u64 0]).new 39 [i64 0,u64 0]).own (H.size+1)=some [i64 0,u64 0]:=aU (by simp only[ap])
 refine v1 d0 ?_
 have f0':ah H (((H.new 39 [i64 0,u64 0]).new 39 [i64 0,u64 0]).wr (H.size+1) [i64 0,u64 0]):=f0.then ((ag.refl (fun z=>z=H.size+1) _).wr (fun _=>rfl) _) (fun z hz=>by omega)
 have O6:(((H.new 39 [i64 0,u64 0]).new 39 [i64 0,u64 0]).wr (H.size+1) [i64 0,u64 0]).own H.size=some [i64 0,u64 0]:=by rw[j0 (by omega)];exact b0
 have d0':(((H.new 39 [i64 0,u64 0]).new 39 [i64 0,u64 0]).wr (H.size+1) [i64 0,u64 0]).own (H.size+1)=some [i64 0,u64 0]:=ai d0
 generalize ((H.new 39 [i64 0,u64 0]).new 39 [i64 0,u64 0]).wr (H.size+1) [i64 0,u64 0]=H0 at*
 clear f0 b0 d0
 refine aX.intro (fun m env H'=>ah H H'∧H'.own H.size=some [i64 0,u64 0]∧∃ (j:Nat),m=n - j∧j≤n∧H'.own (H.size+1)=some [i64 (Dh (l.take j)).1,u64 (Dh (l.take j)).2]∧
  env=[(2,ptr H.size),(3,ptr (H.size+1)),(7,.slice a n c),(8,i64 n),(9,i64 j)]) n ⟨f0',O6,0,by omega,by omega,d0',rfl⟩ ?_
 rintro m env H1 ⟨f1,b1,j,hm,hj,d1,rfl⟩
 have h1:=h.fresh f1
 refine vs ?_
 refine am.dec (fun aO=>?_) (fun aO=>?_)<;>refine vs ?_
 ·have fS:j<n:=by omega
  obtain⟨y,hy⟩:∃y,l[j]? =some y:=⟨_,aoh (by omega)⟩
  obtain⟨b,o,c',lb,z7,eW,ZC,DB⟩:=cO.get h1 (i:=j) (j:=0) (x:=i64 y) (by omega) (by rw[aol,Nat.add_zero,aoG,hy];rfl)
  injection z7 with z7 _ _
  subst z7
  obtain⟨WB,MQ⟩:=hl y (aon hy)
  refine⟨⟨by omega,by omega⟩,?_⟩
  rw[Nat.add_zero,aol]at DB
  refine v5 eW Int.toNat_natCast aol DB (ae d1) ?_
  obtain⟨g1,g2,g3⟩:=UB (l.take j)
  refine(Gn H1 (Dh (l.take j)) y WB MQ g1 g2 g3).mono ?_
  rintro _ H2 ⟨rfl,f2⟩
  have d2:=f2.own d1 (fun h=>h)
  have b2:=f2.own b1 (fun h=>h)
  simp(disch:=(first|omega| (simp only[Zs]<;>omega)|fail)) only[go_sem, ↓reduceIte,Zv,d2,Io]
  rw[wrap64 (n:=(j:Int)+1) (by omega) (by omega)]
  have agO:Dh (l.take (j+1))=Im (Dh (l.take j)) y:=by
   rw[aoT,hy]
   exact Qo _ _
  refine⟨n - (j+1),by omega,(f1.trans f2).then ((ag.refl (fun z=>z=H.size+1) _).wr (fun _=>rfl) _) (fun z hz=>by omega),(by first|exact b2| (rw[j0 (by omega)];exact b2)),j+1,rfl,by omega,?_,rfl⟩
  rw[agO];exact ai d2
 ·have fS:j=n:=by omega
  subst fS
  rw[ap4 (by omega)]at d1
  have b2:=ai (l:=[i64 (Dh l).1,u64 (Dh l).2]) b1
  refine v3 (ae d1) b1 (ae b2) ?_
  exact⟨rfl,f1.then ((ag.refl (fun z=>z=H.size) _).wr (fun _=>rfl) _) (fun z hz=>by omega)⟩
def J2(S:Int):Int×Nat:=(S / 18446744073709551616,(S%18446744073709551616).toNat)
theorem SC{S n:Int}(h0: -9223372036854775808≤n)(h1:n≤9223372036854775807)(hS: -9223372036854775808*1000000000000≤S∧S≤9223372036854775808*1000000000000):Im (J2 S) n=J2 (S+n):=by
 unfold Im J2 zR
 have hw:∀z:Int, -9223372036854775808≤z→z≤9223372036854775807→IntKind.i64.wrap z=z:=fun z=>wrap64
 simp only
 refine Prod.ext ?_ ?_
 ·simp only
  rw[hw _ (by split<;>omega) (by split<;>omega)]
  split<;>omega
 ·simp only
  omega
theorem Qp:∀ (l:List Int) (S:Int),(∀x∈l, -9223372036854775808≤x∧x≤9223372036854775807)→(-9223372036854775808*(1000000000000 - (l.length:Int))≤S∧S≤9223372036854775808*(1000000000000 - (l.length:Int)))→
  l.foldl Im (J2 S)=J2 (S+l.sum):=by
 intro l
 induction l with
 |nil=>intro S _ _;simp
 |cons x l ih=>
  intro S h hS
  obtain⟨h0,h1⟩:=h x (ao5 ..)
  rw[aoD]at hS
  rw[List.foldl_cons,SC h0 h1 (by omega),ih (S+x) (fun y hy=>h y (aoQ _ hy)) (by omega),ap9,Int.add_assoc]
theorem SD{l:List Int}(h:∀x∈l, -9223372036854775808≤x∧x≤9223372036854775807)(hl:l.length≤1000000000):Dh l=J2 l.sum:=by
 have:=Qp l 0 h (by omega)
 rw[Int.zero_add]at this
 exact this
theorem IU{n:Nat}:∀ks:List E2,(∀e∈ks,e.1<n∧e.2<n)→∀v,n≤v→aD ks v=v:=by
 refine kj (fun _ v _=>rfl) fun ks e ih hb v hv=>?_
 have h1:=ih fun x hx=>hb x (aoy _ hx)
 obtain⟨h2,h3⟩:=hb e (by simp)
 rw[mR]
 unfold Dr
 have:=iQ ks e.1
 have:=iQ ks e.2
 rw[h1 v hv,if_neg (by omega)]
theorem NQ{n:Int}{es:List Ed}{ks:List Int}(hr:fj n es)(hk:∀i∈ks,LO es i)(ha:gF (ks.map (fE es))):
  jU n es ks↔∀v,v<n.toNat→aD (ks.map (fE es)) v=aD ((allI es.length).map (fE es)) v:=by
 constructor
 ·intro h v _
  rw[pJ h.iff]
 ·intro h
  refine⟨hk,ha,fun u v=>?_⟩
  have Lm:∀e∈ks.map (fE es),e.1<n.toNat∧e.2<n.toNat:=fun e he=>by
   obtain⟨i,hi,rfl⟩:=aoC.1 he
   exact se hr (hk i hi)
  have oR:∀e∈(allI es.length).map (fE es),e.1<n.toNat∧e.2<n.toNat:=fun e he=>by
   obtain⟨i,hi,rfl⟩:=aoC.1 he
   exact se hr (js.1 hi)
  have he:∀x,aD (ks.map (fE es)) x=aD ((allI es.length).map (fE es)) x:=fun x=>by
   by_cases hx:x<n.toNat
   ·exact h x hx
   ·rw[IU _ Lm x (by omega),IU _ oR x (by omega)]
  unfold bF
  rw[he u,he v]
  exact id
theorem Gq{H:Hp}{n:Int}{a:Option Addr}{c k:Nat}(hl:k≤1000000000):
  af Tryz.prog KM [zK n (.slice a k c)] H fun v H'=>aw (ah H H'∧∃b,H.size≤b∧Sl H' 1 v (allI k).length ((allI k).map i64) (some b)):=by
 refine bv KU ?_
 have f0:ah H (H.new 52 [i64 n,.slice a k c]):=(ag.refl _ _).new _ _
 have DE:(H.new 52 [i64 n,.slice a k c]).size=H.size+1:=by rw[ap]
 simp(disch:=(first|omega| (simp only[Zs]<;>omega)|fail)) only[go_sem, ↓reduceIte,Zv,zK]
 generalize H.new 52 [i64 n,.slice a k c]=H0 at*
 have fo:ah H0 (H0.new 3 []):=(ag.refl _ _).new _ _
 have s0:Sl (H0.new 3 []) 1 (.slice (some ⟨H.size+1,0,none⟩) 0 0) (allI 0).length ((allI 0).map i64) (some (H.size+1)):=Sl.bU (size:=1) (n:=0) (xs:=[]) rfl DE.symm
 generalize H0.new 3 []=H1 at*
 refine aX.intro (fun m env H'=>ah H H'∧∃ (j:Nat) (w:Value) (b:Nat),m=k - j∧j≤k∧H.size≤b∧Sl H' 1 w (allI j).length ((allI j).map i64) (some b)∧
  env=[(3,w),(8,i64 k),(9,i64 j)]) k ⟨f0.trans fo,0,_,H.size+1,by omega,by omega,by omega,s0,rfl⟩ ?_
 rintro m env H2 ⟨f2,j,w,b,hm,hj,hb,s2,rfl⟩
 refine vs ?_
 refine am.dec (fun aO=>?_) (fun aO=>?_)<;>refine vs ?_
 ·refine IE (B:=H.size) hb f2.size s2 _ (by rw[uW];omega) ?_
  intro w' H' b' jY s' e'
  rw[←vK]at s'
  refine vs ?_
  rw[wrap64 (n:=(j:Int)+1) (by omega) (by omega)]
  exact⟨k - (j+1),by omega,f2.then e' (fun z hz=>hz),j+1,w',b',rfl,by omega,jY,s',rfl⟩
 ·have fS:j=k:=by omega
  subst fS
  exact⟨f2,b,hb,s2⟩
theorem BM{H:Hp}{n:Int}{a a':Option Addr}{c c':Nat}{es:List Ed}{ks:List Int}(h:cO H 3 (.slice a es.length c) es.length (dX es))(h':cO H 1 (.slice a' ks.length c') ks.length (ks.map i64))(Jc:ks.length≤c')
  (hr:fj n es)(hl:ks.length≤1000000000):
  af Tryz.prog Fb [zK n (.slice a es.length c),.slice a' ks.length c'] H fun v H'=>aw (ah H H'∧∃b,v= .bool b∧(b=true↔jU n es ks)):=by
 refine bv Fi ?_
 have f0:ah H (H.new 52 [i64 n,.slice a es.length c]):=(ag.refl _ _).new _ _
 have b0:=az H 52 [i64 n,.slice a es.length c]
 have DE:(H.new 52 [i64 n,.slice a es.length c]).size=H.size+1:=by rw[ap]
 simp(disch:=(first|omega| (simp only[Zs]<;>omega)|fail)) only[go_sem, ↓reduceIte,Zv,zK]
 generalize H.new 52 [i64 n,.slice a es.length c]=H0 at*
 have Vm:=hr.len
 refine aX.intro (fun m env H'=>ah H H'∧H'.own H.size=some [i64 n,.slice a es.length c]∧∃ (k:Nat),m=ks.length - k∧k≤ks.length∧(∀i∈ks.take k,LO es i)∧gF ((ks.take k).map (fE es))∧
  env=[(1,.slice a' ks.length c'),(2,ptr H.size),(12,.slice a' ks.length c'),(13,i64 ks.length),(14,i64 k)]) ks.length ⟨f0,b0,0,by omega,by omega,by simp,.nil,rfl⟩ ?_
 rintro m env H3 ⟨f3,b3,k,hm,Ud,bJ,Tg,rfl⟩
 have MH:=aB b3
 have h3:=h.fresh f3
 have MK:=h'.fresh f3
 refine vs ?_
 refine am.dec (fun aO=>?_) (fun aO=>?_)<;>refine vs ?_
 ·obtain⟨i,hi⟩:∃x,ks[k]? =some x:=⟨_,aoh (by omega)⟩
  obtain⟨_,bx,o,lb,rfl,eW,bX⟩:=cO.num MK hi
  have bK:=aon hi
  refine⟨⟨by omega,by omega⟩,?_⟩
  refine v4 eW Int.toNat_natCast aol bX ?_
  refine am.dec (fun g1=>?_) (fun g1=>?_)<;>refine v1 (ae b3) ?_
  ·exact⟨f3,false,rfl,iff_of_false (by simp) fun hs=>by have:=(hs.ins i bK).1;omega⟩
  refine am.dec (fun g2=>?_) (fun g2=>?_)<;>refine v1 (ae b3) ?_
  ·exact⟨f3,false,rfl,iff_of_false (by simp) fun hs=>by have:=(hs.ins i bK).2;omega⟩
  have hIn:LO es i:=⟨by omega,by omega⟩
  obtain⟨ik,e,rfl,he,hik⟩:=hIn.get
  obtain⟨ef0,ef1,et0,et1⟩:=hr.ends e (aon he)
  obtain⟨_,be,oe,le,rfl,XO,nT,eG,kE,vC,sC⟩:=cO.oV h3 he
  obtain⟨a2,B3,vT,al0,oJ⟩:=qF MK (lo:=0) (hi:=k) (lo':=((0:Nat):Int)) (hi':=(k:Int)) rfl rfl (by omega) (by omega) Jc
  rw[aqe,Nat.sub_zero]at vT oJ
  refine⟨⟨by omega,by omega,by omega,by omega⟩,?_⟩
  refine vs ?_
  rw[B3]
  have B1:=gu (ks:=ks.take k) (a':=a2) (c':=c' - 0) h3 (by rw[oJ];exact vT) hr bJ (by omega)
  rw[oJ]at B1
  refine B1.mono ?_
  rintro u H4 ⟨f4,bu,hbu,s4⟩
  have b4:=f4.own b3 (fun h=>h)
  have h4:=h3.fresh f4
  obtain⟨_,be4,oe4,le4,SE,abP,al1,O7,hd0,Pn,iP⟩:=cO.oV h4 he
  injection SE with SE
  injection SE with SE agP
  subst SE;subst agP
  obtain⟨wa,wc,rfl,_⟩:=cJ s4
  obtain⟨_,rfl,lw,Tw,ZB⟩:=Sl.num s4 (iK ((ks.take k).map (fE es)) (v:=e.f.toNat) (by omega))
  obtain⟨_,_,lw',J0,EE⟩:=Sl.num s4 (iK ((ks.take k).map (fE es)) (v:=e.t.toNat) (by omega))
  rw[Tw]at J0
  injection J0 with J0
  subst J0
  refine v1 (ae b4) ?_
  refine⟨⟨by omega,by omega⟩,?_⟩
  simp(disch:=(first|omega| (simp only[Zs]<;>omega)|fail)) only[go_sem, ↓reduceIte,Zv,abP,Int.toNat_natCast,O7,eE]
  refine⟨by omega,?_⟩
  have q2:=az H4 61 [i64 0,i64 0,i64 0]
  simp(disch:=(first|omega| (simp only[Zs]<;>omega)|fail)) only[go_sem, ↓reduceIte,Zv,O7,eE,q2]
  have q3:=ai (l:=[i64 e.f,i64 e.t,i64 e.w]) q2
  have f5:ah H4 ((H4.new 61 [i64 0,i64 0,i64 0]).wr H4.size [i64 e.f,i64 e.t,i64 e.w]):=((ag.refl _ _).new _ _:ah H4 _).then ((ag.refl (fun z=>z=H4.size) _).wr (fun _=>rfl) _) (fun z hz=>by omega)
  generalize (H4.new 61 [i64 0,i64 0,i64 0]).wr H4.size [i64 e.f,i64 e.t,i64 e.w]=H5 at*
  have abR:=f5.own Tw (fun h=>h)
  refine v1 (ae q3) ?_
  refine⟨⟨by omega,by omega⟩,?_⟩
  refine v5 (ae abR) aol aoi ZB (ae q3) ?_
  refine⟨⟨by omega,by omega⟩,?_⟩
  refine v4 (ae abR) aol aoi EE ?_
  have XP:ks.take (k+1)=ks.take k++[(ik:Int)]:=by rw[aoT,hi];rfl
  have f35:=f3.trans (f4.trans f5)
  refine am.dec (fun g3=>?_) (fun g3=>?_)<;>refine vs ?_
  ·refine⟨f35,false,rfl,iff_of_false (by simp) fun hs=>?_⟩
   have abS:gF ((ks.take (k+1)).map (fE es)):=Ky hs.vU ((List.take_sublist _ _).map _)
   rw[XP,aoN,apG,vu,BA he]at abS
   exact abS.2 (by show aD _ _=aD _ _;simp only;omega)
  ·rw[wrap64 (n:=(k:Int)+1) (by omega) (by omega)]
   refine⟨ks.length - (k+1),by omega,f35,f5.own b4 (fun h=>h),k+1,rfl,by omega,fun i hi'=>?_,?_,rfl⟩
   ·rw[XP]at hi'
    rcases aou.1 hi' with hi'|hi'
    ·exact bJ i hi'
    ·rw[aoq.1 hi'];exact hIn
   ·rw[XP,aoN,apG,vu]
    refine⟨Tg,fun hh=>g3 ?_⟩
    rw[BA he]at hh
    have:aD ((ks.take k).map (fE es)) e.f.toNat=aD ((ks.take k).map (fE es)) e.t.toNat:=hh
    rw[this]
 ·have z6:k=ks.length:=by omega
  subst z6
  rw[aoP]at bJ Tg
  have B1:=NQ hr bJ Tg
  refine v1 (ae b3) ?_
  refine(gu h3 MK hr bJ hl).mono ?_
  rintro u H4 ⟨f4,bu,hbu,s4⟩
  have b4:=f4.own b3 (fun h=>h)
  obtain⟨wa,wc,rfl,_⟩:=cJ s4
  refine vs ?_
  refine jB.intro (fun H'=>H'.own H.size=some [i64 n,.slice a es.length c]) b4 ?_
  refine vs ?_
  refine fJ.intro (zK n (.slice a es.length c)) (fun H' hI=>by refine v1 (ae hI) ?_;exact⟨rfl,trivial⟩) ?_
  refine v1 (ae b4) ?_
  refine And.intro b4 ?_
  refine vs ?_
  refine(Gq (n:=n) (a:=a) (c:=c) (k:=es.length) (by omega)).mono ?_
  rintro v5 H5 ⟨f5,b5',hb5,s5⟩
  have b5:=f5.own b4 (fun h=>h)
  obtain⟨va,VG,rfl,_⟩:=cJ s5
  refine And.intro b5 ?_
  refine vs ?_
  refine(gu ((h3.fresh f4).fresh f5) s5.rd hr (fun i hi=>js.1 hi) (by rw[uW];omega)).mono ?_
  rintro v6 H6 ⟨f6,b6',hb6,s6⟩
  obtain⟨xa,xc,rfl,_⟩:=cJ s6
  refine And.intro (f6.own b5 (fun h=>h)) ?_
  refine vs ?_
  have s46:=s4.ext (f5.trans f6) (fun _ _ h=>h)
  have f36:=f3.trans (f4.trans (f5.trans f6))
  have B0:=qA n.toNat (ks.map (fE es))
  have qK:=qA n.toNat ((allI es.length).map (fE es))
  have Ln:=hr.n0
  have vW:=hr.n1
  refine aX.intro (fun m env H'=>H'=H6∧∃ (j:Nat),m=n.toNat - j∧j≤n.toNat∧(∀v,v<j→aD (ks.map (fE es)) v=aD ((allI es.length).map (fE es)) v)∧
   env=[(9,.slice wa n.toNat wc),(56,.slice xa n.toNat xc),(57,i64 n.toNat),(58,i64 j)]) n.toNat ⟨rfl,0,by omega,by omega,by omega,rfl⟩ ?_
  rintro m env _ ⟨rfl,j,T7,hj,cX,rfl⟩
  refine vs ?_
  refine am.dec (fun zJ=>?_) (fun zJ=>?_)<;>refine vs ?_
  ·have ZC:j<n.toNat:=by omega
   obtain⟨_,rfl,l1,Ns,jZ⟩:=Sl.num s46 (iK (ks.map (fE es)) ZC)
   obtain⟨_,rfl,l2,Zf,GU⟩:=Sl.num s6 (iK ((allI es.length).map (fE es)) ZC)
   refine⟨⟨by omega,by omega⟩,?_⟩
   refine v5 (ae Zf) Int.toNat_natCast aol aoi GU ?_
   refine⟨⟨by omega,by omega⟩,?_⟩
   refine v5 (ae Ns) Int.toNat_natCast aol aoi jZ ?_
   refine am.dec (fun g3=>?_) (fun g3=>?_)<;>refine vs ?_
   ·rw[wrap64 (n:=(j:Int)+1) (by omega) (by omega)]
    refine⟨n.toNat - (j+1),by omega,trivial,j+1,rfl,by omega,fun v hv=>?_,rfl⟩
    by_cases hvj:v=j
    ·rw[hvj];omega
    ·exact cX v (by omega)
   ·refine⟨f36,false,rfl,iff_of_false (by simp) fun hs=>?_⟩
    have:=B1.1 hs j ZC
    omega
  ·exact⟨f36,true,rfl,iff_of_true rfl (B1.2 fun v hv=>cX v (by omega))⟩
theorem xJ{H:Hp}{n:Int}{a:Option Addr}{c:Nat}{es:List Ed}(h:cO H 3 (.slice a es.length c) es.length (dX es))(hl:es.length≤1000000000):
  af Tryz.prog Ca [zK n (.slice a es.length c)] H fun v H'=>aw (ah H H'∧∃ (L:List Int) (b:Nat),L.Perm (allI es.length)∧L.Pairwise (fun i j=>wE es i≤wE es j)∧H.size≤b∧Sl H' 1 v L.length (L.map i64) (some b)):=by
 refine bv Cn ?_
 have f0:ah H (H.new 52 [i64 n,.slice a es.length c]):=(ag.refl _ _).new _ _
 have b0:=az H 52 [i64 n,.slice a es.length c]
 have DE:(H.new 52 [i64 n,.slice a es.length c]).size=H.size+1:=by rw[ap]
 simp(disch:=(first|omega| (simp only[Zs]<;>omega)|fail)) only[go_sem, ↓reduceIte,Zv,zK]
 generalize H.new 52 [i64 n,.slice a es.length c]=H0 at*
 have fo:ah H0 (H0.new 3 []):=(ag.refl _ _).new _ _
 have s0:Sl (H0.new 3 []) 1 (.slice (some ⟨H.size+1,0,none⟩) 0 0) ([]:List Int).length (([]:List Int).map i64) (some (H.size+1)):=Sl.bU (size:=1) (n:=0) (xs:=[]) rfl DE.symm
 have b1:=fo.own b0 (fun h=>h)
 generalize H0.new 3 []=H1 at*
 refine aX.intro (fun m env H'=>ah H H'∧H'.own H.size=some [i64 n,.slice a es.length c]∧∃ (j:Nat) (w:Value) (b:Nat) (L:List Int),m=es.length - j∧j≤es.length∧H.size+1≤b∧L.Perm (allI j)∧L.Pairwise (fun i j=>wE es i≤wE es j)∧Sl H' 1 w L.length (L.map i64) (some b)∧
  env=[(1,ptr H.size),(3,w),(10,.slice a es.length c),(11,i64 es.length),(12,i64 j)]) es.length ⟨f0.trans fo,b1,0,_,H.size+1,[],by omega,by omega,by omega,.refl _,.nil,s0,rfl⟩ ?_
 clear s0 b1 fo b0 f0
 rintro m env H2 ⟨f2,b2,j,w,b,L,hm,hj,hb,sE,Tx,s2,rfl⟩
 have dL:=aB b2
 have h2:=h.fresh f2
 have hLl:L.length=j:=by rw[sE.length_eq,uW]
 refine vs ?_
 refine am.dec (fun aO=>?_) (fun aO=>?_)<;>refine vs ?_
 rotate_left
 ·have fS:j=es.length:=by omega
  subst fS
  exact⟨f2,L,b,sE,Tx,by omega,s2⟩
 obtain⟨e,he⟩:∃e,es[j]? =some e:=⟨_,aoh (by omega)⟩
 obtain⟨_,be,o,lb,rfl,eW,nT,eG,kE,vC,sC⟩:=cO.oV h2 he
 refine⟨⟨by omega,by omega⟩,?_⟩
 simp(disch:=(first|omega| (simp only[Zs]<;>omega)|fail)) only[go_sem, ↓reduceIte,Zv,eW,Int.toNat_natCast,eG,eE]
 refine⟨by omega,?_⟩
 have q2:=az H2 61 [i64 0,i64 0,i64 0]
 simp(disch:=(first|omega| (simp only[Zs]<;>omega)|fail)) only[go_sem, ↓reduceIte,Zv,eG,eE,q2]
 have q3:=ai (l:=[i64 e.f,i64 e.t,i64 e.w]) q2
 have f3:ah H2 ((H2.new 61 [i64 0,i64 0,i64 0]).wr H2.size [i64 e.f,i64 e.t,i64 e.w]):=((ag.refl _ _).new _ _:ah H2 _).then ((ag.refl (fun z=>z=H2.size) _).wr (fun _=>rfl) _) (fun z hz=>by omega)
 generalize (H2.new 61 [i64 0,i64 0,i64 0]).wr H2.size [i64 e.f,i64 e.t,i64 e.w]=H3 at*
 have b3:=f3.own b2 (fun h=>h)
 have h3:=h2.fresh f3
 have s3:=s2.ext f3 (fun _ _ h=>h)
 obtain⟨wa,wc,rfl,hwc⟩:=cJ s3
 refine aX.intro (fun m env H'=>H'=H3∧∃k:Nat,m=L.length - k∧k≤L.length∧(∀x∈L.take k,wE es x≤e.w)∧
  env=[(1,ptr H.size),(3,.slice wa L.length wc),(4,i64 j),(5,ptr H2.size),(6,i64 k),(10,.slice (some ⟨be,o,none⟩) es.length c),(11,i64 es.length),(12,i64 j)]) L.length ⟨rfl,0,by omega,by omega,by simp,rfl⟩ ?_
 rintro m2 env H3 ⟨rfl,k,hm2,hk,Jx,rfl⟩
 refine vs ?_
 refine am.dec (fun Ud=>?_) (fun Ud=>?_)<;>refine vs ?_
 ·obtain⟨x,hx⟩:∃x,L[k]? =some x:=⟨_,aoh (by omega)⟩
  have R0:LO es x:=by
   have:=Gd.1 (sE.mem_iff.1 (aon hx))
   exact⟨this.1,by omega⟩
  obtain⟨ix,ex,rfl,hex,abT⟩:=R0.get
  obtain⟨_,rfl,lw,Tw,OO⟩:=Sl.num s3 hx
  obtain⟨_,be2,oe2,le2,UC,Bl,abU,O8,hd0,Pn,iP⟩:=cO.oV h3 hex
  injection UC with UC
  injection UC with UC hoe
  subst UC;subst hoe
  refine v1 (ae b3) ?_
  refine⟨⟨by omega,by omega⟩,?_⟩
  refine v5 (ae Tw) Int.toNat_natCast aol aoi OO ?_
  refine⟨⟨by omega,by omega⟩,?_⟩
  refine v4 Bl Int.toNat_natCast iP (ae q3) ?_
  refine am.dec (fun abV=>?_) (fun abV=>?_)<;>refine vs ?_
  ·rw[wrap64 (n:=(k:Int)+1) (by omega) (by omega)]
   refine⟨L.length - (k+1),by omega,trivial,k+1,rfl,by omega,fun y hy=>?_,rfl⟩
   rw[aoT,hx]at hy
   rcases aou.1 hy with hy|hy
   ·exact Jx y hy
   ·have:y=(ix:Int):=by simpa using hy
    rw[this,uV hex];exact abV
  have Uz:∀x∈L.drop k,e.w≤wE es x:=by
   intro y hy
   have Uq:L.drop k=(ix:Int)::L.drop (k+1):=by
    rw[apq (by omega)]
    rw[aoh (by omega)]at hx
    injection hx with hx
    rw[hx]
   have XI:=List.Pairwise.sublist (List.drop_sublist k L) Tx
   rw[Uq,apr]at XI
   rw[Uq]at hy
   rcases aot.1 hy with rfl|hy
   ·rw[uV hex];omega
   ·have:=XI.1 y hy
    rw[uV hex]at this
    omega
  have Xu:=qF s3.rd (lo:=0) (hi:=k) (lo':=((0:Nat):Int)) (hi':=(k:Int)) rfl rfl (by omega) (by omega) hwc
  obtain⟨a5,hv5,hr5,hc5,Tn⟩:=Xu
  rw[aqe,Nat.sub_zero]at hr5 Tn
  have sp2:=qF s3.rd (lo:=k) (hi:=L.length) (lo':=(k:Int)) (hi':=(L.length:Int)) rfl rfl (by omega) (by omega) hwc
  obtain⟨a6,hv6,XQ,hc6,hl6⟩:=sp2
  rw[ap4 (by rw[ap0];omega)]at XQ
  have MH:=aB b3
  have fl:ah H3 (H3.new 3 []):=(ag.refl _ _).new _ _
  have sl:Sl (H3.new 3 []) 1 (.slice (some ⟨H3.size,0,none⟩) 0 0) ([]:List Int).length (([]:List Int).map i64) (some H3.size):=Sl.bU (size:=1) (n:=0) (xs:=[]) rfl rfl
  have XR:=hr5.fresh fl
  have XS:=XQ.fresh fl
  have b4:=fl.own b3 (fun h=>h)
  refine⟨⟨by omega,by omega,by omega,by omega⟩,?_⟩
  refine vs ?_
  rw[hv5]
  have WR:(H3.new 3 []).size=H3.size+1:=by rw[ap]
  generalize H3.new 3 []=H4 at*
  refine ON (B:=H3.size) (xs:=[]) (ys:=L.take k) (fun b hb=>by injection hb with hb;omega) (by omega) sl (by rw[Tn];exact XR) (by simp;omega) ?_
  intro w5 H5 fp5 XT s5 e5
  rw[apk]at s5
  refine vs ?_
  have f45:ah H2 H5:=(f3.trans fl).then e5 (fun z hz=>by have:=f3.size;omega)
  have b5:=e5.own b4 (fun h=>by omega)
  have abX:=XS.ext e5
  refine yd (B:=H3.size) XT (by have:=e5.size;omega) s5 _ (by rw[aoX];omega) ?_
  intro w6 H6 fp6 XU s6 e6
  have b6:=e6.own b5 (fun h=>by omega)
  have f36:ah H3 H6:=(fl.then e5 (fun z hz=>hz)).then e6 (fun z hz=>hz)
  obtain⟨w6a,w6c,rfl,_⟩:=cJ s6
  refine vs ?_
  refine⟨⟨by omega,by omega,by omega,by omega⟩,?_⟩
  refine vs ?_
  rw[hv6]
  refine ON (B:=H3.size) (ys:=L.drop k) XU (f36.size) s6 (by have:=XQ.fresh f36;rw[ap0];exact this) (by simp;omega) ?_
  intro w7 H7 fp7 XV s7 e7
  have b7:=e7.own b6 (fun h=>by omega)
  have eL:L.take k++[(j:Int)]++L.drop k=L.take k++((j:Int)::L.drop k):=by simp
  have hp7:(L.take k++[(j:Int)]++L.drop k).Perm (allI (j+1)):=by
   rw[eL,vK]
   have h1:(L.take k++(j:Int)::L.drop k).Perm ((j:Int)::(L.take k++L.drop k)):=apY
   rw[apF]at h1
   exact h1.trans ((sE.cons _).trans (List.perm_append_singleton _ _).symm)
  have hw7:(L.take k++[(j:Int)]++L.drop k).Pairwise (fun i j=>wE es i≤wE es j):=by
   have h0:=Tx
   rw[←apF k L,apo]at h0
   rw[eL,apo,apr]
   refine⟨h0.1,⟨fun x hx=>by rw[uV he];exact Uz x hx,h0.2.1⟩,fun x hx y hy=>?_⟩
   rcases aot.1 hy with rfl|hy
   ·rw[uV he];exact Jx x hx
   ·exact h0.2.2 x hx y hy
  obtain⟨b7',rfl,hb7⟩:∃b',fp7=some b'∧H3.size≤b':=by
   cases fp7 with
   |none=>obtain⟨_,h0,_⟩:=s7;simp at h0
   |some b'=>exact⟨b',rfl,XV b' rfl⟩
  refine vs ?_
  rw[wrap64 (n:=(j:Int)+1) (by omega) (by omega)]
  exact⟨es.length - (j+1),by omega,(f2.trans (f3.trans f36)).then e7 (fun z hz=>by have:=f3.size;omega),b7,j+1,w7,b7',_,rfl,by omega,by omega,hp7,hw7,s7,rfl⟩
 ·have Uz:∀x∈L.drop k,e.w≤wE es x:=by rw[List.drop_eq_nil_of_le (by omega)];simp
  have Xu:=qF s3.rd (lo:=0) (hi:=k) (lo':=((0:Nat):Int)) (hi':=(k:Int)) rfl rfl (by omega) (by omega) hwc
  obtain⟨a5,hv5,hr5,hc5,Tn⟩:=Xu
  rw[aqe,Nat.sub_zero]at hr5 Tn
  have sp2:=qF s3.rd (lo:=k) (hi:=L.length) (lo':=(k:Int)) (hi':=(L.length:Int)) rfl rfl (by omega) (by omega) hwc
  obtain⟨a6,hv6,XQ,hc6,hl6⟩:=sp2
  rw[ap4 (by rw[ap0];omega)]at XQ
  have MH:=aB b3
  have fl:ah H3 (H3.new 3 []):=(ag.refl _ _).new _ _
  have sl:Sl (H3.new 3 []) 1 (.slice (some ⟨H3.size,0,none⟩) 0 0) ([]:List Int).length (([]:List Int).map i64) (some H3.size):=Sl.bU (size:=1) (n:=0) (xs:=[]) rfl rfl
  have XR:=hr5.fresh fl
  have XS:=XQ.fresh fl
  have b4:=fl.own b3 (fun h=>h)
  refine⟨⟨by omega,by omega,by omega,by omega⟩,?_⟩
  refine vs ?_
  rw[hv5]
  have WR:(H3.new 3 []).size=H3.size+1:=by rw[ap]
  generalize H3.new 3 []=H4 at*
  refine ON (B:=H3.size) (xs:=[]) (ys:=L.take k) (fun b hb=>by injection hb with hb;omega) (by omega) sl (by rw[Tn];exact XR) (by simp;omega) ?_
  intro w5 H5 fp5 XT s5 e5
  rw[apk]at s5
  refine vs ?_
  have f45:ah H2 H5:=(f3.trans fl).then e5 (fun z hz=>by have:=f3.size;omega)
  have b5:=e5.own b4 (fun h=>by omega)
  have abX:=XS.ext e5
  refine yd (B:=H3.size) XT (by have:=e5.size;omega) s5 _ (by rw[aoX];omega) ?_
  intro w6 H6 fp6 XU s6 e6
  have b6:=e6.own b5 (fun h=>by omega)
  have f36:ah H3 H6:=(fl.then e5 (fun z hz=>hz)).then e6 (fun z hz=>hz)
  obtain⟨w6a,w6c,rfl,_⟩:=cJ s6
  refine vs ?_
  refine⟨⟨by omega,by omega,by omega,by omega⟩,?_⟩
  refine vs ?_
  rw[hv6]
  refine ON (B:=H3.size) (ys:=L.drop k) XU (f36.size) s6 (by have:=XQ.fresh f36;rw[ap0];exact this) (by simp;omega) ?_
  intro w7 H7 fp7 XV s7 e7
  have b7:=e7.own b6 (fun h=>by omega)
  have eL:L.take k++[(j:Int)]++L.drop k=L.take k++((j:Int)::L.drop k):=by simp
  have hp7:(L.take k++[(j:Int)]++L.drop k).Perm (allI (j+1)):=by
   rw[eL,vK]
   have h1:(L.take k++(j:Int)::L.drop k).Perm ((j:Int)::(L.take k++L.drop k)):=apY
   rw[apF]at h1
   exact h1.trans ((sE.cons _).trans (List.perm_append_singleton _ _).symm)
  have hw7:(L.take k++[(j:Int)]++L.drop k).Pairwise (fun i j=>wE es i≤wE es j):=by
   have h0:=Tx
   rw[←apF k L,apo]at h0
   rw[eL,apo,apr]
   refine⟨h0.1,⟨fun x hx=>by rw[uV he];exact Uz x hx,h0.2.1⟩,fun x hx y hy=>?_⟩
   rcases aot.1 hy with rfl|hy
   ·rw[uV he];exact Jx x hx
   ·exact h0.2.2 x hx y hy
  obtain⟨b7',rfl,hb7⟩:∃b',fp7=some b'∧H3.size≤b':=by
   cases fp7 with
   |none=>obtain⟨_,h0,_⟩:=s7;simp at h0
   |some b'=>exact⟨b',rfl,XV b' rfl⟩
  refine vs ?_
  rw[wrap64 (n:=(j:Int)+1) (by omega) (by omega)]
  exact⟨es.length - (j+1),by omega,(f2.trans (f3.trans f36)).then e7 (fun z hz=>by have:=f3.size;omega),b7,j+1,w7,b7',_,rfl,by omega,by omega,hp7,hw7,s7,rfl⟩
theorem NR{α:Type}{e:α→E2}:∀L:List α,(bT e L).length≤L.length:=by
 refine kj (by simp[bT]) fun L i ih=>?_
 rw[og]
 split
 ·simp;omega
 ·simp;omega
theorem Dj{H:Hp}{n:Int}{a:Option Addr}{c:Nat}{es:List Ed}(h:cO H 3 (.slice a es.length c) es.length (dX es))(hr:fj n es):
  af Tryz.prog G5 [zK n (.slice a es.length c)] H fun v H'=>aw (ah H H'∧∃ (L:List Int) (b:Nat),L.Perm (allI es.length)∧L.Pairwise (fun i j=>wE es i≤wE es j)∧H.size≤b∧Sl H' 1 v (bT (fE es) L).length ((bT (fE es) L).map i64) (some b)):=by
 refine bv Hn ?_
 have Vm:=hr.len
 have f0:ah H (H.new 52 [i64 n,.slice a es.length c]):=(ag.refl _ _).new _ _
 have b0:=az H 52 [i64 n,.slice a es.length c]
 have DE:(H.new 52 [i64 n,.slice a es.length c]).size=H.size+1:=by rw[ap]
 simp(disch:=(first|omega| (simp only[Zs]<;>omega)|fail)) only[go_sem, ↓reduceIte,Zv,zK]
 generalize H.new 52 [i64 n,.slice a es.length c]=H0 at*
 have fo:ah H0 (H0.new 3 []):=(ag.refl _ _).new _ _
 have s0:Sl (H0.new 3 []) 1 (.slice (some ⟨H.size+1,0,none⟩) 0 0) ([]:List Int).length (([]:List Int).map i64) (some (H.size+1)):=Sl.bU (size:=1) (n:=0) (xs:=[]) rfl DE.symm
 have b1:=fo.own b0 (fun h=>h)
 generalize H0.new 3 []=H1 at*
 have f01:=f0.trans fo
 refine(xJ (n:=n) (h.fresh f01) (by omega)).mono ?_
 rintro u H2 ⟨f2,L,bl,sE,Tx,Vq,sL⟩
 obtain⟨la,lc,rfl,_⟩:=cJ sL
 have b2:=f2.own b1 (fun h=>h)
 have s2:=s0.ext f2 (fun _ _ h=>h)
 have hLl:L.length=es.length:=by rw[sE.length_eq,uW]
 have hrL:=sL.rd
 have Ly:H1.size≤H2.size:=f2.size
 have ama:H.size<H1.size:=aB b1
 have hs0:H.size+1<H1.size:=Sl.lt s0
 refine vs ?_
 refine aX.intro (fun m env H'=>ah H H'∧ag (fun z=>H.size+1≤z∧z<bl∨H2.size≤z) H2 H'∧H'.own H.size=some [i64 n,.slice a es.length c]∧∃ (j:Nat) (w:Value) (b:Nat),m=L.length - j∧j≤L.length∧H.size+1≤b∧(b<bl∨H2.size≤b)∧Sl H' 1 w (bT (fE es) (L.take j)).length ((bT (fE es) (L.take j)).map i64) (some b)∧
  env=[(1,ptr H.size),(3,w),(9,.slice la L.length lc),(10,i64 L.length),(11,i64 j)]) L.length ⟨f01.trans f2,ag.refl _ _,b2,0,_,H.size+1,by omega,by omega,by omega,.inl (by omega),s2,rfl⟩ ?_
 clear s0 b1 fo b0 f0 s2
 rintro m env H3 ⟨f3,e3,b3,j,w,b,hm,hj,hb,VL,s3,rfl⟩
 have MH:=aB b3
 have h3:=h.fresh f3
 have amb:bl<H2.size:=Sl.lt sL
 have rL3:=(sL.ext e3 (fun x hx h=>by injection hx with hx;omega)).rd
 obtain⟨g1,g2,g3⟩:=vx (e:=fE es) (L.take j)
 have gin:∀i∈bT (fE es) (L.take j),LO es i:=fun i hi=>js.1 (sE.mem_iff.1 (List.mem_of_mem_take (g2 i hi)))
 have dk:(bT (fE es) (L.take j)).length≤65536:=by
  have:=NR (e:=fE es) (L.take j)
  rw[aoX]at this
  omega
 refine vs ?_
 refine am.dec (fun aO=>?_) (fun aO=>?_)<;>refine vs ?_
 rotate_left
 ·have fS:j=L.length:=by omega
  subst fS
  rw[aoP]at s3
  exact⟨f3,L,b,sE,Tx,by omega,s3⟩
 obtain⟨x,hx⟩:∃x,L[j]? =some x:=⟨_,aoh (by omega)⟩
 have R0:LO es x:=js.1 (sE.mem_iff.1 (aon hx))
 obtain⟨ix,ex,rfl,hex,abT⟩:=R0.get
 obtain⟨_,bx,ox,lx,rfl,XW,fu⟩:=cO.num rL3 hx
 obtain⟨wa,wc,rfl,_⟩:=cJ s3
 refine⟨⟨by omega,by omega⟩,?_⟩
 refine v5 XW Int.toNat_natCast aol fu (ae b3) ?_
 refine(gu h3 s3.rd hr gin (by omega)).mono ?_
 rintro u H4 ⟨f4,bp,hbp,s4⟩
 have b4:=f4.own b3 (fun h=>h)
 obtain⟨ef0,ef1,et0,et1⟩:=hr.ends ex (aon hex)
 obtain⟨pa,pc,rfl,_⟩:=cJ s4
 obtain⟨_,rfl,lp,Aa,B0⟩:=Sl.num s4 (iK ((bT (fE es) (L.take j)).map (fE es)) (v:=ex.f.toNat) (by omega))
 obtain⟨_,_,lp',UD,qK⟩:=Sl.num s4 (iK ((bT (fE es) (L.take j)).map (fE es)) (v:=ex.t.toNat) (by omega))
 rw[Aa]at UD
 injection UD with UD
 subst UD
 obtain⟨_,be,oe,le,rfl,Bl,abU,O8,hd0,Pn,iP⟩:=cO.oV (h3.fresh f4) hex
 refine v1 (ae b4) ?_
 refine⟨⟨by omega,by omega⟩,?_⟩
 refine v4 Bl Int.toNat_natCast Nat.add_zero hd0 ?_
 refine⟨⟨by omega,by omega⟩,?_⟩
 refine v5 (ae Aa) aol aoi B0 (ae b4) ?_
 refine⟨⟨by omega,by omega⟩,?_⟩
 refine v3 Bl Int.toNat_natCast Pn ?_
 refine⟨⟨by omega,by omega⟩,?_⟩
 refine v4 (ae Aa) aol aoi qK ?_
 have LR:bT (fE es) (L.take (j+1))=if bF ((bT (fE es) (L.take j)).map (fE es)) ex.f.toNat ex.t.toNat then bT (fE es) (L.take j)else bT (fE es) (L.take j)++[(ix:Int)]:=by
  have:L.take (j+1)=L.take j++[(ix:Int)]:=by rw[aoT,hx];rfl
  rw[this,og,BA hex]
 have ZB:=wrap64 (n:=(j:Int)+1) (by omega) (by omega)
 have e4:ag (fun z=>H.size+1≤z∧z<bl∨H2.size≤z) H2 H4:=e3.trans (f4.mono fun _ _ h=>h.elim)
 have s34:=s3.ext f4 (fun _ _ h=>h)
 refine am.dec (fun hq=>?_) (fun hq=>?_)<;>refine vs ?_
 ·have hh:bF ((bT (fE es) (L.take j)).map (fE es)) ex.f.toNat ex.t.toNat:=by show aD _ _=aD _ _;omega
  rw[if_pos hh]at LR
  rw[ZB]
  exact⟨L.length - (j+1),by omega,f3.trans f4,e4,b4,j+1,_,b,rfl,by omega,hb,VL,by rw[LR];exact s34,rfl⟩
 ·have hh:¬bF ((bT (fE es) (L.take j)).map (fE es)) ex.f.toNat ex.t.toNat:=fun h=>hq (by have:aD ((bT (fE es) (L.take j)).map (fE es)) ex.f.toNat=aD ((bT (fE es) (L.take j)).map (fE es)) ex.t.toNat:=h;rw[this])
  rw[if_neg hh]at LR
  have fl:ah H4 (H4.new 3 [i64 ix]):=(ag.refl _ _).new _ _
  refine Sl.append (s34.ext fl (fun _ _ h=>h)) (Sl.bU (size:=1) (n:=1) (xs:=[i64 ix]) rfl rfl).rd rfl (rR [(ix:Int)]) (by omega) ?_
  intro w' H5 cP s5 e5 ir
  have ame:H3.size≤H4.size:=f4.size
  have amf:H2.size≤H3.size:=e3.size
  have amg:=fl.size
  obtain⟨b',rfl,jY,agW⟩:∃b',cP=some b'∧H.size+1≤b'∧(b'<bl∨H2.size≤b'):=by
   rcases ir with h| ⟨b',h,h1,h2⟩
   ·exact⟨b,h,hb,VL⟩
   ·rw[ap]at h1
    exact⟨b',h,by omega,.inr (by omega)⟩
  refine vs ?_
  rw[ZB]
  exact⟨L.length - (j+1),by omega,(f3.trans (f4.trans fl)).then e5 (fun z (hz:some b=some z)=>by injection hz with hz;omega),(e4.trans (fl.mono fun _ _ h=>h.elim)).nu e5 (fun z _ (hz:some b=some z)=>by injection hz with hz;omega),(e5.own (fl.own b4 (fun h=>h)) (fun(hz:some b=some _)=>by injection hz with hz;omega)),j+1,w',b',rfl,by omega,jY,agW,by rw[LR,aor,aoN];exact s5,rfl⟩
theorem oD{H:Hp}{n:Int}{a a':Option Addr}{c c':Nat}{es:List Ed}{ks:List Int}(h:cO H 3 (.slice a es.length c) es.length (dX es))(h':cO H 1 (.slice a' ks.length c') ks.length (ks.map i64))
  (hk:∀i∈ks,LO es i)(hl:ks.length≤1000000)(hw:∀e∈es, -9223372036854775808≤e.w∧e.w≤9223372036854775807)(Vm:es.length≤1000000000):
  af Tryz.prog Fc [zK n (.slice a es.length c),.slice a' ks.length c'] H fun v H'=>aw (v=Io (J2 (ks.map (wE es)).sum)∧ah H H'):=by
 refine bv Fj ?_
 have f0:ah H (H.new 52 [i64 n,.slice a es.length c]):=(ag.refl _ _).new _ _
 have b0:=az H 52 [i64 n,.slice a es.length c]
 have DE:(H.new 52 [i64 n,.slice a es.length c]).size=H.size+1:=by rw[ap]
 simp(disch:=(first|omega| (simp only[Zs]<;>omega)|fail)) only[go_sem, ↓reduceIte,Zv,zK]
 generalize H.new 52 [i64 n,.slice a es.length c]=H0 at*
 have fr:ah H0 (H0.new 39 [i64 0,u64 0]):=(ag.refl _ _).new _ _
 have r1:(H0.new 39 [i64 0,u64 0]).own (H.size+1)=some [i64 0,u64 0]:=aU DE.symm
 have Ly:(H0.new 39 [i64 0,u64 0]).size=H.size+2:=by rw[ap,DE]
 have b1:=fr.own b0 (fun h=>h)
 generalize H0.new 39 [i64 0,u64 0]=H1 at*
 have fo:ah H1 (H1.new 2 []):=(ag.refl _ _).new _ _
 have s0:Sl (H1.new 2 []) 1 (.slice (some ⟨H.size+2,0,none⟩) 0 0) ([]:List Int).length (([]:List Int).map i64) (some (H.size+2)):=Sl.bU (size:=1) (n:=0) (xs:=[]) rfl Ly.symm
 have b2:=fo.own b1 (fun h=>h)
 have r2:=fo.own r1 (fun h=>h)
 generalize H1.new 2 []=H2 at*
 have f02:=f0.trans (fr.trans fo)
 refine aX.intro (fun m env H'=>ah H H'∧H'.own H.size=some [i64 n,.slice a es.length c]∧H'.own (H.size+1)=some [i64 0,u64 0]∧∃ (j:Nat) (w:Value) (b:Nat),m=ks.length - j∧j≤ks.length∧H.size+2≤b∧Sl H' 1 w ((ks.take j).map (wE es)).length (((ks.take j).map (wE es)).map i64) (some b)∧
  env=[(2,ptr H.size),(4,ptr (H.size+1)),(5,w),(9,.slice a' ks.length c'),(10,i64 ks.length),(11,i64 j)]) ks.length ⟨f02,b2,r2,0,_,H.size+2,by omega,by omega,by omega,s0,rfl⟩ ?_
 clear s0 b1 fo b0 f0 b2 r2 r1
 rintro m env H3 ⟨f3,b3,r3,j,w,b,hm,hj,hb,s3,rfl⟩
 have MH:=aB r3
 have h3:=h.fresh f3
 have MK:=h'.fresh f3
 refine vs ?_
 refine am.dec (fun aO=>?_) (fun aO=>?_)<;>refine vs ?_
 ·obtain⟨x,hx⟩:∃x,ks[j]? =some x:=⟨_,aoh (by omega)⟩
  obtain⟨ix,ex,rfl,hex,abT⟩:=(hk x (aon hx)).get
  obtain⟨_,bx,ox,lx,rfl,XW,fu⟩:=cO.num MK hx
  obtain⟨_,be,oe,le,rfl,Bl,abU,O8,hd0,Pn,iP⟩:=cO.oV h3 hex
  refine⟨⟨by omega,by omega⟩,?_⟩
  refine v5 XW Int.toNat_natCast aol fu (ae b3) ?_
  refine⟨⟨by omega,by omega⟩,?_⟩
  refine v3 Bl Int.toNat_natCast iP ?_
  have LR:(ks.take (j+1)).map (wE es)=(ks.take j).map (wE es)++[ex.w]:=by rw[aoT,hx,aoN];simp[uV hex]
  refine IE (B:=H.size+2) hb (by omega) s3 _ (by simp;omega) ?_
  intro w' H' b' jY s' e'
  rw[←LR]at s'
  refine vs ?_
  rw[wrap64 (n:=(j:Int)+1) (by omega) (by omega)]
  exact⟨ks.length - (j+1),by omega,f3.then e' (fun z hz=>by omega),e'.own b3 (fun h=>by omega),e'.own r3 (fun h=>by omega),j+1,w',b',rfl,by omega,jY,s',rfl⟩
 ·have fS:j=ks.length:=by omega
  subst fS
  rw[aoP]at s3
  obtain⟨wa,wc,rfl,_⟩:=cJ s3
  have SF:∀x∈ks.map (wE es), -9223372036854775808≤x∧x≤9223372036854775807:=fun x hx=>by
   obtain⟨i,hi,rfl⟩:=aoC.1 hx
   obtain⟨ik,e,rfl,he,_⟩:=(hk i hi).get
   rw[uV he]
   exact hw e (aon he)
  refine(Di s3.rd (by simp;omega) SF).mono ?_
  rintro _ H4 ⟨rfl,f4⟩
  rw[SD SF (by simp;omega)]
  have r4:=f4.own r3 (fun h=>h)
  have r5:=ai (l:=[i64 (J2 (ks.map (wE es)).sum).1,u64 (J2 (ks.map (wE es)).sum).2]) r4
  simp(disch:=(first|omega| (simp only[Zs]<;>omega)|fail)) only[go_sem, ↓reduceIte,Zv,Io,r4,ae r5]
  exact⟨rfl,(f3.trans f4).then ((ag.refl (fun z=>z=H.size+1) _).wr (fun _=>rfl) _) (fun z hz=>by omega)⟩
theorem SG(s t:Int×Nat):cr .eql (.s [(0,(none,.int)),(1,(none,.int))]) (Io s) (Io t)=some (.bool (decide (s=t))):=by
 obtain⟨a,b⟩:=s
 obtain⟨c,d⟩:=t
 have h:xx [(0,(none,.int)),(1,(none,.int))] [i64 a,u64 (b:Int)] [i64 c,u64 (d:Int)]=some (decide ((a,b)=(c,d))):=by
  by_cases h1:a=c
  ·by_cases h2:b=d
   ·simp[xx,Vc.ee,nZ,bj,h1,h2]
   ·have:¬ ((b:Int)=(d:Int)):=by omega
    simp[xx,Vc.ee,nZ,bj,h1,h2,this]
  ·simp[xx,Vc.ee,nZ,bj,h1]
 show(nZ _ _ _).map _=_
 simp only[Io,nZ]
 rw[h]
 rfl
theorem wf_i64{x:Int}(h:(Lit.int .i64 x).wf=true): -9223372036854775808≤x∧x≤9223372036854775807:=by
 have e1:IntKind.i64.min= -9223372036854775808:=rfl
 have e2:IntKind.i64.max=9223372036854775807:=rfl
 simp only[Lit.wf,e1,e2,ao7,aoL]at h
 omega
def abZ(e:Ed):Prop:=(-9223372036854775808≤e.f∧e.f≤9223372036854775807)∧(-9223372036854775808≤e.t∧e.t≤9223372036854775807)∧(-9223372036854775808≤e.w∧e.w≤9223372036854775807)
theorem SH:∀ {rows:List (List Value)},(∀r∈rows,nB M8 [.i .i64,.i .i64,.i .i64] r)→∃es:List Ed,rows.flatten=dX es∧es.length=rows.length∧∀e∈es,abZ e:=by
 intro rows
 induction rows with
 |nil=>intro _;exact⟨[],rfl,rfl,fun x hx=>by cases hx⟩
 |cons r rows ih=>
  intro h
  obtain⟨es,e1,e2,e3⟩:=ih fun q hq=>h q (aoQ _ hq)
  obtain⟨_,_,rfl,⟨a,rfl,ha⟩,_,_,rfl,⟨b,rfl,hb⟩,_,_,rfl,⟨c,rfl,hc⟩,rfl⟩:=h r ao5
  refine⟨⟨a,b,c⟩::es,?_,by simp[e2],fun x hx=>?_⟩
  ·rw[apc,e1,rY];rfl
  ·rcases aot.1 hx with rfl|hx
   ·exact⟨wf_i64 ha,wf_i64 hb,wf_i64 hc⟩
   ·exact e3 x hx
theorem NS{H:Hp}{v:Value}(h:HE H (true,[.k (.i .i64),.sl [.i .i64,.i .i64,.i .i64]]) v):∃ (n:Int) (es:List Ed) (a:Option Addr) (c:Nat),v=zK n (.slice a es.length c)∧
  cO H 3 (.slice a es.length c) es.length (dX es)∧es.length≤c∧es.length≤maxLen∧(-9223372036854775808≤n∧n≤9223372036854775807)∧∀e∈es,abZ e:=by
 obtain⟨cs,rfl,_,_,rfl,⟨n,rfl,hn⟩,_,_,rfl,⟨rows,hr,Dz,XX,a,c,rfl,Tg⟩,rfl⟩:=h
 obtain⟨es,e1,e2,e3⟩:=SH Dz
 rw[e1,←e2]at hr
 rw[←e2]at Tg XX ⊢
 exact⟨n,es,a,c,rfl,hr,Tg,XX,wf_i64 hn,e3⟩
theorem NT{H:Hp}{v:Value}(h:HE H (true,[.k (.i .i64),.k (.i .i64)]) v):∃x y:Int,v= .agg #[i64 x,i64 y]:=by
 obtain⟨cs,rfl,_,_,rfl,⟨x,rfl,hx⟩,_,_,rfl,⟨y,rfl,hy⟩,rfl⟩:=h
 exact⟨x,y,rfl⟩
end Go.Proofs.YtjlnnljohemifaaGreat
