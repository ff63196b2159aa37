/- Texts put behind each other. -/
import Derived.Test.YtjlnnljohemifaaGreatK98
import Derived.Test.YtjlnnljohemifaaGreatK1
import Derived.Test.YtjlnnljohemifaaGreatK9
import Derived.Test.YtjlnnljohemifaaGreatK13
import Derived.Test.YtjlnnljohemifaaGreatK17
import Derived.Test.YtjlnnljohemifaaGreatK19
import Derived.Test.YtjlnnljohemifaaGreatK20
import Derived.Test.YtjlnnljohemifaaGreatK21
import Derived.Test.YtjlnnljohemifaaGreatK22
import Derived.Test.YtjlnnljohemifaaGreatK23
set_option maxRecDepth 100000
set_option maxHeartbeats 8000000
set_option linter.unusedVariables false
set_option linter.unusedSimpArgs false
namespace Go.Proofs.YtjlnnljohemifaaGreat
open Go Go.Vc
theorem zO{H:Hp}{bx:Nat}{a:Option Addr}{c:Nat}{xs:List Int}(hb:H.own bx=some [.slice a xs.length c])(h:cO H 1 (.slice a xs.length c) xs.length (xs.map i64))(hm:xs.length≤1000000)(x:Int):
  af Tryz.prog ja [i64 x,ptr bx] H fun v H'=>aw (v= .bool (decide (x∈xs))∧H'=H):=by
 refine vA mixed (an:=rF) (by conv=>lhs;cbv) (nt:=7) (by kernel_rfl) (by simp) ?_
 refine v1 (ae hb) ?_
 refine(uN h x (by omega)).mono ?_
 rintro _ H' ⟨rfl,e⟩
 obtain rfl:=e.symm
 refine vs ?_
 exact⟨rfl,rfl⟩
section
variable {H H' : Hp} {ro ro' : Nat → Rl} {nn fb tb c : Nat} {C : Nat → Prop} {w : Nw} {l : List Value} {V : Int → Value} {ch : Int → List Int} {par : Int → Int} {kb : Int → Option Nat} {va vb : Value} {a b W0 : List Int} {lt : Int → Int → Bool} {rows : Int → List Int} {g : Int}
def Xx(e:Env)(fb nn bx:Nat)(va vo vn:Value)(k:Nat):Prop:=
 e.find 0=some (ptr fb)∧e.find 1=some (.iface 198 (ptr nn))∧e.find 2=some va∧e.find 7=some (ptr bx)∧e.find 10=some vo∧e.find 11=some vn∧e.find 12=some (i64 k)
theorem JU{P:Program}{A B:S}{env:Env}{H:Hp}{Kn:Env→Hp→Prop}{Kx:Nat→Env→Hp→Prop}{Kr:Env→Hp→Prop}(I:Env→Hp→Prop)(h:vc P A env H I Kx Kr)(k:∀e h,I e h→vc P B e h Kn Kx Kr):vc P (.seq A B) env H Kn Kx Kr:=
 DG A env H _ _ _ _ _ _ k (fun _ _ _ h=>h) (fun _ _ h=>h) h
theorem o8.agt(h:o8 H ro nn fb tb c C w H' ro' l V ch par kb va vb a b):o8 H ro nn fb tb c C w H' ro' l V ch par kb (.slice none 0 0) (.slice none 0 0) [] []:=
 ⟨h.m,h.cq,h.hC,h.own,h.hn,h.hz,h.rk,⟨none,0,rfl,aou _,.inl rfl⟩,⟨none,0,rfl,aou _,.inl rfl⟩,h.e⟩
theorem o8.agu{va':Value}{a':List Int}(h:o8 H ro nn fb tb c C w H' ro' l V ch par kb va vb a b)(r:Gg H' ro' H.size va' a'):o8 H ro nn fb tb c C w H' ro' l V ch par kb va' vb a' b:=
 ⟨h.m,h.cq,h.hC,h.own,h.hn,h.hz,h.rk,r,h.rb,h.e⟩
theorem o8.Sp{vb':Value}{b':List Int}(h:o8 H ro nn fb tb c C w H' ro' l V ch par kb va vb a b)(r:Gg H' ro' H.size vb' b'):o8 H ro nn fb tb c C w H' ro' l V ch par kb va vb' a b':=
 ⟨h.m,h.cq,h.hC,h.own,h.hn,h.hz,h.rk,h.ra,r,h.e⟩
theorem o8.Da{H3:Hp}{vo:Value}{out:List Int}{nb IR fo:Option Nat}(h:o8 H ro nn fb tb c C w H' ro' l V ch par kb va vb a b)(bx:H'.own H.size=some [vb])(so:Sl H' 1 vo out.length (out.map i64) fo)
  (hd:∀z,nb=some z∨fo=some z→H.size<z∧z<H'.size∧ro' z= .no)(T2:∀z,nb=some z→fo=some z→False)(e3:ag (fun z=>nb=some z) H' H3)(DP:IR=nb∨∃z,IR=some z∧H'.size≤z∧z<H3.size):
  o8 H ro nn fb tb c C w H3 ro' l V ch par kb va vb a b∧H3.own H.size=some [vb]∧Sl H3 1 vo out.length (out.map i64) fo∧(∀z,IR=some z∨fo=some z→H.size<z∧z<H3.size∧ro' z= .no)∧(∀z,IR=some z→fo=some z→False):=by
 have ml:=aB bx
 have hs:=e3.size
 refine⟨h.Us e3 (fun z hz=>by have:=hd z (.inl hz);exact⟨by omega,this.2.2⟩),e3.own bx (fun hz=>by have:=hd _ (.inl hz);omega),so.ext e3 (fun z h1 h2=>T2 z h2 h1),fun z hz=>?_,fun z h1 h2=>?_⟩
 ·rcases hz with hz|hz
  ·rcases DP with h1| ⟨y,h1,h2,h3⟩
   ·rw[h1]at hz
    have:=hd z (.inl hz)
    exact⟨this.1,by omega,this.2.2⟩
   ·rw[h1]at hz
    injection hz with hz
    subst hz
    exact⟨by omega,h3,h.hz _ h2⟩
  ·have:=hd z (.inr hz)
   exact⟨this.1,by omega,this.2.2⟩
 ·rcases DP with h3| ⟨y,h3,h4,h5⟩
  ·exact T2 z (by rw[←h3];exact h1) h2
  ·rw[h3]at h1
   injection h1 with h1
   have:=hd z (.inr h2)
   omega
def Sq(H0:Hp)(Xw:Nat→Rl)(nn fb tb c:Nat)(C:Nat→Prop)(w:Nw)(lt:Int→Int→Bool)(rows:Int→List Int)(W0:List Int)(g:Int)(GX:Int→List Int)(k ia ib io:Nat)(pn:Nat→Prop)(H:Hp)(va vb vn vo:Value):Prop:=
 ∃ (a b now out:List Int) (nb fo:Option Nat) (ro:Nat→Rl) (l:List Value) (V:Int→Value) (ch:Int→List Int) (par:Int→Int) (kb:Int→Option Nat),
  o8 H0 Xw nn fb tb c C w H ro l V ch par kb va vb a b∧jz (aG w) lt ch par rows (now++(a++(b++(out++W0))))∧mT (aG w) ch g k ia ib io a b now out∧pn now.length∧
  H.own H0.size=some [vb]∧ro H0.size= .no∧If H vn now nb∧Sl H 1 vo out.length (out.map i64) fo∧(∀z,nb=some z∨fo=some z→H0.size<z∧z<H.size∧ro z= .no)∧(∀z,nb=some z→fo=some z→False)∧(∀z∈W0,ch z=GX z)
theorem Db(h0:o8 H ro nn fb tb c C w H ro l V ch par kb va vb a b)(aO:∀a b,aQ w a b=true→lt a b=true)(f0:jz (aG w) lt ch par rows (a++(b++W0)))(hra:E6 ch a)(Xy:E6 ch b)(hg:∀c,c∈a∨c∈b→aG w c=g):
  af Tryz.prog kJ [ptr fb,.iface 198 (ptr nn),va,vb] H fun v H'=>aw (∃out ro' l' V' dO bG tM vo fo,v= .tuple [vo,.bool true].toArray∧o8 H ro nn fb tb c C w H' ro' l' V' dO bG tM (.slice none 0 0) (.slice none 0 0) [] []∧
   Sl H' 1 vo out.length (out.map i64) fo∧(∀z,fo=some z→H.size≤z∧ro' z= .no)∧jz (aG w) lt dO bG rows (out++W0)∧E6 dO out∧(∀c∈out,aG w c=g)∧∀z∈W0,dO z=ch z):=by
 have xq:=h0.cq.Ee
 obtain⟨aa,ca,rfl,Zx⟩:=h0.ra.cap
 obtain⟨ab,cb,rfl,GM⟩:=h0.rb.cap
 obtain⟨n1,n2,n3⟩:=ao1.1 f0.wn
 have bJ:∀x∈a++(b++W0),(0≤x∧x<w.cs.length)∧par x= -1:=fun x hx=>⟨f0.R4 (hm:=aG w) hx,(f0.wm x hx).1⟩
 have hla:=bZ n1 fun c hc=>(bJ c (aox _ hc)).1
 have Dz:=bZ (ao1.1 n2).1 fun c hc=>(bJ c (apd _ (aox _ hc))).1
 refine GO um ⟨rfl,?_⟩
 refine v1 kR.eq_1 ?_
 have e1:ag (fun z=>H.size≤z) H (H.new 24 [.slice ab b.length cb]):=((ag.refl _ _).new _ _:ah H _).mono fun _ _ h=>h.elim
 have bx1:(H.new 24 [.slice ab b.length cb]).own H.size=some [.slice ab b.length cb]:=az _ _ _
 have z1:(H.new 24 [.slice ab b.length cb]).size=H.size+1:=ap _ _ _
 have h1:=h0.Us e1 (fun z hz=>⟨hz,h0.hz z hz⟩)
 generalize H.new 24 [.slice ab b.length cb]=H1 at*
 refine(uX h1.m h1.ra.rd (fun x hx=>bJ x (aox _ hx)) hra (by omega)).mono ?_
 rintro _ H' ⟨rfl,e⟩
 obtain rfl:=e.symm
 refine v1 (ae bx1) ?_
 refine(uX h1.m h1.rb.rd (fun x hx=>bJ x (apd _ (aox _ hx))) Xy (by omega)).mono ?_
 rintro _ H' ⟨rfl,e⟩
 obtain rfl:=e.symm
 refine vs ?_
 refine(zN (H:=H1) ja [ptr H.size] (fun x=>decide (x∈b)) (fun H'=>H'=H1) rfl (fun H' hI=>by rw[hI];exact h1.ra.rd) (by kernel_rfl) (fun H' x hx hI=>?_) (by omega)).mono ?_
 ·rw[hI]
  exact zO bx1 h1.rb.rd (by omega) x
 rintro _ H' ⟨rfl,e⟩
 obtain rfl:=e.symm
 have abB:(a.any fun x=>decide (x∈b))=false:=List.any_eq_false.2 fun x hx=>by
  simp only[aoK]
  exact fun hb=>n3 x hx x (aox _ hb) rfl
 rw[abB]
 refine vs ?_
 have i0:mT (aG w) ch g 0 0 0 0 a b [] []:=⟨hra,Xy,List.Pairwise.nil,fun _ _=>ap1 _,fun _ _=>ap1 _,by simp,by simp,fun c hc=>hg c (by simpa using hc)⟩
 have d0:∀z,((none:Option Nat)=some z∨(none:Option Nat)=some z)→H.size<z∧z<H1.size∧ro z= .no:=fun z hz=>by rcases hz with h|h<;>cases h
 have d00:∀z,(none:Option Nat)=some z→(none:Option Nat)=some z→False:=fun z h=>by cases h
 have cz0:Sq H ro nn fb tb c C w lt rows W0 g ch 0 0 0 0 (fun n=>n≤1) H1 (.slice aa a.length ca) (.slice ab b.length cb) (.slice none 0 0) (.slice none 0 0):=
  ⟨a,b,[],[],none,none,ro,l,V,ch,par,kb,h1,f0,i0,ap1 _,bx1,h0.hz _ (aou _),If.nil _ _,Sl.nil _ _,d0,d00,fun _ _=>rfl⟩
 refine aW.intro (fun mm env H'=>∃ (k:Nat) (va vb vn vo:Value),mm=w.cs.length+1 - k∧Sq H ro nn fb tb c C w lt rows W0 g ch k k k k (fun n=>n≤1) H' va vb vn vo∧
  env=[(0,ptr fb),(1,.iface 198 (ptr nn)),(2,va),(7,ptr H.size),(10,vo),(11,vn),(12,i64 k)]) _ ⟨0,_,_,_,_,rfl,cz0,rfl⟩ ?_
 clear h1 i0 bx1 f0 hra Xy hg bJ n1 n2 n3 hla Dz abB h0 e1 d0 d00 cz0 Zx GM
 rintro mm env H2 ⟨k,va,vb,vn,vo,rfl,Tu,rfl⟩
 obtain⟨a,b,now,out,nb,fo,n7,l2,V2,lE,jr,DE,h2,f2,i2,Qj,pF,DH,EC,DI,iO,qF,ED⟩:=id Tu
 obtain⟨aa,ca,rfl,Zx⟩:=h2.ra.cap
 obtain⟨ab,cb,rfl,GM⟩:=h2.rb.cap
 obtain⟨an,cn,rfl,PY⟩:=EC.cap
 obtain⟨ao,co,rfl⟩:=Sl.shape DI
 have NL:=aB pF
 have gA:=f2.wn
 have cX:=bZ gA fun c hc=>f2.R4 (hm:=aG w) hc
 simp only[aoq]at cX
 refine v1 (ae pF) ?_
 rw[wrap64 (n:=(a.length:Int)+b.length) (by omega) (by omega),wrap64 (n:=(a.length:Int)+b.length+now.length) (by omega) (by omega)]
 refine am.dec (fun Wp=>?_) (fun Wp=>?_)
 rotate_left
 ·refine vs ?_
  have TY:a=[]:=aoQ.1 (by omega)
  have Rv:b=[]:=aoQ.1 (by omega)
  have Lm:now=[]:=aoQ.1 (by omega)
  subst TY Rv Lm
  refine⟨out,n7,l2,V2,lE,jr,DE,_,fo,rfl,h2.agt,DI,fun z hz=>⟨by have:=iO z (.inr hz);omega,(iO z (.inr hz)).2.2⟩,f2,i2.ro,fun c hc=>i2.hg c (.inr (.inr (.inr hc))),ED⟩
 have aZ:∀z,(lE z).length≤w.cs.length:=fun z=>bZ (f2.pr.nd z) fun c hc=>h2.m.GU z c hc
 have hk:k≤w.cs.length:=by
  by_cases TY:a=[]
  ·by_cases Rv:b=[]
   ·obtain⟨x,hx⟩:∃x,x∈now:=by
     cases now with
     |nil=>subst TY Rv;simp at Wp
     |cons x r=>exact⟨x,by simp⟩
    have:=i2.kn x hx
    have:=aZ x
    omega
   ·obtain⟨x,r,rfl⟩:=apC Rv
    have:=i2.kb x (by simp)
    have:=aZ x
    omega
  ·obtain⟨x,r,rfl⟩:=apC TY
   have:=i2.ka x (by simp)
   have:=aZ x
   omega
 clear Wp aZ cX gA
 rw[Ss,Ut,Xz,XA]
 refine JU (fun e h=>∃va vb vn vo,Sq H ro nn fb tb c C w lt rows W0 g ch k (k+1) k k (fun n=>n≤2) h va vb vn vo∧Xx e fb nn H.size va vo vn k) ?_ ?_
 ·refine vs ?_
  refine am.dec (fun ga=>?_) (fun ga=>?_)
  ·obtain⟨x,r,rfl⟩:∃x r,a=x::r:=apC (fun h=>by rw[h]at ga;simp at ga)
   obtain⟨pb,po,pl,pc,hv,eW,PO,bX,hpc⟩:=h2.ra.head
   injection hv with DJ B1 hv3
   subst DJ hv3
   refine vs ?_
   refine⟨⟨by omega,by omega⟩,?_⟩
   refine v5 eW bX Int.toNat_zero aoZ Nat.add_zero ?_
   refine(dc h2.m x).mono ?_
   rintro _ H' ⟨rfl,e⟩
   obtain rfl:=e.symm
   refine vs ?_
   refine am.dec (fun gd=>?_) (fun gd=>?_)
   ·refine vs ?_
    refine⟨⟨by omega,by omega⟩,?_⟩
    refine v5 eW bX Int.toNat_zero aoZ Nat.add_zero ?_
    refine EC.push x (by omega) fun w' H3 IR DP Qk e3=>?_
    obtain⟨h3,Dc,NM,Gh,Dd⟩:=h2.Da pF DI iO qF e3 DP
    refine vs ?_
    have uM:(x::r).length=r.length+1:=aoC
    refine⟨⟨by omega,by omega,by omega,by omega⟩,?_⟩
    refine vs ?_
    have fp:now++(x::r++(b++(out++W0)))=now++[x]++(r++(b++(out++W0))):=by simp
    rw[fp]at f2
    exact⟨_,_,_,_,⟨r,b,now++[x],out,IR,fo,n7,l2,V2,lE,jr,DE,h3.agu (h3.ra.tail _),f2,i2.aap (by omega),by rw[aoq,aoz];omega,Dc,DH,Qk,NM,Gh,Dd,ED⟩,rfl,rfl,rfl,rfl,rfl,rfl,rfl⟩
   ·refine vs ?_
    exact⟨_,_,_,_,⟨x::r,b,now,out,nb,fo,n7,l2,V2,lE,jr,DE,h2,f2,i2.Vj (fun c hc=>by injection hc with hc;rw[←hc];omega),by omega,pF,DH,EC,DI,iO,qF,ED⟩,rfl,rfl,rfl,rfl,rfl,rfl,rfl⟩
  ·refine vs ?_
   have TY:a=[]:=aoQ.1 (by omega)
   exact⟨_,_,_,_,⟨a,b,now,out,nb,fo,n7,l2,V2,lE,jr,DE,h2,f2,i2.Vj (fun c hc=>by rw[TY]at hc;cases hc),by omega,pF,DH,EC,DI,iO,qF,ED⟩,rfl,rfl,rfl,rfl,rfl,rfl,rfl⟩
 clear Tu h2 f2 i2 Qj pF DH EC DI iO qF ED NL Zx GM PY
 rintro e2 H2 ⟨va,vb,vn,vo,Tu,hv⟩
 obtain⟨a,b,now,out,nb,fo,n7,l2,V2,lE,jr,DE,h2,f2,i2,Qj,pF,DH,EC,DI,iO,qF,ED⟩:=id Tu
 obtain⟨ab,cb,rfl,GM⟩:=h2.rb.cap
 obtain⟨an,cn,rfl,PY⟩:=EC.cap
 have NL:=aB pF
 obtain⟨Ig,DJ,B1,Ih,pe,pg,ph⟩:=hv
 refine JU (fun e h=>∃va vb vn vo,Sq H ro nn fb tb c C w lt rows W0 g ch k (k+1) (k+1) k (fun n=>n≤3) h va vb vn vo∧Xx e fb nn H.size va vo vn k) ?_ ?_
 ·refine v8 Ig DJ B1 Ih pe pg ph (ae pF) ?_
  refine am.dec (fun gb=>?_) (fun gb=>?_)
  ·obtain⟨x,r,rfl⟩:∃x r,b=x::r:=apC (fun h=>by rw[h]at gb;simp at gb)
   obtain⟨pb,po,pl,pc,hv,eW,PO,bX,hpc⟩:=h2.rb.head
   injection hv with St abC Su
   subst St Su
   refine v8 Ig DJ B1 Ih pe pg ph (ae pF) ?_
   refine⟨⟨by omega,by omega⟩,?_⟩
   refine v12 eW bX Int.toNat_zero aoZ Nat.add_zero Ig DJ B1 Ih pe pg ph ?_
   refine(dc h2.m x).mono ?_
   rintro _ H' ⟨rfl,e⟩
   obtain rfl:=e.symm
   refine v7 Ig DJ B1 Ih pe pg ph ?_
   have uM:(x::r).length=r.length+1:=aoC
   have fp:(now++(a++(x::r++(out++W0)))).Perm (now++[x]++(a++(r++(out++W0)))):=by
    rw[apV]
    intro z
    simp only[aqa,ap7,aps,List.count_nil]
    omega
   refine am.dec (fun gd=>?_) (fun gd=>?_)
   ·refine vs ?_
    replace f2:=f2.perm fp
    refine jB.intro (fun _=>True) trivial ?_
    refine vs ?_
    refine EM.intro ?_ ?_
    ·refine v6 (ae pF) eW bX Int.toNat_zero aoZ Nat.add_zero ?_
     refine⟨⟨by omega,by omega⟩,?_⟩
     refine v6 (ae pF) eW bX Int.toNat_zero aoZ Nat.add_zero ?_
     refine EM.intro ?_ ?_
     ·refine v6 (ae pF) eW bX Int.toNat_zero aoZ Nat.add_zero ?_
      refine EM.intro ?_ ?_
      ·refine v6 (ae pF) eW bX Int.toNat_zero aoZ Nat.add_zero ?_
       refine EM.intro ?_ ?_
       ·refine vs ?_
        refine EC.push x (by omega) fun w' H3 IR DP Qk e3=>?_
        obtain⟨h3,Dc,NM,Gh,Dd⟩:=h2.Da pF DI iO qF e3 DP
        refine v8 (ae Dc) Dc eW bX Int.toNat_zero aoZ Nat.add_zero aoh ?_
        refine⟨⟨by omega,by omega,by omega,by omega⟩,?_⟩
        refine v8 (ae Dc) Dc eW bX Int.toNat_zero aoZ Nat.add_zero aoh ?_
        have e4:∀v,ag (fun z=>z=H.size) H3 (H3.wr H.size [v]):=fun v=>(ag.refl (fun z=>z=H.size) _).wr (fun _=>rfl) _
        have Uu:∀v,(H3.wr H.size [v]).own H.size=some [v]:=fun v=>ai Dc
        have h4:=fun v=>h3.Us (e4 v) (fun z hz=>by rw[hz];exact⟨aou _,DH⟩)
        exact⟨_,_,_,_,⟨a,r,now++[x],out,IR,fo,n7,l2,V2,lE,jr,DE,(h4 _).Sp ((h4 _).rb.tail _),f2,i2.KG (by omega),by rw[aoq,aoz];omega,Uu _,DH,Qk.ext (e4 _) (fun z hz e=>by have:=Gh z (.inl hz);omega),NM.ext (e4 _) (fun z hz e=>by have:=Gh z (.inr hz);omega),fun z hz=>by rw[eo];exact Gh z hz,Dd,ED⟩,rfl,rfl,rfl,rfl,rfl,rfl,rfl⟩
       ·refine v6 (ae pF) eW bX Int.toNat_zero aoZ Nat.add_zero ?_
        refine⟨⟨by omega,by omega,by omega,by omega⟩,?_⟩
        refine v6 (ae pF) eW bX Int.toNat_zero aoZ Nat.add_zero ?_
        refine EC.push x (by omega) fun w' H3 IR DP Qk e3=>?_
        obtain⟨h3,Dc,NM,Gh,Dd⟩:=h2.Da pF DI iO qF e3 DP
        refine v8 (ae Dc) Dc eW bX Int.toNat_zero aoZ Nat.add_zero aoh ?_
        have e4:∀v,ag (fun z=>z=H.size) H3 (H3.wr H.size [v]):=fun v=>(ag.refl (fun z=>z=H.size) _).wr (fun _=>rfl) _
        have Uu:∀v,(H3.wr H.size [v]).own H.size=some [v]:=fun v=>ai Dc
        have h4:=fun v=>h3.Us (e4 v) (fun z hz=>by rw[hz];exact⟨aou _,DH⟩)
        exact⟨_,_,_,_,⟨a,r,now++[x],out,IR,fo,n7,l2,V2,lE,jr,DE,(h4 _).Sp ((h4 _).rb.tail _),f2,i2.KG (by omega),by rw[aoq,aoz];omega,Uu _,DH,Qk.ext (e4 _) (fun z hz e=>by have:=Gh z (.inl hz);omega),NM.ext (e4 _) (fun z hz e=>by have:=Gh z (.inr hz);omega),fun z hz=>by rw[eo];exact Gh z hz,Dd,ED⟩,rfl,rfl,rfl,rfl,rfl,rfl,rfl⟩
      ·refine v6 (ae pF) eW bX Int.toNat_zero aoZ Nat.add_zero ?_
       refine⟨⟨by omega,by omega,by omega,by omega⟩,?_⟩
       refine v6 (ae pF) eW bX Int.toNat_zero aoZ Nat.add_zero ?_
       refine EC.push x (by omega) fun w' H3 IR DP Qk e3=>?_
       obtain⟨h3,Dc,NM,Gh,Dd⟩:=h2.Da pF DI iO qF e3 DP
       refine v8 (ae Dc) Dc eW bX Int.toNat_zero aoZ Nat.add_zero aoh ?_
       have e4:∀v,ag (fun z=>z=H.size) H3 (H3.wr H.size [v]):=fun v=>(ag.refl (fun z=>z=H.size) _).wr (fun _=>rfl) _
       have Uu:∀v,(H3.wr H.size [v]).own H.size=some [v]:=fun v=>ai Dc
       have h4:=fun v=>h3.Us (e4 v) (fun z hz=>by rw[hz];exact⟨aou _,DH⟩)
       exact⟨_,_,_,_,⟨a,r,now++[x],out,IR,fo,n7,l2,V2,lE,jr,DE,(h4 _).Sp ((h4 _).rb.tail _),f2,i2.KG (by omega),by rw[aoq,aoz];omega,Uu _,DH,Qk.ext (e4 _) (fun z hz e=>by have:=Gh z (.inl hz);omega),NM.ext (e4 _) (fun z hz e=>by have:=Gh z (.inr hz);omega),fun z hz=>by rw[eo];exact Gh z hz,Dd,ED⟩,rfl,rfl,rfl,rfl,rfl,rfl,rfl⟩
     ·refine v6 (ae pF) eW bX Int.toNat_zero aoZ Nat.add_zero ?_
      refine⟨⟨by omega,by omega,by omega,by omega⟩,?_⟩
      refine v6 (ae pF) eW bX Int.toNat_zero aoZ Nat.add_zero ?_
      refine EC.push x (by omega) fun w' H3 IR DP Qk e3=>?_
      obtain⟨h3,Dc,NM,Gh,Dd⟩:=h2.Da pF DI iO qF e3 DP
      refine v8 (ae Dc) Dc eW bX Int.toNat_zero aoZ Nat.add_zero aoh ?_
      have e4:∀v,ag (fun z=>z=H.size) H3 (H3.wr H.size [v]):=fun v=>(ag.refl (fun z=>z=H.size) _).wr (fun _=>rfl) _
      have Uu:∀v,(H3.wr H.size [v]).own H.size=some [v]:=fun v=>ai Dc
      have h4:=fun v=>h3.Us (e4 v) (fun z hz=>by rw[hz];exact⟨aou _,DH⟩)
      exact⟨_,_,_,_,⟨a,r,now++[x],out,IR,fo,n7,l2,V2,lE,jr,DE,(h4 _).Sp ((h4 _).rb.tail _),f2,i2.KG (by omega),by rw[aoq,aoz];omega,Uu _,DH,Qk.ext (e4 _) (fun z hz e=>by have:=Gh z (.inl hz);omega),NM.ext (e4 _) (fun z hz e=>by have:=Gh z (.inr hz);omega),fun z hz=>by rw[eo];exact Gh z hz,Dd,ED⟩,rfl,rfl,rfl,rfl,rfl,rfl,rfl⟩
    ·refine v6 (ae pF) eW bX Int.toNat_zero aoZ Nat.add_zero ?_
     refine⟨⟨by omega,by omega,by omega,by omega⟩,?_⟩
     refine v6 (ae pF) eW bX Int.toNat_zero aoZ Nat.add_zero ?_
     refine⟨⟨by omega,by omega⟩,?_⟩
     refine v6 (ae pF) eW bX Int.toNat_zero aoZ Nat.add_zero ?_
     refine EC.push x (by omega) fun w' H3 IR DP Qk e3=>?_
     obtain⟨h3,Dc,NM,Gh,Dd⟩:=h2.Da pF DI iO qF e3 DP
     refine v8 (ae Dc) Dc eW bX Int.toNat_zero aoZ Nat.add_zero aoh ?_
     have e4:∀v,ag (fun z=>z=H.size) H3 (H3.wr H.size [v]):=fun v=>(ag.refl (fun z=>z=H.size) _).wr (fun _=>rfl) _
     have Uu:∀v,(H3.wr H.size [v]).own H.size=some [v]:=fun v=>ai Dc
     have h4:=fun v=>h3.Us (e4 v) (fun z hz=>by rw[hz];exact⟨aou _,DH⟩)
     exact⟨_,_,_,_,⟨a,r,now++[x],out,IR,fo,n7,l2,V2,lE,jr,DE,(h4 _).Sp ((h4 _).rb.tail _),f2,i2.KG (by omega),by rw[aoq,aoz];omega,Uu _,DH,Qk.ext (e4 _) (fun z hz e=>by have:=Gh z (.inl hz);omega),NM.ext (e4 _) (fun z hz e=>by have:=Gh z (.inr hz);omega),fun z hz=>by rw[eo];exact Gh z hz,Dd,ED⟩,rfl,rfl,rfl,rfl,rfl,rfl,rfl⟩
   ·refine vs ?_
    exact⟨_,_,_,_,⟨a,x::r,now,out,nb,fo,n7,l2,V2,lE,jr,DE,h2,f2,i2.Vk (fun c hc=>by injection hc with hc;rw[←hc];omega),by omega,pF,DH,EC,DI,iO,qF,ED⟩,rfl,rfl,rfl,rfl,rfl,rfl,rfl⟩
  ·refine v7 Ig DJ B1 Ih pe pg ph ?_
   have Rv:b=[]:=aoQ.1 (by omega)
   exact⟨_,_,_,_,⟨a,b,now,out,nb,fo,n7,l2,V2,lE,jr,DE,h2,f2,i2.Vk (fun c hc=>by rw[Rv]at hc;cases hc),by omega,pF,DH,EC,DI,iO,qF,ED⟩,rfl,rfl,rfl,rfl,rfl,rfl,rfl⟩
 clear Tu h2 f2 i2 Qj pF DH EC DI iO qF ED NL GM PY Ig DJ B1 Ih pe pg ph
 rintro e3 H2 ⟨va,vb,vn,vo,Tu,hv⟩
 obtain⟨a,b,now,out,nb,fo,n7,l2,V2,lE,jr,DE,h2,f2,i2,Qj,pF,DH,EC,DI,iO,qF,ED⟩:=id Tu
 obtain⟨an,cn,rfl,PY⟩:=EC.cap
 obtain⟨ao,co,rfl⟩:=Sl.shape DI
 have NL:=aB pF
 have cX:=bZ f2.wn fun c hc=>f2.R4 (hm:=aG w) hc
 simp only[aoq]at cX
 obtain⟨Ig,DJ,B1,Ih,pe,pg,ph⟩:=hv
 refine JU (fun e h=>∃va vb vn vo,Sq H ro nn fb tb c C w lt rows W0 g ch k (k+1) (k+1) (k+1) (fun n=>n=0∨n=2) h va vb vn vo∧Xx e fb nn H.size va vo vn k) ?_ ?_
 ·refine v8 Ig DJ B1 Ih pe pg ph (ae pF) ?_
  rw[if_neg (by decide:¬ (2:Int)=0),Int.tmod_eq_emod_of_nonneg (by omega)]
  refine v7 Ig DJ B1 Ih pe pg ph ?_
  refine am.dec (fun gp=>?_) (fun gp=>?_)
  ·obtain⟨x,r,rfl⟩:∃x r,now=x::r:=apC (fun h=>by rw[h]at gp;simp at gp)
   have uM:(x::r).length=r.length+1:=aoC
   obtain⟨a',c',OV,Jb,hn'⟩:=id EC
   injection OV with St abC Su
   subst St Su
   obtain⟨pb,po,pl,rfl,Zu,Qd,OU,hpt⟩:=hn'.resolve_left (by omega)
   have bX:pl[po]? =some (i64 x):=by
    have h7:((x::r).map i64)[0]? =some (i64 x):=rfl
    rw[←hpt,aoU,if_pos (by simp),aoV]at h7
    exact h7
   have eW:=ae Qd
   refine v7 Ig DJ B1 Ih pe pg ph ?_
   refine⟨⟨by omega,by omega⟩,?_⟩
   refine v5 eW bX Int.toNat_zero aoZ Nat.add_zero ?_
   refine RL DI x (by omega) fun w' H3 RO QS NM e3=>?_
   have h3:=h2.Us e3 (fun z hz=>by have:=iO z (.inr hz);exact⟨by omega,this.2.2⟩)
   have Dc:=e3.own pF (fun hz=>by have:=iO _ (.inr hz);omega)
   have Qk:=EC.ext e3 (fun z h1 h2=>qF z h1 h2)
   have GQ:=e3.size
   refine v7 Ig DJ B1 Ih pe pg ph ?_
   refine⟨⟨by omega,by omega,by omega,by omega⟩,?_⟩
   refine v7 Ig DJ B1 Ih pe pg ph ?_
   have fp:(x::r++(a++(b++(out++W0)))).Perm (r++(a++(b++(out++[x]++W0)))):=by
    rw[apV]
    intro z
    simp only[aqa,ap7,aps,List.count_nil]
    omega
   have Gh:∀z,nb=some z∨RO=some z→H.size<z∧z<H3.size∧n7 z= .no:=fun z hz=>by
    rcases hz with hz|hz
    ·have:=iO z (.inl hz)
     exact⟨this.1,by omega,this.2.2⟩
    ·rcases QS with h1| ⟨y,h1,Rz,MJ⟩
     ·rw[h1]at hz
      have:=iO z (.inr hz)
      exact⟨this.1,by omega,this.2.2⟩
     ·rw[h1]at hz
      injection hz with hz
      subst hz
      exact⟨by omega,MJ,h2.hz _ Rz⟩
   have Dd:∀z,nb=some z→RO=some z→False:=fun z h1 Rz=>by
    rcases QS with MJ| ⟨y,MJ,h4',h5'⟩
    ·exact qF z h1 (by rw[←MJ];exact Rz)
    ·rw[MJ]at Rz
     injection Rz with Rz
     have:=iO z (.inl h1)
     omega
   exact⟨_,_,_,_,⟨a,b,r,out++[x],nb,RO,n7,l2,V2,lE,jr,DE,h3,f2.perm fp,i2.ae7,by omega,Dc,DH,Qk.tail _,NM,Gh,Dd,ED⟩,rfl,rfl,rfl,rfl,rfl,rfl,rfl⟩
  ·refine v7 Ig DJ B1 Ih pe pg ph ?_
   exact⟨_,_,_,_,⟨a,b,now,out,nb,fo,n7,l2,V2,lE,jr,DE,h2,f2,⟨i2.ra,i2.rb,i2.ro,i2.ka,i2.kb,i2.kn,fun c hc=>by have:=i2.ko c hc;omega,i2.hg⟩,by omega,pF,DH,EC,DI,iO,qF,ED⟩,rfl,rfl,rfl,rfl,rfl,rfl,rfl⟩
 clear Tu h2 f2 i2 Qj pF DH EC DI iO qF ED NL PY Ig DJ B1 Ih pe pg ph cX
 rintro e4 H2 ⟨va,vb,vn,vo,Tu,hv⟩
 obtain⟨a,b,now,out,nb,fo,n7,l2,V2,lE,jr,DE,h2,f2,i2,Qj,pF,DH,EC,DI,iO,qF,ED⟩:=id Tu
 obtain⟨an,cn,rfl,PY⟩:=EC.cap
 have NL:=aB pF
 obtain⟨Ig,DJ,B1,Ih,pe,pg,ph⟩:=hv
 refine v8 Ig DJ B1 Ih pe pg ph (ae pF) ?_
 refine am.dec (fun gp=>?_) (fun gp=>?_)
 ·obtain⟨x,y,rfl⟩:∃x y,now=[x,y]:=by
   match now,gp with
   | [x,y],_=>exact⟨x,y,rfl⟩
   | [],gp=>simp at gp
   | [_],gp=>simp at gp
   |_::_::_::_,gp=>simp at gp;omega
  obtain⟨a',c',OV,Jb,hn'⟩:=id EC
  injection OV with St abC Su
  subst St Su
  have oI:([x,y]:List Int).length=2:=rfl
  obtain⟨pb,po,pl,rfl,Zu,Qd,OU,hpt⟩:=hn'.resolve_left (by omega)
  have XB:pl[po]? =some (i64 x):=by
   have h7:(([x,y]:List Int).map i64)[0]? =some (i64 x):=rfl
   rw[←hpt,aoU,if_pos (by simp),aoV]at h7
   exact h7
  have XC:pl[po+1]? =some (i64 y):=by
   have h7:(([x,y]:List Int).map i64)[1]? =some (i64 y):=rfl
   rw[←hpt,aoU,if_pos (by simp),aoV]at h7
   exact h7
  have eW:=ae Qd
  refine v7 Ig DJ B1 Ih pe pg ph ?_
  refine⟨⟨by omega,by omega⟩,?_⟩
  refine v12 eW XB Int.toNat_zero aoZ Nat.add_zero Ig DJ B1 Ih pe pg ph ?_
  refine⟨⟨by omega,by omega⟩,?_⟩
  refine v11 eW XC Int.toNat_one Nat.one_mul Ig DJ B1 Ih pe pg ph ?_
  have Ds:=i2.kn x (by simp)
  have hyn:=i2.kn y (by simp)
  have OR:=i2.hg x (.inr (.inr (.inl (by simp))))
  have hyg:=i2.hg y (.inr (.inr (.inl (by simp))))
  refine(EA h2.m h2.hz h2.own h2.cq h2.hC aO (W:=a++(b++(out++W0))) f2 (by omega) (by omega)).mono ?_
  rintro _ H3 ⟨p,q,Ql,l3,V3,XD,rfl,Oy,m3,f3,c3,r3,MG,e3⟩
  have abE:∀z,n7 z= .no→¬KC n7 z:=fun z h1 h2=>by
   rcases h2 with (h2| ⟨_,h2⟩)|h2<;>(rw[h1]at h2;cases h2)
  have GQ:=e3.size
  obtain⟨rest,ho⟩:=h2.own
  have agv:¬KC n7 nn:=fun h=>by
   have:=h2.hn
   rcases h with (h| ⟨_,h⟩)|h<;>(rw[this]at h;cases h)
  have h3:o8 H ro nn fb tb c C w H3 Ql l3 V3 (ay lE p (lE p++[q])) (aH jr q p) XD va vb a b:=by
   refine⟨m3,c3,fun z hz=>?_,⟨rest,e3.own ho agv⟩,?_,MG,h2.rk.trans r3 h2.e.size,h2.ra.ext e3 (fun z _ h=>h) (fun z hz h=>r3.kcs hz h),h2.rb.ext e3 (fun z _ h=>h) (fun z hz h=>r3.kcs hz h),?_⟩
   ·have h5:=h2.hC z hz
    rw[r3.o z (h2.cq.slt z hz) (fun x e=>by rw[h5]at e;cases e),h5]
   ·rw[r3.o nn (aB ho) (fun x e=>by rw[h2.hn]at e;cases e),h2.hn]
   ·exact⟨apa h2.e.size e3.size,fun z hz hn=>by
     rw[e3.aM z (aoG hz h2.e.size) (fun h=>hn (h2.rk.kcs hz h)),h2.e.aM z hz hn]⟩
  have Dc:=e3.own pF (abE _ DH)
  have NM:=DI.ext e3 (fun z hz=>abE z (iO z (.inr hz)).2.2)
  have f4:ah H3 (H3.new 3 [i64 p]):=(ag.refl _ _).new _ _
  have f4':ag (fun _=>False) H3 (H3.new 3 [i64 p]):=f4
  have h4:=h3.Us f4' (fun z hz=>hz.elim)
  have nw4:If (H3.new 3 [i64 p]) (.slice (some ⟨H3.size,0,none⟩) 1 1) [p] (some H3.size):=If.lit p
  have Zu:=aoA.1 f3.wn
  have vz:p∉a∧p∉b∧p∉out∧p∉W0:=by
   have:=Zu.1
   simp only[aot,not_or]at this
   exact⟨this.1,this.2.1,this.2.2.1,this.2.2.2⟩
  have i4:=i2.aar (p:=p) (q:=q) (aou _) (Oy.imp (fun h=>h.1) (fun h=>h.1)) ⟨vz.1,vz.2.1,vz.2.2.1⟩
  have WQ:(H3.new 3 [i64 p]).size=H3.size+1:=ap _ _ _
  have hd4:∀z,some H3.size=some z∨fo=some z→H.size<z∧z< (H3.new 3 [i64 p]).size∧Ql z= .no:=fun z hz=>by
   rcases hz with hz|hz
   ·injection hz with hz
    subst hz
    exact⟨by omega,by omega,MG _ (aou _)⟩
   ·have:=iO z (.inr hz)
    exact⟨this.1,by omega,r3.none this.2.1 this.2.2⟩
  have agw:∀z,some H3.size=some z→fo=some z→False:=fun z h1 Rz=>by
   injection h1 with h1
   have:=iO z (.inr Rz)
   omega
  refine v7 Ig DJ B1 Ih pe pg ph ?_
  rw[wrap64 (n:=(k:Int)+1) (by omega) (by omega)]
  refine⟨w.cs.length+1 - (k+1),by omega,k+1,va,vb,_,vo,rfl,⟨a,b,[p],out,some H3.size,fo,Ql,l3,V3,_,_,XD,h4,f3,i4,by simp,f4.own Dc (fun h=>h),r3.none NL DH,nw4,NM.ext f4 (fun _ _ h=>h),hd4,agw,fun z hz=>?_⟩,rfl⟩
  unfold ay
  rw[if_neg (fun e=>vz.2.2.2 (by rw[←e];exact hz))]
  exact ED z hz
 ·refine v7 Ig DJ B1 Ih pe pg ph ?_
  have Lm:now=[]:=aoQ.1 (by omega)
  subst Lm
  rw[wrap64 (n:=(k:Int)+1) (by omega) (by omega)]
  exact⟨w.cs.length+1 - (k+1),by omega,k+1,va,vb,_,vo,rfl,⟨a,b,[],out,nb,fo,n7,l2,V2,lE,jr,DE,h2,f2,i2.aaq (aou _),by simp,pF,DH,EC,DI,iO,qF,ED⟩,rfl⟩
end
end Go.Proofs.YtjlnnljohemifaaGreat

namespace Go.Proofs.YtjlnnljohemifaaGreat
open Go Go.Vc
structure Zy where
 n:Nat
 c:Nat
 fb:Nat
 tb:Nat
 rp:Nat
structure uZ(H:Hp)(ro:Nat→Rl)(B:Zy)(C:Nat→Prop)(w:Nw)(l:List Value)(V:Int→Value)(ch:Int→List Int)(par:Int→Int)(kb:Int→Option Nat)(cS:List Value)(rows:Int→List Int)(rb:Int→Option Nat):Prop where
 own:∃tv,H.own B.n=some [ptr B.c,ptr B.fb,tv]∧Sl H 1 tv cS.length cS (some B.rp)
 row:∀g:Int,0≤g→g<cS.length→∃sv,cS[g.toNat]? =some sv∧Sl H 1 sv (rows g).length ((rows g).map i64) (rb g)
 cells:CQ H B.c C w
 fo:ForM H ro B.fb B.tb w.cs.length l V ch par kb
 hC:∀z,C z→ro z= .cell
 rn:ro B.n= .RI
 rr:ro B.rp= .Lu
 mJ:∀ (g:Int) b,0≤g→g<cS.length→rb g=some b→ro b= .row g
 hz:∀z,H.size≤z→ro z= .no
def dG(ro:Nat→Rl)(z:Nat):Prop:=ro z≠ .no
section
variable {H H' : Hp} {ro ro' : Nat → Rl} {B : Zy} {C T : Nat → Prop} {w w' : Nw} {l l' : List Value} {V V' : Int → Value} {ch dO : Int → List Int} {par bG : Int → Int} {kb tM : Int → Option Nat} {cS : List Value} {rows : Int → List Int} {rb : Int → Option Nat} {lt : Int → Int → Bool} {W W0 L : List Int}
theorem uZ.slt(m:uZ H ro B C w l V ch par kb cS rows rb):∀z,dG ro z→z<H.size:=fun z hz=>by
 apply aoH
 intro h
 exact hz (m.hz z (by omega))
theorem fk{ro:Nat→Rl}{z:Nat}{r:Rl}(h:ro z=r)(hr:r≠ .no):dG ro z:=fun e=>hr (by rw[←h,e])
theorem uZ.ext(m:uZ H ro B C w l V ch par kb cS rows rb)(e:ag T H H')(hd:∀z,dG ro z→¬T z):uZ H' ro B C w l V ch par kb cS rows rb:=by
 obtain⟨tv,h1,h2⟩:=m.own
 have hs:=e.size
 refine⟨⟨tv,e.own h1 (hd _ (fk m.rn nofun)),h2.ext e (fun b hb=>by injection hb with hb;subst hb;exact hd _ (fk m.rr nofun))⟩,fun g h0 h1=>?_,m.cells.ext e (fun z hz=>hd z (fk (m.hC z hz) nofun)),m.fo.ext e (fun z hz=>?_),m.hC,m.rn,m.rr,m.mJ,fun z hz=>m.hz z (by omega)⟩
 ·obtain⟨sv,q1,q2⟩:=m.row g h0 h1
  exact⟨sv,q1,q2.ext e (fun b hb=>hd b (fk (m.mJ g b h0 h1 hb) nofun))⟩
 ·rcases hz with h|h| ⟨x,h⟩<;>exact hd z (fk h nofun)
theorem uZ.fresh(m:uZ H ro B C w l V ch par kb cS rows rb)(e:ah H H'):uZ H' ro B C w l V ch par kb cS rows rb:=m.ext e fun _ _ h=>h
theorem uZ.aJ(m:uZ H ro B C w l V ch par kb cS rows rb)(c1:CQ H' B.c C w')(e:ag C H H')(hl:w'.cs.length=w.cs.length):uZ H' ro B C w' l V ch par kb cS rows rb:=by
 obtain⟨tv,h1,h2⟩:=m.own
 have hs:=e.size
 have hd:∀z r,ro z=r→r≠ .cell→¬C z:=fun z r h1 h2 hc=>h2 (by rw[←h1,m.hC z hc])
 refine⟨⟨tv,e.own h1 (hd _ _ m.rn nofun),h2.ext e (fun b hb=>by injection hb with hb;subst hb;exact hd _ _ m.rr nofun)⟩,fun g h0 h1=>?_,c1,?_,m.hC,m.rn,m.rr,m.mJ,fun z hz=>m.hz z (by omega)⟩
 ·obtain⟨sv,q1,q2⟩:=m.row g h0 h1
  exact⟨sv,q1,q2.ext e (fun b hb=>hd b _ (m.mJ g b h0 h1 hb) nofun)⟩
 ·rw[hl]
  refine m.fo.ext e (fun z hz=>?_)
  rcases hz with h|h| ⟨x,h⟩<;>exact hd z _ h nofun
theorem uZ.Sv(m:uZ H ro B C w l V ch par kb cS rows rb)(f:ForM H' ro' B.fb B.tb w.cs.length l' V' dO bG tM)(c1:CQ H' B.c C w)(r:RK H.size ro ro')(hz:∀z,H'.size≤z→ro' z= .no)(e:ag (KC ro) H H'):uZ H' ro' B C w l' V' dO bG tM cS rows rb:=by
 obtain⟨tv,h1,h2⟩:=m.own
 have hd:∀z q,ro z=q→(∀x,q≠ .pC x)→q≠ .table→q≠ .cell→¬KC ro z:=fun z q h1 h2 h3 h4 hc=>by
  rcases hc with (hc| ⟨x,hc⟩)|hc
  ·exact h3 (by rw[←h1,hc])
  ·exact h2 x (by rw[←h1,hc])
  ·exact h4 (by rw[←h1,hc])
 have hk:∀z q,ro z=q→q≠ .no→(∀x,q≠ .pC x)→ro' z=q:=fun z q h1 h2 h3=>by
  rw[r.o z (m.slt z (fk h1 h2)) (fun x e=>h3 x (by rw[←h1,e])),h1]
 refine⟨⟨tv,e.own h1 (hd _ _ m.rn nofun nofun nofun),h2.ext e (fun b hb=>by injection hb with hb;subst hb;exact hd _ _ m.rr nofun nofun nofun)⟩,fun g h0 h1=>?_,c1,f,fun z hz=>hk z _ (m.hC z hz) nofun nofun,hk _ _ m.rn nofun nofun,hk _ _ m.rr nofun nofun,fun g b h0 h1 hb=>hk b _ (m.mJ g b h0 h1 hb) nofun nofun,hz⟩
 obtain⟨sv,q1,q2⟩:=m.row g h0 h1
 exact⟨sv,q1,q2.ext e (fun b hb=>hd b _ (m.mJ g b h0 h1 hb) nofun nofun nofun)⟩
theorem uZ.VJ(m:uZ H ro B C w l V ch par kb cS rows rb){g:Int}(hg:0≤g∧g<cS.length){H1:Hp}(e0:ag (fun z=>rb g=some z) H H1){lb:List Value}(Dz:H1.own B.rp=some lb){sv:Value}{L':List Int}{o:Option Nat}(s:Sl H1 1 sv L'.length (L'.map i64) o)(ho:∀b,o=some b→ro b= .no∨ro b= .row g):
  uZ (H1.wr B.rp (lb.set g.toNat sv)) (fun z=>if o=some z then .row g else ro z) B C w l V ch par kb (cS.set g.toNat sv) (ay rows g L') (fun k=>if k=g then o else rb k)∧ag (dG ro) H (H1.wr B.rp (lb.set g.toNat sv))∧
   (∀z,dG (fun z=>if o=some z then .row g else ro z) z→dG ro z∨o=some z):=by
 obtain⟨tv,h1,h2⟩:=m.own
 have e:ag (fun z=>z=B.rp) H1 (H1.wr B.rp (lb.set g.toNat sv)):=(ag.refl (fun z=>z=B.rp) _).wr (fun _=>rfl) _
 have PA:(H1.wr B.rp (lb.set g.toNat sv)).size=H1.size:=eo _ _ _
 have hs0:=e0.size
 have Kk:∀z q,ro z=q→q≠ .no→q≠ .row g→(if o=some z then Rl.row g else ro z)=q:=fun z q h1 h2 h3=>by
  rw[if_neg (fun e=>by rcases ho z e with h|h;exact h2 (by rw[←h1,h]);exact h3 (by rw[←h1,h])),h1]
 have ne:∀z q,ro z=q→q≠ .Lu→z≠B.rp:=fun z q h1 h2 e=>h2 (by rw[←h1,e,m.rr])
 have n0:∀z q,ro z=q→q≠ .row g→¬rb g=some z:=fun z q h1 h2 h3=>h2 (by rw[←h1,m.mJ g z hg.1 hg.2 h3])
 have hob:∀b,o=some b→b≠B.rp:=fun b hb e=>by rcases ho b hb with h|h<;>(rw[e,m.rr]at h;cases h)
 obtain⟨ta,tc,rfl⟩:=Sl.shape h2
 have hta:ta=some ⟨B.rp,0,none⟩:=by
  obtain⟨_,_,_,hh,_⟩:=h2
  injection hh with hh
 subst hta
 have h3:=h2.ext e0 (fun b hb=>by injection hb with hb;subst hb;exact n0 _ _ m.rr nofun)
 refine⟨⟨⟨_,e.own (e0.own h1 (n0 _ _ m.rn nofun)) (ne _ _ m.rn nofun),?_⟩,fun k h0 h1=>?_,(m.cells.ext e0 (fun z hz=>n0 z _ (m.hC z hz) nofun)).ext e (fun z hz=>ne z _ (m.hC z hz) nofun),?_,fun z hz=>Kk z _ (m.hC z hz) nofun nofun,Kk _ _ m.rn nofun nofun,Kk _ _ m.rr nofun nofun,fun k b h0 h1 hb=>?_,fun z hz=>?_⟩,
  (e0.mono fun z _ h=>fk (m.mJ g z hg.1 hg.2 h) nofun).trans (e.mono fun z _ h=>by rw[h];exact fk m.rr nofun),fun z hz=>?_⟩
 ·rw[aoj]
  exact h3.uB Dz g.toNat sv
 ·rw[aoj]at h1
  by_cases hk:k=g
  ·subst hk
   refine⟨sv,by rw[aoo (by omega)],?_⟩
   unfold ay
   rw[if_pos rfl,if_pos rfl]
   exact s.ext e (fun b hb=>hob b hb)
  ·obtain⟨Vz,q1,q2⟩:=m.row k h0 h1
   refine⟨Vz,by rw[aon (by omega)];exact q1,?_⟩
   unfold ay
   rw[if_neg hk,if_neg hk]
   exact(q2.ext e0 (fun b hb=>n0 b _ (m.mJ k b h0 h1 hb) (fun e=>hk (by injection e)))).ext e (fun b hb=>ne b _ (m.mJ k b h0 h1 hb) nofun)
 ·have f1:=(m.fo.ext e0 (fun z hz=>by rcases hz with h|h| ⟨x,h⟩<;>exact n0 z _ h nofun)).ext e (fun z hz=>by rcases hz with h|h| ⟨x,h⟩<;>exact ne z _ h nofun)
  exact⟨f1.t,f1.kd,Kk _ _ f1.rf nofun nofun,Kk _ _ f1.rt nofun nofun,fun x b h0 h1 hb=>Kk _ _ (f1.rk x b h0 h1 hb) nofun nofun,f1.GU,f1.no⟩
 ·rw[aoj]at h1
  by_cases hk:k=g
  ·rw[if_pos hk]at hb
   rw[if_pos hb,hk]
  ·rw[if_neg hk]at hb
   have:=m.mJ k b h0 h1 hb
   exact Kk b _ this nofun (fun e=>hk (by injection e))
 ·rw[PA]at hz
  rw[if_neg (fun e=>?_),m.hz z (by omega)]
  cases o with
  |none=>cases e
  |some b=>
   injection e with e
   have:=Sl.lt s
   omega
 ·by_cases h:o=some z
  ·exact .inr h
  ·refine .inl fun h2=>hz ?_
   simp only[if_neg h]
   exact h2
theorem uZ.LU(m:uZ H ro B C w l V ch par kb cS rows rb){g:Int}(hg:0≤g∧g<cS.length):∃lb tc sv,H.own B.n=some [ptr B.c,ptr B.fb,.slice (some ⟨B.rp,0,none⟩) cS.length tc]∧H.own B.rp=some lb∧lb[g.toNat]? =some sv∧g.toNat<lb.length∧cS[g.toNat]? =some sv∧
  Sl H 1 sv (rows g).length ((rows g).map i64) (rb g):=by
 obtain⟨tv,h1,h2⟩:=m.own
 obtain⟨sv,q1,q2⟩:=m.row g hg.1 hg.2
 obtain⟨_,lb,tc,rfl,ho,hc,hl,ht⟩:=h2
 refine⟨lb,tc,sv,h1,ho,?_,by omega,q1,q2⟩
 have h7:=q1
 rw[←ht,aoU]at h7
 split at h7
 ·exact h7
 ·cases h7
theorem Sl.rdB{sv:Value}{L:List Int}{fp:Option Nat}{Bd:Nat}(s:Sl H 1 sv L.length (L.map i64) fp)(hf:∀b,fp=some b→b<Bd∧¬KC ro b):Gg H ro Bd sv L:=by
 cases fp with
 |none=>
  obtain⟨_,h2,rfl⟩:=s
  exact⟨none,0,by rw[h2],by omega,.inl (aoQ.1 h2)⟩
 |some b=>
  obtain⟨_,lb,c,rfl,ho,hc,hl,ht⟩:=s
  obtain⟨h1,h2⟩:=hf b rfl
  refine⟨_,c,rfl,hc,.inr ⟨b,0,lb,rfl,h1,h2,ae ho,by omega,?_⟩⟩
  rw[aqd]
  rw[aok]at ht
  exact ht
theorem BF(m:uZ H ro B C w l V ch par kb cS rows rb){g:Int}{lv:Value}(Ts:Gg H ro H.size lv L)(aO:∀a b,aQ w a b=true→lt a b=true)(f:jz (aG w) lt ch par rows (L++W0))(hL:E6 ch L)(hg:∀c∈L,aG w c=g)(yt:0≤g∧g<cS.length):
  af Tryz.prog wq [ptr B.n,i64 g,lv] H fun v H'=>aw (∃ro' l' V' dO bG tM NI jU rb',uZ H' ro' B C w l' V' dO bG tM NI jU rb'∧jz (aG w) lt dO bG jU W0∧NI.length=cS.length∧(∀z∈W0,dO z=ch z)∧
   (∀z,dG ro' z→dG ro z∨H.size≤z)∧ag (dG ro) H H'):=by
 obtain⟨lb,tc,sv,o1,q1,q2,Dz,_,s2⟩:=m.LU yt
 obtain⟨va,vc,rfl⟩:=Sl.shape s2
 obtain⟨aL,cL,rfl,hcL⟩:=Ts.cap
 have hra:Gg H ro H.size (.slice va (rows g).length vc) (rows g):=Sl.rdB s2 (fun b hb=>by
  have h5:=m.mJ g b yt.1 yt.2 hb
  refine⟨m.slt b (fk h5 nofun),fun hc=>?_⟩
  rcases hc with (hc| ⟨x,hc⟩)|hc<;>(rw[h5]at hc;cases hc))
 have h0:o8 H ro B.n B.fb B.tb B.c C w H ro l V ch par kb (.slice va (rows g).length vc) (.slice aL L.length cL) (rows g) L:=⟨m.fo,m.cells,m.hC,⟨_,o1⟩,m.rn,m.hz,RK.refl m.hz,hra,Ts,ag.refl _ _⟩
 have f1:=f.loose g
 have sU:∀c∈rows g,aG w c=g:=fun c hc=>(f.rm g c hc).1
 refine GO wW ⟨rfl,?_⟩
 refine v1 me.eq_1 ?_
 refine jB.intro (fun H'=>H'.own B.n=some [ptr B.c,ptr B.fb,.slice (some ⟨B.rp,0,none⟩) cS.length tc]) o1 ?_
 refine vs ?_
 refine fJ.intro (.slice (some ⟨B.rp,0,none⟩) cS.length tc) (fun H' hI=>by refine v1 (ae hI) ?_;trivial) ?_
 refine vs ?_
 have hgi:0≤g∧g< (cS.length:Int):=yt
 have key:∀K:Value→Hp→Prop,(∀out ro' l' V' dO bG tM vo fo H',o8 H ro B.n B.fb B.tb B.c C w H' ro' l' V' dO bG tM (.slice none 0 0) (.slice none 0 0) [] []→Sl H' 1 vo out.length (out.map i64) fo→(∀z,fo=some z→H.size≤z∧ro' z= .no)→jz (aG w) lt dO bG (ay rows g []) (out++W0)→E6 dO out→(∀c∈out,aG w c=g)→(∀z∈W0,dO z=ch z)→K (.tuple [vo,.bool true].toArray) H')→
   af Tryz.prog kJ [ptr B.fb,.iface 198 (ptr B.n),.slice va (rows g).length vc,.slice aL L.length cL] H K:=fun K hK=>by
  refine(Db h0 aO f1 (f.rr g) hL (fun c hc=>by rcases hc with h|h;exact sU c h;exact hg c h)).mono ?_
  rintro _ H' ⟨out,ro',l',V',dO,bG,tM,vo,fo,rfl,h1,h2,h3,h4,h5,h6,h7⟩
  exact hK out ro' l' V' dO bG tM vo fo H' h1 h2 h3 h4 h5 h6 h7
 refine EM.intro ?A ?B
 case' A=>
  refine v1 (ae o1) ?_
  refine And.intro o1 ?_
  refine v1 (ae o1) ?_
  refine And.intro o1 ?_
  refine vs ?_
  refine⟨⟨by omega,by omega⟩,?_⟩
  refine v4 (ae q1) aoh aok q2 ?_
  refine And.intro o1 ?_
  refine vs ?_
 case' B=>
  refine v1 (ae o1) ?_
  refine And.intro o1 ?_
  refine vs ?_
  refine⟨⟨by omega,by omega⟩,?_⟩
  refine vs ?_
  refine EM.intro ?C ?D
  case' C=>
   refine v1 (ae o1) ?_
   refine And.intro o1 ?_
   refine v4 (ae q1) aoh aok q2 ?_
   refine And.intro o1 ?_
   refine vs ?_
  case' D=>
   refine v4 (ae q1) aoh aok q2 ?_
   refine And.intro o1 ?_
   refine v1 (ae o1) ?_
   refine And.intro o1 ?_
   refine vs ?_
 all_goals
  refine key _ fun out n7 l2 V2 lE jr DE vo fo2 H2 h2 DI QS f2 r2 g2 w2=>?_
  obtain⟨vb,vc2,rfl⟩:=Sl.shape DI
  have m2:=m.Sv h2.m h2.cq h2.rk h2.hz h2.e
  obtain⟨lb2,tc2,sv2,o2,q3,q4,alC,_,_⟩:=m2.LU yt
  have o2':H2.own B.n=some [ptr B.c,ptr B.fb,.slice (some ⟨B.rp,0,none⟩) cS.length tc]:=h2.e.own o1 (fun hc=>by
   rcases hc with (hc| ⟨x,hc⟩)|hc<;>(rw[m.rn]at hc;cases hc))
  refine And.intro o2' ?_
  refine vs ?_
  refine⟨⟨by omega,by omega⟩,?_⟩
  refine v3 q3 aoh aok ?_
  refine⟨by omega,?_⟩
  obtain⟨m3,e3,Tz⟩:=m2.VJ yt (ag.refl _ _) q3 DI (fun b hb=>.inl (QS b hb).2)
  refine vs ?_
  have hnr:B.n≠B.rp:=fun e=>by have:=m2.rn;rw[e,m2.rr]at this;cases this
  refine And.intro (((ag.refl (fun z=>z=B.rp) _).wr (fun _=>rfl) _:ag (fun z=>z=B.rp) H2 _).own o2' hnr) ?_
  refine vs ?_
  have f3:=f2.row (g:=g) (by unfold ay;rw[if_pos rfl]) r2 g2
  rw[eB]at f3
  have NN:∀z,dG n7 z→dG ro z∨H.size≤z:=fun z hz=>by
   by_cases OH:z<H.size
   ·refine .inl fun h=>hz ?_
    exact h2.rk.none OH h
   ·exact .inr (by omega)
  refine⟨_,l2,V2,lE,jr,DE,_,_,_,m3,f3,aoj ..,w2,fun z hz=>?_,?_⟩
  ·rcases Tz z hz with h|h
   ·exact NN z h
   ·exact .inr (QS z h).1
  ·have e2:ag (dG ro) H H2:=h2.e.mono fun z _ h=>by
    rcases h with (h| ⟨x,h⟩)|h<;>exact fk h nofun
   exact⟨apa e2.size e3.size,fun z hz hn=>by
    rw[e3.aM z (aoG hz e2.size) (fun h=>by
     rcases NN z h with h|h
     ·exact hn h
     ·omega),e2.aM z hz hn]⟩
end
end Go.Proofs.YtjlnnljohemifaaGreat

namespace Go.Proofs.YtjlnnljohemifaaGreat
open Go Go.Vc
def gE(n:Nat)(H:Hp)(S:Nat→Prop)(w:Nw):Prop:=∃ (B:Zy) (ro:Nat→Rl) (C:Nat→Prop) (l:List Value) (V:Int→Value) (ch:Int→List Int) (par:Int→Int) (kb:Int→Option Nat) (cS:List Value) (rows:Int→List Int) (rb:Int→Option Nat),
 B.n=n∧uZ H ro B C w l V ch par kb cS rows rb∧jz (aG w) (aQ w) ch par rows []∧cS.length=w.hs.length∧∀z,S z↔dG ro z
theorem gE.slt{n:Nat}{H:Hp}{S:Nat→Prop}{w:Nw}(h:gE n H S w):∀z,S z→z<H.size:=by
 obtain⟨B,ro,C,l,V,ch,par,kb,cS,rows,rb,rfl,m,f,hl,hS⟩:=h
 exact fun z hz=>m.slt z ((hS z).1 hz)
theorem gE.ext{n:Nat}{H H':Hp}{S T:Nat→Prop}{w:Nw}(h:gE n H S w)(e:ag T H H')(hd:∀z,S z→¬T z):gE n H' S w:=by
 obtain⟨B,ro,C,l,V,ch,par,kb,cS,rows,rb,rfl,m,f,hl,hS⟩:=h
 exact⟨B,ro,C,l,V,ch,par,kb,cS,rows,rb,rfl,m.ext e (fun z hz=>hd z ((hS z).2 hz)),f,hl,hS⟩
section
variable {H H' : Hp} {ro ro' : Nat → Rl} {B : Zy} {C T : Nat → Prop} {w w' : Nw} {l l' : List Value} {V V' : Int → Value} {ch dO : Int → List Int} {par bG : Int → Int} {kb tM : Int → Option Nat} {cS : List Value} {rows : Int → List Int} {rb : Int → Option Nat} {lt : Int → Int → Bool} {W W0 L : List Int}
theorem uZ.Sw(m:uZ H ro B C w l V ch par kb cS rows rb)(hl:cS.length=w.hs.length){g:Int}(h:w.has g):0≤g∧g<cS.length:=by
 have h1:=h.1
 have:=(aoi.1 h.2).1
 omega
theorem JV(m:uZ H ro B C w l V ch par kb cS rows rb)(f:jz (aG w) lt ch par rows W)(hl:cS.length=w.hs.length)(g:Int):af Tryz.prog wu [ptr B.n,i64 g] H fun v H'=>aw ((∃o,Sl H 1 v (rows g).length ((rows g).map i64) o∧∀b,o=some b→b<H.size∧¬KC ro b)∧H'=H):=by
 obtain⟨tv,ho,_⟩:=m.own
 refine bq wX ?_
 refine v1 (ae ho) ?_
 refine(iG m.cells g).mono ?_
 rintro _ _ ⟨rfl,rfl⟩
 refine vs ?_
 by_cases hg:w.has g
 ·rw[aov hg]
  have yt:=m.Sw hl hg
  obtain⟨lb,tc,sv,o1,q1,q2,Dz,_,s2⟩:=m.LU yt
  refine v1 (ae o1) ?_
  refine⟨⟨by omega,by omega⟩,?_⟩
  refine v4 (ae q1) aoh aok q2 ?_
  refine⟨⟨rb g,s2,fun b hb=>?_⟩,rfl⟩
  have h5:=m.mJ g b yt.1 yt.2 hb
  refine⟨m.slt b (fk h5 nofun),fun hc=>?_⟩
  rcases hc with (hc| ⟨x,hc⟩)|hc<;>(rw[h5]at hc;cases hc)
 ·rw[aoI hg]
  refine vs ?_
  have hr:rows g=[]:=by
   cases hc:rows g with
   |nil=>rfl
   |cons c r=>
    obtain⟨h1,_,h2,_⟩:=f.rm g c (by rw[hc];simp)
    have:=((m.cells.hm c).2 (by omega)).1
    rw[h1]at this
    exact absurd this hg
  rw[hr]
  exact⟨⟨none,Sl.nil _ _,nofun⟩,rfl⟩
theorem jz.root(f:jz (aG w) (aQ w) ch par rows []){y g:Int}(hg:0<g)(hy:aG w y=g):∃r∈rows g,r=y∨aQ w r y=true:=by
 obtain⟨r,h1,h2,h3⟩:=f.pr.root (ar w) (n:=w.cs.length) (fun x h=>uS x h) _ (aou _) (x:=y) (by omega)
 rcases f.jy r (by omega) h2 with h|h
 ·rw[h1,hy]at h
  exact⟨r,h,h3⟩
 ·cases h
theorem BG{n:Nat}{H:Hp}{S:Nat→Prop}{w:Nw}(h:gE n H S w)(g:Int):af Tryz.prog lT [ptr n,i64 g] H fun v H'=>aw (
  (w.len g=0∧v= .tuple [i64 0,.bool false].toArray∧gE n H' S w∧ag S H H')∨(∃x,w.first g x∧v= .tuple [i64 x,.bool true].toArray∧gE n H' S w∧ag S H H')):=by
 obtain⟨B,ro,C,l,V,ch,par,kb,cS,rows,rb,rfl,m,f,hl,hS⟩:=id h
 have xq:=m.cells.Ee
 refine bq wU ?_
 refine vs ?_
 refine(JV m f hl g).mono ?_
 rintro _ H' ⟨⟨o,s,hso⟩,e⟩
 obtain rfl:=e.symm
 obtain⟨va,vc,rfl⟩:=Sl.shape s
 refine vs ?_
 refine am.dec (fun h0=>?_) (fun h0=>?_)<;>refine vs ?_
 ·refine .inl ⟨?_,rfl,h,ag.refl _ _⟩
  have hr:rows g=[]:=aoQ.1 (by omega)
  by_cases hg:0<g
  ·rw[uF hg]
   intro x hx
   obtain⟨r,vS,_⟩:=f.root hg hx
   rw[hr]at vS
   cases vS
  ·exact Nw.HO.2 (.inl (by omega))
 obtain⟨x,R,hr⟩:∃x R,rows g=x::R:=apC (fun e=>h0 (by rw[e];rfl))
 have Tq:∀c∈rows g,aG w c=g∧0<g:=fun c hc=>by
  obtain⟨h1,_,h2,_⟩:=f.rm g c hc
  exact⟨h1,h2⟩
 have RQ:=(Tq x (by rw[hr];simp)).2
 rw[hr]at s Tq
 have Zo:(rows g).length=(x::R).length:=by rw[hr]
 rw[Zo]
 have oP:(x::R).length=R.length+1:=aoC
 have hsB:=s
 have aZ:=bZ (f.rr g).nodup fun c hc=>uS (w:=w) c (by have:=Tq c (by rw[←hr];exact hc);omega)
 rw[hr]at aZ
 obtain⟨b,lb,c,yf,rfl,qb,qc,_,Dz,_⟩:=Sl.Ur s (i:=0) (x:=x) rfl
 injection yf with h1 h2 h3
 subst h1 h3
 have eW:=ae qb
 obtain⟨_,Vw,c',eK,q2,GQ,WM,PT⟩:=id s
 injection eK with _ _ eK
 subst eK
 rw[qb]at q2
 injection q2 with q2
 subst q2
 rw[aok]at WM PT
 refine⟨⟨by omega,by omega⟩,?_⟩
 refine v5 eW qc Int.toNat_zero aoZ Nat.add_zero ?_
 refine⟨⟨by omega,by omega,by omega,by omega⟩,?_⟩
 refine vs ?_
 have yt:=m.Sw hl ((m.cells.hm x).2 (by have:=Tq x (by simp);omega)).1
 rw[(Tq x (by simp)).1]at yt
 have hrB:Gg H ro H.size (.slice (some ⟨b,0,none⟩) (x::R).length vc) (x::R):=Sl.rdB s hso
 obtain⟨a',hv,_,_,_⟩:=qE s.rd (lo:=1) (hi:=R.length+1) (lo':=1) (hi':=((R.length+1:Nat):Int)) rfl rfl (by omega) (by omega) (by omega)
 have hB:Gg H ro H.size (.slice a' R.length (vc - 1)) R:=by
  rw[show R.length=R.length+1 - 1 by omega,←hv]
  exact hrB.tail _
 rw[hv,show((R.length+1:Nat):Int).toNat - Int.toNat 1=R.length by simp,Nat.add_sub_cancel]
 refine aW.intro (fun mm env H'=>∃ (j:Nat) (bV:Int),mm=R.length - j∧j≤R.length∧CQ H' B.c C w∧ag C H H'∧bV∈x::R.take j∧(∀c∈x::R.take j,c≠bV→aQ w bV c=true)∧
  env=[(0,ptr B.n),(7,i64 bV),(20,.slice a' R.length (vc - 1)),(21,i64 R.length),(22,i64 j)]) R.length ⟨0,x,rfl,by omega,m.cells,ag.refl _ _,by simp,by simp,rfl⟩ ?_
 rintro mm env H1 ⟨j,bV,rfl,hj,c1,e1,Ll,oQ,rfl⟩
 have m1:=m.aJ c1 e1 rfl
 obtain⟨CO,o1,_⟩:=m1.own
 refine vs ?_
 refine am.dec (fun aO=>?_) (fun aO=>?_)<;>refine vs ?_
 ·have fS:j<R.length:=by omega
  obtain⟨y,hy⟩:∃y,R[j]? =some y:=⟨_,aog fS⟩
  have hB1:=hB.ext e1 (fun z _ hk hc=>hk (.inr (m.hC z hc))) (ro':=ro) (fun _ _ h=>h)
  obtain⟨_,b2,o2,lb2,rfl,q2,q3⟩:=cO.num hB1.rd hy
  refine⟨⟨by omega,by omega⟩,?_⟩
  refine v5 q2 aok Int.toNat_natCast q3 (ae o1) ?_
  refine(cF c1 y bV).mono ?_
  rintro _ H2 ⟨rfl,c2,e2⟩
  have hym:y∈x::R:=aoP _ (aom hy)
  have EY:bV∈x::R:=by
   rcases aos.1 Ll with h|h
   ·rw[h];simp
   ·exact aoP _ (List.mem_of_mem_take h)
  have DO:=Tq y hym
  have VK:=Tq bV EY
  rw[gR (w:=w) (a:=y) (b:=bV) (by omega) (by omega)]
  have tk:R.take (j+1)=R.take j++[y]:=by rw[aoS,hy];rfl
  cases hyb:aQ w y bV
  ·refine vs ?_
   rw[wrap64 (n:=(j:Int)+1) (by omega) (by omega)]
   refine⟨R.length - (j+1),by omega,j+1,bV,rfl,by omega,c2,e1.trans e2,?_,fun c hc aP=>?_,rfl⟩
   ·rw[tk,←aps];exact aox _ Ll
   ·rw[tk,←aps]at hc
    rcases aot.1 hc with hc|hc
    ·exact oQ c hc aP
    ·rw[aop.1 hc]at aP ⊢
     exact((ar w).OC bV y (Ne.symm aP)).resolve_right (by rw[hyb];simp)
  ·refine vs ?_
   rw[wrap64 (n:=(j:Int)+1) (by omega) (by omega)]
   refine⟨R.length - (j+1),by omega,j+1,y,rfl,by omega,c2,e1.trans e2,?_,fun c hc aP=>?_,rfl⟩
   ·rw[tk];simp
   ·rw[tk,←aps]at hc
    rcases aot.1 hc with hc|hc
    ·by_cases e:c=bV
     ·rw[e];exact hyb
     ·exact(ar w).tr _ _ _ hyb (oQ c hc e)
    ·exact absurd (aop.1 hc) aP
 ·obtain rfl:j=R.length:=by omega
  rw[aoO]at Ll oQ
  refine .inr ⟨bV,?_,rfl,⟨B,ro,C,l,V,ch,par,kb,cS,rows,rb,rfl,m1,f,hl,hS⟩,e1.mono fun z _ hz=>(hS z).2 (fk (m.hC z hz) nofun)⟩
  rw[bM]
  refine⟨RQ,(Tq bV Ll).1,fun y hy aP=>?_⟩
  obtain⟨r,HZ,vS⟩:=f.root RQ hy
  rw[hr]at HZ
  by_cases e:r=bV
  ·rw[e]at vS
   exact vS.resolve_left (fun e2=>aP e2.symm)
  ·have h5:=oQ r HZ e
   rcases vS with h6|h6
   ·rw[←h6];exact h5
   ·exact(ar w).tr _ _ _ h5 h6
end
end Go.Proofs.YtjlnnljohemifaaGreat

namespace Go.Proofs.YtjlnnljohemifaaGreat
open Go Go.Vc
section
variable {H H' : Hp} {ro ro' : Nat → Rl} {B : Zy} {C T : Nat → Prop} {w w' : Nw} {l l' : List Value} {V V' : Int → Value} {ch dO : Int → List Int} {par bG : Int → Int} {kb tM : Int → Option Nat} {cS : List Value} {rows : Int → List Int} {rb : Int → Option Nat} {lt : Int → Int → Bool} {W W0 L : List Int}
theorem EE{n:Nat}{H:Hp}{S:Nat→Prop}{w:Nw}(h:gE n H S w)(g x k s:Int):af Tryz.prog iY [ptr n,i64 g,i64 x,tK k s] H fun v H'=>aw (
  (¬w.lM g x∧v= .bool false∧cB (gE n) S H H' w)∨(w.lM g x∧v= .bool true∧cB (gE n) S H H' (w.put x (g,k,s)))):=by
 obtain⟨B,ro,C,l,V,ch,par,kb,cS,rows,rb,rfl,m,f,hl,hS⟩:=h
 have hC:∀z,C z→S z:=fun z h=>(hS z).2 (fk (m.hC z h) nofun)
 refine bq rB ?_
 refine vs ?_
 have f0:ah H (H.new 224 [i64 k,u64 s]):=(ag.refl _ _).new _ _
 have b0:(H.new 224 [i64 k,u64 s]).own H.size=some [i64 k,u64 s]:=az _ _ _
 have m0:=m.fresh f0
 generalize H.new 224 [i64 k,u64 s]=H0 at*
 have ff:ag S H H0:=f0.mono fun _ _ h=>h.elim
 obtain⟨tv,HS,_⟩:=m0.own
 refine v2 (ae HS) (ae b0) ?_
 refine(kY m0.cells g x k s).mono ?_
 rintro _ H1 (⟨bO,rfl,c1,e1⟩| ⟨qv,rfl,c1,e1⟩)
 ·refine vs ?_
  exact .inl ⟨bO,rfl,cB.same ⟨B,ro,C,l,V,ch,par,kb,cS,rows,rb,rfl,m0.aJ c1 e1 rfl,f,hl,hS⟩ (ff.trans (e1.mono fun z _ hz=>hC z hz))⟩
 obtain⟨hh,hx,bJ⟩:=id qv
 have m1:=m0.aJ c1 e1 (by simp[Nw.put])
 have hg:=hh.1
 have dk:=m.Sw hl hh
 have cN:=fun y=>dU hx (g,k,s) y
 have gf:aG w x≤0:=Int.not_lt.1 fun h=>bJ (bz.1 h)
 have el:∀a b,0<aG w a→0<aG w b→a≠x→b≠x→aQ (w.put x (g,k,s)) a b=aQ w a b:=fun a b ha hb tR ml=>dw hx _ ha hb tR ml
 obtain⟨f1,_⟩:=f.put (hm':=aG (w.put x (g,k,s))) (lt':=aQ (w.put x (g,k,s))) (g:=g) rfl gf (by omega) (by omega) (by rw[cN,if_pos rfl]) (fun y hy=>by rw[cN,if_neg hy]) el
 refine vs ?_
 have f2:ah H1 (H1.new 3 [i64 x]):=(ag.refl _ _).new _ _
 have m2:=m1.fresh f2
 have s2:Sl (H1.new 3 [i64 x]) 1 (.slice (some ⟨H1.size,0,none⟩) 1 1) [x].length ([x].map i64) (some H1.size):=Sl.bU (size:=1) (n:=1) (xs:=[i64 x]) rfl rfl
 have z2:(H1.new 3 [i64 x]).size=H1.size+1:=ap _ _ _
 have Ts:Gg (H1.new 3 [i64 x]) ro (H1.new 3 [i64 x]).size (.slice (some ⟨H1.size,0,none⟩) 1 1) [x]:=Sl.rdB s2 fun b hb=>by
  injection hb with hb
  subst hb
  refine⟨by omega,fun hc=>?_⟩
  have:=m1.hz H1.size (aou _)
  rcases hc with (hc| ⟨x,hc⟩)|hc<;>(rw[this]at hc;cases hc)
 generalize H1.new 3 [i64 x]=H2 at*
 refine(BF m2 Ts (fun _ _ h=>h) (W0:=[]) f1 (List.pairwise_singleton _ _) (fun c hc=>by rw[aop.1 hc,cN,if_pos rfl]) dk).mono ?_
 rintro _ H3 ⟨Ql,l3,V3,MI,oY,XD,agz,BH,rb3,m3,f3,RM,_,Tz,e3⟩
 refine vs ?_
 have eS:ag S H H2:=(ff.trans (e1.mono fun z _ h=>hC z h)).trans (f2.mono fun _ _ h=>h.elim)
 have z1:=eS.size
 refine .inr ⟨qv,rfl,dG Ql,⟨B,Ql,C,l3,V3,MI,oY,XD,agz,BH,rb3,rfl,m3,f3,by rw[RM,hl];rfl,fun z=>Iff.rfl⟩,eS.trans (e3.mono fun z _ h=>(hS z).2 h),fun z hz=>?_⟩
 rcases Tz z hz with h|h
 ·exact .inl ((hS z).2 h)
 ·exact .inr (by omega)
theorem jz.Uv{hm:Int→Int}(f:jz hm lt ch par rows W)(x:Int):E6 ch (ch x):=by
 unfold E6
 rw[List.pairwise_iff_getElem]
 intro i j hi hj Kl
 rw[f.dg x i _ (aog hi),f.dg x j _ (aog hj)]
 exact Kl
theorem jz.Uw{hm:Int→Int}(f:jz hm lt ch par rows []){x g:Int}(hx:x∈rows g):jz hm lt ch par (ay rows g ((rows g).filter fun y=> !decide (x=y))) [x]:=by
 have hn:=(f.rr g).nodup
 have hp:(rows g++[]).Perm (((rows g).filter fun y=> !decide (x=y))++[x]):=by
  rw[ao9]
  refine(List.perm_ext_iff_of_nodup hn ?_).2 fun y=>?_
  ·rw[ao1]
   refine⟨hn.filter _,by simp,fun u hu v hv e=>?_⟩
   rw[ao8]at hu
   rw[aop.1 hv]at e
   simp[e]at hu
  ·rw[aot,ao8,aop]
   by_cases h:x=y
   ·simp[←h,hx]
   ·simp[h,Ne.symm h]
 have f2:=((f.loose g).perm hp).row (g:=g) (by unfold ay;rw[if_pos rfl]) ((f.rr g).sub List.filter_sublist) (fun c hc=>(f.rm g c (ao8.1 hc).1).1)
 rwa[eB]at f2
theorem EF{H:Hp}{bx:Nat}{x:Int}(hb:H.own bx=some [i64 x])(y:Int):af Tryz.prog iZ [i64 y,ptr bx] H fun v H'=>aw (v= .bool (decide (x=y))∧H'=H):=by
 refine vA mixed (an:=rE) (by conv=>lhs;cbv) (nt:=7) (by kernel_rfl) (by simp) ?_
 refine v1 (ae hb) ?_
 exact⟨rfl,rfl⟩
theorem Ii(m:uZ H ro B C w l V ch par kb cS rows rb)(aO:∀a b,aQ w a b=true→lt a b=true)(f:jz (aG w) lt ch par rows []){x g:Int}(uM:x∈rows g)(yt:0≤g∧g<cS.length)(abF:∀a b,0<aG w a→0<aG w b→a≠x→b≠x→lt a b=true→aQ (w.put x (0,0,0)) a b=true):
  af Tryz.prog tZ [ptr B.n,i64 g,i64 x] H fun v H'=>aw (v= .bool true∧∃ro' l' V' dO bG tM NI jU rb',uZ H' ro' B C (w.put x (0,0,0)) l' V' dO bG tM NI jU rb'∧jz (aG (w.put x (0,0,0))) (aQ (w.put x (0,0,0))) dO bG jU []∧NI.length=cS.length∧
   (∀z,dG ro' z→dG ro z∨H.size≤z)∧ag (dG ro) H H'):=by
 obtain⟨OR,Ks,RQ,_⟩:=f.rm g x uM
 have gf:=uS (w:=w) x (by omega)
 have xq:=m.cells.Ee
 have aZ:=bZ (f.rr g).nodup fun c hc=>uS (w:=w) c (by have:=f.rm g c hc;omega)
 refine GO uj ⟨rfl,?_⟩
 refine v1 kO.eq_1 ?_
 have f0:ah H (H.new 3 [i64 x]):=(ag.refl _ _).new _ _
 have b0:(H.new 3 [i64 x]).own H.size=some [i64 x]:=az _ _ _
 have z0:(H.new 3 [i64 x]).size=H.size+1:=ap _ _ _
 have m0:=m.fresh f0
 generalize H.new 3 [i64 x]=H0 at*
 obtain⟨lb,tc,sv,o1,q1,q2,Dz,_,s2⟩:=m0.LU yt
 obtain⟨va,vc,rfl⟩:=Sl.shape s2
 refine jB.intro (fun H'=>H'.own B.n=some [ptr B.c,ptr B.fb,.slice (some ⟨B.rp,0,none⟩) cS.length tc]) o1 ?_
 refine vs ?_
 refine fJ.intro (.slice (some ⟨B.rp,0,none⟩) cS.length tc) (fun H' hI=>by refine v1 (ae hI) ?_;trivial) ?_
 refine v1 (ae o1) ?_
 refine And.intro o1 ?_
 refine vs ?_
 refine⟨⟨by omega,by omega⟩,?_⟩
 refine v4 (ae q1) aoh aok q2 ?_
 refine And.intro o1 ?_
 refine vs ?_
 have JW:∀b,rb g=some b→ro b= .row g:=fun b hb=>m.mJ g b yt.1 yt.2 hb
 refine(CR s2 iZ [ptr H.size] (fun y=>decide (x=y)) (by kernel_rfl) (fun H' e' y=>EF (e'.own b0 (fun hh=>by have:=m.slt _ (fk (JW _ hh) nofun);omega)) y) (by omega)).mono ?_
 rintro _ H1 ⟨s3,e1⟩
 obtain⟨va',VF,rfl⟩:=Sl.shape s3
 have abG:∀z q,ro z=q→q≠ .row g→¬rb g=some z:=fun z q h1 h2 h3=>h2 (by rw[←h1,JW z h3])
 have o2:=e1.own o1 (abG _ _ m.rn nofun)
 have q3:=e1.own q1 (abG _ _ m.rr nofun)
 refine And.intro o2 ?_
 refine vs ?_
 refine⟨⟨by omega,by omega⟩,?_⟩
 refine v3 q3 aoh aok ?_
 refine⟨by omega,?_⟩
 obtain⟨m2,e2,vS⟩:=m0.VJ yt e1 q3 s3 (fun b hb=>.inr (JW b hb))
 have hnr:B.n≠B.rp:=fun e=>by have:=m.rn;rw[e,m.rr]at this;cases this
 refine vs ?_
 refine And.intro o2 ?_
 have XE:¬dG ro H.size:=fun h=>by have:=m.slt _ h;omega
 have b2:=e2.own b0 XE
 have z2:=e2.size
 have f2:=f.Uw uM
 generalize H1.wr B.rp (lb.set g.toNat (Value.slice va' ((rows g).filter fun y=> !decide (x=y)).length VF))=H2 at*
 obtain⟨n7,agA⟩:∃n7:Nat→Rl,n7=fun z=>if rb g=some z then Rl.row g else ro z:=⟨_,rfl⟩
 rw[←agA]at m2 vS
 have XF:∀z,dG n7 z→dG ro z:=fun z hz=>(vS z hz).elim id fun h=>fk (JW z h) nofun
 obtain⟨Nn,o3,_⟩:=m2.own
 refine v2 (ae o3) (ae b2) ?_
 have nT:(ch x).length≤w.cs.length:=bZ (f.pr.nd x) fun c hc=>m.fo.GU x c hc
 refine(C9 m2.fo m2.hz gf Ks (by omega)).mono ?_
 rintro sv H3 ⟨Ql,l3,V3,XD,fp3,fo3,r3,MG,e3,s4,fZ⟩
 have z3:=e3.size
 have m3:=m2.Sv fo3 (m2.cells.ext e3 (fun z hz hk=>by
  have:=m2.hC z hz
  rcases hk with hk| ⟨_,hk⟩<;>(rw[this]at hk;cases hk))) r3 MG (e3.mono fun z _ h=>.inl h)
 have f3:=f2.split.perm (show(x::(ch x++[])).Perm (ch x++[x]) by
  rw[ao9]
  exact ape (l₁:=[x]) (l₂:=ch x))
 have Km:x∉ch x:=fun h=>by have:=f.less h;omega
 have Ts:Gg H3 Ql H3.size sv (ch x):=Sl.rdB s4 fun b hb=>by
  rw[hb]at s4
  refine⟨Sl.lt s4,fun hc=>?_⟩
  have:=(fZ b hb).2
  rcases hc with (hc| ⟨x,hc⟩)|hc<;>(rw[this]at hc;cases hc)
 have agC:0≤g∧g< ((cS.set g.toNat (Value.slice va' ((rows g).filter fun y=> !decide (x=y)).length VF)).length:Int):=by rw[aoj];exact yt
 refine(BF m3 Ts aO f3 ((f.Uv x).frame fun c hc=>by unfold ay;rw[if_neg (fun e=>Km (by have h7:=hc;rw[e]at h7;exact h7))]) (fun c hc=>by
  have:=(f.pr.dn x c hc).2.2.1
  omega) agC).mono ?_
 rintro _ H4 ⟨ro4,l4,V4,Uq,JQ,kb4,agE,abH,rb4,m4,f4,Uh,w4,hr4,e4⟩
 have XG:∀z,dG Ql z→dG ro z∨H.size+1≤z:=fun z hz=>by
  by_cases OH:z<H2.size
  ·refine .inl (XF z fun h=>hz ?_)
   exact r3.none OH h
  ·exact .inr (by omega)
 have TZ:¬dG Ql H.size:=fun h=>by
  rcases XG _ h with h|h
  ·exact XE h
  ·omega
 have agF:¬KB n7 H.size:=fun h=>XE (XF _ (by rcases h with h| ⟨_,h⟩<;>exact fk h nofun))
 have b4:=e4.own (e3.own b2 agF) TZ
 obtain⟨tv4,o5,_⟩:=m4.own
 refine v2 (ae o5) (ae b4) ?_
 refine(ci m4.cells x).mono ?_
 have bJ:cY w.cs x:=bz.1 (by omega)
 rintro _ H5 (⟨bO,_,_⟩| ⟨_,rfl,c5,e5⟩)
 ·exact absurd bJ bO
 have m5:=m4.aJ c5 e5 (by simp[Nw.put])
 refine vs ?_
 have cN:=fun y=>dU (w:=w) gf (0,0,0) y
 have f5:=f4.drop (hm':=aG (w.put x (0,0,0))) (lt':=aQ (w.put x (0,0,0))) (by
  rw[w4 x (by simp)]
  unfold ay
  rw[if_pos rfl]) rfl (by rw[cN,if_pos rfl]) (fun y hy=>by rw[cN,if_neg hy]) abF
 have z4:=e4.size
 have abI:∀z,dG ro4 z→dG ro z∨H.size+1≤z:=fun z hz=>by
  rcases hr4 z hz with h|h
  ·exact XG z h
  ·exact .inr (by omega)
 refine⟨rfl,ro4,l4,V4,Uq,JQ,kb4,agE,abH,rb4,m5,f5,by rw[Uh,aoj],fun z hz=>?_,?_⟩
 ·rcases abI z hz with h|h
  ·exact .inl h
  ·exact .inr (by omega)
 ·refine⟨by have:=e5.size;omega,fun z hz hn=>?_⟩
  rw[e5.aM z (by omega) (fun h=>by
   rcases abI z (fk (m4.hC z h) nofun)with h|h
   ·exact hn h
   ·omega),e4.aM z (by omega) (fun h=>by
   rcases XG z h with h|h
   ·exact hn h
   ·omega),e3.aM z (by omega) (fun h=>hn (XF z (by rcases h with h| ⟨_,h⟩<;>exact fk h nofun))),e2.aM z (by omega) (fun h=>hn h),f0.aM z hz (fun h=>h)]
theorem De{n:Nat}{H:Hp}{S:Nat→Prop}{w:Nw}(h:gE n H S w)(g:Int):af Tryz.prog it [ptr n,i64 g] H fun v H'=>aw (
  (w.len g=0∧v= .tuple [i64 0,.bool false].toArray∧cB (gE n) S H H' w)∨(∃x,w.first g x∧v= .tuple [i64 x,.bool true].toArray∧cB (gE n) S H H' (w.put x (0,0,0)))):=by
 refine bq pX ?_
 refine vs ?_
 refine(BG h g).mono ?_
 rintro _ H1 (⟨h0,rfl,h1,e1⟩| ⟨x,hx,rfl,h1,e1⟩)
 ·refine vs ?_
  exact .inl ⟨h0,rfl,cB.same h1 e1⟩
 refine vs ?_
 obtain⟨B,ro,C,l,V,ch,par,kb,cS,rows,rb,rfl,m,f,hl,hS⟩:=h1
 obtain⟨hg,OR,mE⟩:=bM.1 hx
 have uM:x∈rows g:=by
  obtain⟨r,HZ,vS⟩:=f.root hg OR
  rcases vS with h|h
  ·rw[←h];exact HZ
  ·by_cases e:r=x
   ·rw[←e];exact HZ
   ·have h2:=mE r (f.rm g r HZ).1 e
    rw[(ar w).asym h2]at h
    cases h
 have gf:=uS (w:=w) x (by omega)
 have yt:=m.Sw hl ((m.cells.hm x).2 (by omega)).1
 rw[OR]at yt
 refine(Ii m (fun _ _ h=>h) f uM yt (fun a b ha hb tR ml h=>by rw[dw gf _ ha hb tR ml];exact h)).mono ?_
 rintro _ H2 ⟨rfl,n7,l2,V2,lE,jr,DE,agG,abJ,rb2,m2,f2,oI,vS,e2⟩
 refine vs ?_
 have z1:=e1.size
 refine .inr ⟨x,hx,rfl,dG n7,⟨B,n7,C,l2,V2,lE,jr,DE,agG,abJ,rb2,rfl,m2,f2,by rw[oI,hl];rfl,fun z=>Iff.rfl⟩,e1.trans (e2.mono fun z _ h=>(hS z).2 h),fun z hz=>?_⟩
 rcases vS z hz with h|h
 ·exact .inl ((hS z).2 h)
 ·exact .inr (by omega)
end
end Go.Proofs.YtjlnnljohemifaaGreat

namespace Go.Proofs.YtjlnnljohemifaaGreat
open Go Go.Vc
section
variable {H H' : Hp} {ro ro' : Nat → Rl} {B : Zy} {C T : Nat → Prop} {w w' : Nw} {l l' : List Value} {V V' : Int → Value} {ch dO : Int → List Int} {par bG : Int → Int} {kb tM : Int → Option Nat} {cS : List Value} {rows : Int → List Int} {rb : Int → Option Nat} {lt : Int → Int → Bool} {W W0 L : List Int}
theorem uZ.abK(m:uZ H ro B C w l V ch par kb cS rows rb){g:Int}(hg:0≤g∧g<cS.length){H1:Hp}(e:ag (fun z=>rb g=some z) H H1){sv:Value}(yf:cS[g.toNat]? =some sv){L':List Int}(s:Sl H1 1 sv L'.length (L'.map i64) (rb g)):
  uZ H1 ro B C w l V ch par kb cS (ay rows g L') rb:=by
 obtain⟨tv,h1,h2⟩:=m.own
 have hs:=e.size
 have n0:∀z q,ro z=q→q≠ .row g→¬rb g=some z:=fun z q h1 h2 h3=>h2 (by rw[←h1,m.mJ g z hg.1 hg.2 h3])
 refine⟨⟨tv,e.own h1 (n0 _ _ m.rn nofun),h2.ext e (fun b hb=>by injection hb with hb;subst hb;exact n0 _ _ m.rr nofun)⟩,fun k h0 h1=>?_,m.cells.ext e (fun z hz=>n0 z _ (m.hC z hz) nofun),m.fo.ext e (fun z hz=>by rcases hz with h|h| ⟨x,h⟩<;>exact n0 z _ h nofun),m.hC,m.rn,m.rr,m.mJ,fun z hz=>m.hz z (by omega)⟩
 by_cases hk:k=g
 ·subst hk
  refine⟨sv,yf,?_⟩
  unfold ay
  rw[if_pos rfl]
  exact s
 ·obtain⟨Vz,q1,q2⟩:=m.row k h0 h1
  refine⟨Vz,q1,?_⟩
  unfold ay
  rw[if_neg hk]
  exact q2.ext e (fun b hb=>n0 b _ (m.mJ k b h0 h1 hb) (fun e=>hk (by injection e)))
theorem Ij(m:uZ H ro B C w l V ch par kb cS rows rb){x g:Int}(f:MB (aG w) (aQ w) ch par rows [] x)(OR:aG w x=g)(RQ:0<g)(yt:0≤g∧g<cS.length)(fid:FuncId)(qu:List Value)(q:Int→Bool)(J:Hp→Prop)(E:(Int→List Int)→Prop)(hJ:J H)
  (uD:∀H' GP,J H'→ag (fun z=>dG ro z∧z≠B.n) H' GP→J GP)(El:eF Tryz.prog fid=true)
  (hq:∀H' p,J H'→CQ H' B.c C w→0<aG w p→af Tryz.prog fid (i64 p::qu) H' fun v GP=>aw (v= .bool (q p)∧CQ GP B.c C w∧ag C H' GP))(hE:E ch)
  (hEs:∀ (ch:Int→List Int) (par:Int→Int) (rows:Int→List Int) p,MB (aG w) (aQ w) ch par rows [] x→x∈ch p→q p=true→E ch→E (GN ch x p)):
  af Tryz.prog tY [ptr B.n,i64 g,i64 x,.func (.func fid) #[] qu.toArray] H fun v H'=>aw (∃ro' l' V' dO bG tM jU,uZ H' ro' B C w l' V' dO bG tM cS jU rb∧MB (aG w) (aQ w) dO bG jU [] x∧E dO∧(bG x= -1∨q (bG x)=false)∧
   (∀z,dG ro' z→dG ro z)∧ag (dG ro) H H'):=by
 have ls:=ar w
 have gf:=uS (w:=w) x (by omega)
 have xq:=m.cells.Ee
 refine bq ui ?_
 refine vs ?_
 refine aW.intro (fun mm env H'=>∃ (ro':Nat→Rl) (l':List Value) (V':Int→Value) (dO:Int→List Int) (bG:Int→Int) (tM:Int→Option Nat) (jU:Int→List Int),mm=w.cs.length - (dO x).length∧uZ H' ro' B C w l' V' dO bG tM cS jU rb∧MB (aG w) (aQ w) dO bG jU [] x∧E dO∧J H'∧
  (∀z,dG ro' z→dG ro z)∧ag (dG ro) H H'∧env=[(0,ptr B.n),(1,i64 g),(2,i64 x),(3,.func (.func fid) #[] qu.toArray)]) _ ⟨ro,l,V,ch,par,kb,rows,rfl,m,f,hE,hJ,fun _ h=>h,ag.refl _ _,rfl⟩ ?_
 clear m f hE hJ
 rintro mm env H1 ⟨Xs,l1,V1,O0,xA,Zt,oB,rfl,m1,f1,hE1,hJ1,HZ,e1,rfl⟩
 obtain⟨CO,o1,_⟩:=m1.own
 refine v1 (ae o1) ?_
 refine(oT m1.fo.t gf).mono ?_
 rintro _ H' ⟨⟨hp,rfl⟩| ⟨hp,rfl⟩,e⟩
 ·obtain rfl:=e.symm
  refine vs ?_
  exact⟨Xs,l1,V1,O0,xA,Zt,oB,m1,f1,hE1,.inl hp,HZ,e1⟩
 obtain rfl:=e.symm
 obtain⟨p,XH⟩:∃p,p=xA x:=⟨_,rfl⟩
 rw[←XH]at hp ⊢
 have Ks:=f1.w.pr.up x p XH.symm hp
 obtain⟨_,_,hpg,BZ,_⟩:=f1.w.pr.dn p x Ks
 have fB:=f1.w.less Ks
 have hp0:=uS (w:=w) p (by omega)
 have aZ:∀z,(O0 z).length≤w.cs.length:=fun z=>bZ (f1.w.pr.nd z) fun c hc=>m1.fo.GU z c hc
 refine vs ?_
 refine⟨El,?_⟩
 refine af.mono (by simpa using hq H1 p hJ1 m1.cells (by omega)) ?_
 rintro _ H2 ⟨rfl,c2,e2⟩
 have m2:=m1.aJ c2 e2 rfl
 have e2':ag (dG ro) H1 H2:=e2.mono fun z _ h=>HZ z (fk (m1.hC z h) nofun)
 have hJ2:=uD _ _ hJ1 (e2.mono fun z _ h=>⟨HZ z (fk (m1.hC z h) nofun),fun e=>by have:=m1.hC z h;rw[e,m1.rn]at this;cases this⟩)
 have pD:=e1.trans e2'
 cases hqp:q p
 ·refine vs ?_
  exact⟨Xs,l1,V1,O0,xA,Zt,oB,m2,f1,hE1,.inr (by rw[←XH];exact hqp),HZ,pD⟩
 obtain⟨Nn,o2,_⟩:=m2.own
 refine v1 (ae o2) ?_
 refine(oT m2.fo.t hp0).mono ?_
 have XI:∀h,x∉oB h:=fun h hh=>hp (by rw[XH];exact(f1.w.rm h x hh).2.1)
 have Rf:xA p≠ -1→0≤xA p∧xA p<w.cs.length:=fun h=>by
  have:=(f1.w.pr.dn _ _ (f1.w.pr.up p _ rfl h)).2.2
  exact uS (w:=w) _ (by omega)
 have fin:∀ (H3:Hp) (BH:Int→List Int),uZ H3 Xs B C w l1 V1 O0 xA Zt cS BH rb→(∀h,BH h=(oB h).map (gU x p))→J H3→ag (dG ro) H H3→∀ (K:Value→Hp→Prop),(∀H4,(∃m',m'<w.cs.length - (O0 x).length∧∃ (ro':Nat→Rl) (l':List Value) (V':Int→Value) (dO:Int→List Int) (bG:Int→Int) (tM:Int→Option Nat) (jU:Int→List Int),m'=w.cs.length - (dO x).length∧uZ H4 ro' B C w l' V' dO bG tM cS jU rb∧MB (aG w) (aQ w) dO bG jU [] x∧E dO∧J H4∧
  (∀z,dG ro' z→dG ro z)∧ag (dG ro) H H4)→K (.bool true) H4)→af Tryz.prog lU [ptr B.fb,i64 x] H3 K:=fun H3 BH m3 Dx hJ3 e3 K hK=>by
  refine(Ez m3.fo m3.hz f1.w gf hp0 Ks Rf xq).mono ?_
  rintro _ H4 ⟨rfl,ro4,l4,V4,kb4,fo4,r4,WQ,e4,agI⟩
  have m4:=m3.Sv fo4 (m3.cells.ext e4 (fun z hz hk=>by
   have:=m3.hC z hz
   rcases hk with hk| ⟨_,hk⟩<;>(rw[this]at hk;cases hk))) r4 WQ (e4.mono fun z _ h=>.inl h)
  have e4':ag (dG ro) H3 H4:=e4.mono fun z _ h=>HZ z (by rcases h with h| ⟨_,h⟩<;>exact fk h nofun)
  have f4:=f1.up ls Ks
  have XJ:(fun h=>(oB h).map (gU x p))=BH:=by funext h;exact(Dx h).symm
  rw[XJ,List.map_nil]at f4
  have Uh:(GN O0 x p x).length=(O0 p).length:=by unfold GN;rw[kE,aoE]
  have:=aZ p
  have alO:=e4.size
  refine hK H4 ⟨w.cs.length - (GN O0 x p x).length,by omega,ro4,l4,V4,_,_,kb4,BH,rfl,m4,f4,hEs _ _ _ p f1 Ks hqp hE1,uD _ _ hJ3 (e4.mono fun z _ h=>⟨HZ z (by rcases h with h| ⟨_,h⟩<;>exact fk h nofun),fun e=>by rw[e]at h;rcases h with h| ⟨_,h⟩<;>(rw[m3.rn]at h;cases h)⟩),fun z hz=>?_,e3.trans e4'⟩
  exact HZ z fun h=>hz (agI z h)
 rintro _ H' ⟨⟨Pq,rfl⟩| ⟨Pq,rfl⟩,e⟩
 ·obtain rfl:=e.symm
  have hpr:p∈oB g:=by
   rcases f1.w.jy p (by omega) Pq with h|h
   ·rw[hpg,OR]at h;exact h
   ·cases h
  obtain⟨lb,tc,sv,o3,q1,q2,Dz,yf,s3⟩:=m2.LU yt
  obtain⟨k0,Zz,ek0⟩:=aqb.1 hpr
  obtain⟨b,lr,rc,rfl,Xy,qb,qk0,alP,Wr,_⟩:=Sl.Ur s3 (i:=k0) (x:=p) (by rw[aog Zz,ek0])
  have Zo:=bZ (f1.w.rr g).nodup fun c hc=>uS (w:=w) c (by have:=f1.w.rm g c hc;omega)
  refine v1 (ae o3) ?_
  refine⟨⟨by omega,by omega⟩,?_⟩
  refine v5 (ae q1) aoh aok q2 (ae o3) ?_
  refine⟨⟨by omega,by omega⟩,?_⟩
  refine v4 (ae q1) aoh aok q2 ?_
  have gA:=(f1.w.rr g).nodup
  have abL:(oB g)[k0]? =some p:=by rw[aog Zz,ek0]
  refine⟨i64 (k0:Int),(fD s3.rd p (by omega)).mono ?_,?_⟩
  ·rintro _ H' ⟨⟨j,rfl,hj⟩,e⟩
   obtain⟨hj0,hj⟩:=hj.resolve_left (fun h=>h.2 hpr)
   have Y1:=(aoi.1 hj).1
   have:=(List.getElem?_inj Y1 gA).1 (hj.trans abL.symm)
   exact⟨by rw[show j=(k0:Int) by omega],e⟩
  refine vs ?_
  refine⟨⟨by omega,by omega⟩,?_⟩
  refine v4 qb aoh aok Int.toNat_natCast ?_
  refine⟨by omega,?_⟩
  rw[Xy]at s3
  have s4:=s3.uB qb k0 (i64 x)
  have e3:ag (fun z=>rb g=some z) H2 (H2.wr b (lr.set k0 (i64 x))):=(ag.refl (fun z=>rb g=some z) _).wr (fun _=>Xy) _
  have Sk:(oB g).map (gU p x)=(oB g).map (gU x p):=aqe fun c _=>by
   unfold gU
   by_cases e1:c=x
   ·by_cases e2:c=p
    ·rw[if_pos e2,if_pos e1];exact e1▸e2▸rfl
    ·rw[if_neg e2,if_pos e1,if_pos e1]
   ·by_cases e2:c=p
    ·rw[if_pos e2,if_neg e1,if_pos e2]
    ·rw[if_neg e2,if_neg e1,if_neg e1,if_neg e2]
  rw[←ao3,JS gA (XI g) abL,Sk]at s4
  have W9:((oB g).map (gU x p)).length=(oB g).length:=aoE ..
  have m3:=m2.abK yt e3 yf (L':=(oB g).map (gU x p)) (by rw[Xy,W9];exact s4)
  have Zb:ag (dG ro) H2 (H2.wr b (lr.set k0 (i64 x))):=e3.mono fun z _ h=>HZ z (fk (m2.mJ g z yt.1 yt.2 h) nofun)
  obtain⟨Y8,o4,_⟩:=m3.own
  refine v1 (ae o4) ?_
  refine fin _ _ m3 (fun h=>?_) (uD _ _ hJ2 (e3.mono fun z _ h=>⟨HZ z (fk (m2.mJ g z yt.1 yt.2 h) nofun),fun e=>by have:=m2.mJ g z yt.1 yt.2 h;rw[e,m2.rn]at this;cases this⟩)) (pD.trans Zb) _ fun H4 hh=>?_
  ·unfold ay
   split
   ·rename_i e;rw[e]
   ·rename_i e
    exact(Af (XI h) (fun hh=>e (by rw[← (f1.w.rm h p hh).1,hpg,OR]))).symm
  obtain⟨m',hm',ro',l',V',dO,bG,tM,jU,h1,h2,h3,h4,h5,h6,h7⟩:=hh
  refine vs ?_
  exact⟨m',hm',ro',l',V',dO,bG,tM,jU,h1,h2,h3,h4,h5,h6,h7,trivial⟩
 ·obtain rfl:=e.symm
  have agJ:∀h,p∉oB h:=fun h hh=>Pq (f1.w.rm h p hh).2.1
  refine v1 (ae o2) ?_
  refine fin H2 oB m2 (fun h=>(Af (XI h) (agJ h)).symm) hJ2 pD _ fun H4 hh=>?_
  obtain⟨m',hm',ro',l',V',dO,bG,tM,jU,h1,h2,h3,h4,h5,h6,h7⟩:=hh
  refine vs ?_
  exact⟨m',hm',ro',l',V',dO,bG,tM,jU,h1,h2,h3,h4,h5,h6,h7,trivial⟩
end
end Go.Proofs.YtjlnnljohemifaaGreat

namespace Go.Proofs.YtjlnnljohemifaaGreat
open Go Go.Vc
theorem xH{H:Hp}{C:Nat→Prop}{w:Nw}{b3 b4 n c:Nat}{x:Int}{rest:List Value}(h3:H.own b3=some [ptr n])(h4:H.own b4=some [i64 x])(hn:H.own n=some (ptr c::rest))(cq:CQ H c C w){p:Int}(hx:0<aG w x)(hp:0<aG w p):
  af Tryz.prog fL [i64 p,ptr b3,ptr b4] H fun v H'=>aw (v= .bool (aQ w x p)∧CQ H' c C w∧ag C H H'):=by
 refine vA mixed (an:=nk) (by conv=>lhs;cbv) (nt:=12) (by kernel_rfl) (by simp) ?_
 refine v3 (ae h3) (ae h4) (ae hn) ?_
 refine(cF cq x p).mono ?_
 rintro _ H1 ⟨rfl,c1,e1⟩
 rw[gR (w:=w) (a:=x) (b:=p) hx hp]
 refine vs ?_
 exact⟨rfl,c1,e1⟩
theorem BI{n:Nat}{H:Hp}{S:Nat→Prop}{w:Nw}(h:gE n H S w)(x k s:Int):af Tryz.prog gM [ptr n,i64 x,tK k s] H fun v H'=>aw (
  (¬w.db x k s∧v= .bool false∧cB (gE n) S H H' w)∨(w.db x k s∧v= .bool true∧∃y,w.cs[x.toNat]? =some y∧cB (gE n) S H H' (w.put x (y.1,k,s)))):=by
 obtain⟨B,ro,C,l,V,ch,par,kb,cS,rows,rb,rfl,m,f,hl,hS⟩:=h
 have hC:∀z,C z→S z:=fun z h=>(hS z).2 (fk (m.hC z h) nofun)
 have hSR:∀z,S z→z<H.size:=fun z hz=>m.slt z ((hS z).1 hz)
 refine bq oM ?_
 refine vs ?_
 have f0:ah H (((H.new 198 [ptr B.n]).new 3 [i64 x]).new 224 [i64 k,u64 s]):=(((ag.refl _ _).new _ _).new _ _).new _ _
 have b3:(((H.new 198 [ptr B.n]).new 3 [i64 x]).new 224 [i64 k,u64 s]).own H.size=some [ptr B.n]:=by
  rw[cu (by simp only[ap];omega),cu (by simp only[ap];omega),az]
 have b4:(((H.new 198 [ptr B.n]).new 3 [i64 x]).new 224 [i64 k,u64 s]).own (H.size+1)=some [i64 x]:=by
  rw[cu (by simp only[ap];omega)]
  exact aT (by simp only[ap])
 have b5:(((H.new 198 [ptr B.n]).new 3 [i64 x]).new 224 [i64 k,u64 s]).own (H.size+1+1)=some [i64 k,u64 s]:=aT (by simp only[ap])
 have m0:=m.fresh f0
 generalize ((H.new 198 [ptr B.n]).new 3 [i64 x]).new 224 [i64 k,u64 s]=H0 at*
 have ff:ag S H H0:=f0.mono fun _ _ h=>h.elim
 obtain⟨tv,HS,_⟩:=m0.own
 refine v4 (ae b3) (ae b4) (ae HS) (ae b5) ?_
 refine(gQ m0.cells x k s).mono ?_
 rintro _ H1 (⟨bO,rfl,c1,e1⟩| ⟨bJ,rfl,y,hy,fB,c1,e1⟩)
 ·refine vs ?_
  exact .inl ⟨bO,rfl,cB.same ⟨B,ro,C,l,V,ch,par,kb,cS,rows,rb,rfl,m0.ext e1 (fun _ _ h=>h),f,hl,hS⟩ (ff.trans (e1.mono fun _ _ h=>h.elim))⟩
 have mE:(w.put x (y.1,k,s)).cs.length=w.cs.length:=by simp[Nw.put]
 have m1:=m0.aJ c1 e1 mE
 have Bo:w.db x k s:=⟨bJ,fun z hz=>by rw[hy]at hz;injection hz with hz;rw[←hz];exact fB⟩
 have hx:0≤x∧x<w.cs.length:=⟨bJ.1,by have:=(aoi.1 hy).1;have:=bJ.1;omega⟩
 have ON:aG w x=y.1:=j6 bJ.1 hy
 have dH:=bz.2 bJ
 have hw:aG (w.put x (y.1,k,s))=aG w:=by
  funext z
  rw[dU hx]
  split
  ·rename_i e;rw[e,ON]
  ·rfl
 have Et:cY (w.put x (y.1,k,s)).cs x:=bz.1 (by rw[hw];exact dH)
 have el:∀a b,0<aG w a→0<aG w b→a≠x→b≠x→aQ (w.put x (y.1,k,s)) a b=aQ w a b:=fun a b ha hb tR ml=>dw hx _ ha hb tR ml
 have ex:∀b,0<aG w b→b≠x→aQ w x b=true→aQ (w.put x (y.1,k,s)) x b=true:=fun b hb ml h=>Bf bJ hy fB hb ml h
 have ls:=ar w
 have Tr:=ar (w.put x (y.1,k,s))
 have nC:∀z,H.size≤z→¬C z:=fun z hz hc=>by have:=hSR z (hC z hc);omega
 have b31:=e1.own b3 (nC _ (aou _))
 have b41:=e1.own b4 (nC _ (by omega))
 obtain⟨CO,o1,_⟩:=m1.own
 have yt:=m.Sw hl ((m.cells.hm x).2 dH).1
 have hhl:(w.put x (y.1,k,s)).hs.length=w.hs.length:=by simp[Nw.put]
 refine v3 (ae b31) (ae b41) (ae o1) ?_
 refine(di m1.cells x).mono ?_
 rintro _ H2 (⟨bO,_,_⟩| ⟨_,rfl,c2,e2⟩)
 ·exact absurd Et bO
 have m2:=m1.aJ c2 e2 rfl
 have pD:ag S H H2:=(ff.trans (e1.mono fun z _ h=>hC z h)).trans (e2.mono fun z _ h=>hC z h)
 have b32:=e2.own b31 (nC _ (aou _))
 have b42:=e2.own b41 (nC _ (by omega))
 rw[hw]
 refine v2 (ae b32) (ae b42) ?_
 have f2:MB (aG (w.put x (y.1,k,s))) (aQ (w.put x (y.1,k,s))) ch par rows [] x:=by
  rw[hw]
  exact MB.start ls f el
 have hE0:∀d∈ch x,aQ (w.put x (y.1,k,s)) x d=true:=fun d hd=>by
  obtain⟨_,_,_,h4,h5⟩:=f.pr.dn x d hd
  exact ex d h4 (fun e=>by have:=f.less hd;rw[e]at this;omega) h5
 have hsR:∀z,dG ro z→z<H.size:=m.slt
 refine(Ij m2 f2 (g:=aG w x) (by rw[hw]) dH yt fL [ptr H.size,ptr (H.size+1)] (fun p=>aQ (w.put x (y.1,k,s)) x p) (fun H'=>H'.own H.size=some [ptr B.n]∧H'.own (H.size+1)=some [i64 x]∧∃tv,H'.own B.n=some [ptr B.c,ptr B.fb,tv])
  (fun ch=>∀d∈ch x,aQ (w.put x (y.1,k,s)) x d=true) ?_ (fun H' GP hJ e=>?_) (by kernel_rfl) (fun H' p hJ cq hp=>?_) hE0 (fun ch par rows p cx Ks hq _=>cx.low Tr Ks hq)).mono ?_
 ·obtain⟨Nn,o2,_⟩:=m2.own
  exact⟨b32,b42,Nn,o2⟩
 ·obtain⟨j1,j2,Nn,o2⟩:=hJ
  exact⟨e.own j1 (fun h=>by have:=hsR _ h.1;omega),e.own j2 (fun h=>by have:=hsR _ h.1;omega),Nn,e.own o2 (fun h=>h.2 rfl)⟩
 ·obtain⟨j1,j2,Nn,o2⟩:=hJ
  exact xH j1 j2 o2 cq (by rw[hw];exact dH) hp
 rintro _ H3 ⟨Ql,l3,V3,MI,oY,XD,BH,m3,f3,hE3,hq3,Tz,e3⟩
 refine vs ?_
 have f4:=f3.done hE3 (fun hp=>by
  rcases hq3 with h|h
  ·exact absurd h hp
  ·have hxc:=f3.w.pr.up x _ rfl hp
   have XK:=f3.w.less hxc
   exact(Tr.OC (oY x) x (fun e=>by rw[e]at XK;omega)).resolve_right (by rw[h];simp))
 have z2:=pD.size
 refine .inr ⟨Bo,rfl,y,hy,dG Ql,⟨B,Ql,C,l3,V3,MI,oY,XD,cS,BH,rb,rfl,m3,f4,by rw[hl,hhl],fun z=>Iff.rfl⟩,pD.trans (e3.mono fun z _ h=>(hS z).2 h),fun z hz=>.inl ((hS z).2 (Tz z hz))⟩
theorem JX(cap:Int)(H:Hp):af Tryz.prog Fe [i64 cap] H fun v H'=>aw (
  ah H H'∧((¬ (0≤cap∧cap≤65536)∧v= .tuple [.pointer none,i64 31].toArray)∨
   ((0≤cap∧cap≤65536)∧∃n S,v= .tuple [ptr n,i64 0].toArray∧gE n H' S (zD cap)∧∀x,S x→H.size≤x))):=by
 refine bq Fk ?_
 refine vs ?_
 refine(kZ cap H).mono ?_
 rintro _ H1 ⟨f1,⟨hb,rfl⟩| ⟨hb,c,C,rfl,c1,hC⟩⟩
 ·refine vs ?_
  exact⟨f1,.inl ⟨hb,rfl⟩⟩
 refine vs ?_
 refine(Gf H1 hb).mono ?_
 rintro _ H2 ⟨fb,tb,l,rfl,t2,f2,hfb,Vn⟩
 have c2:=c1.fresh f2
 refine vs ?_
 have ya:=c1.slt
 have z1:=f1.size
 have z2:=f2.size
 have hts:=t2.RJ
 have aP:=t2.ne
 have f3:ah H2 ((H2.new 24 [.slice none 0 0]).new 260 [ptr c,ptr fb,.slice (some ⟨H2.size,0,none⟩) 1 1]):=((ag.refl _ _).new _ _).new _ _
 have e2:ag (fun _=>False) (H2.new 24 [.slice none 0 0]) ((H2.new 24 [.slice none 0 0]).new 260 [ptr c,ptr fb,.slice (some ⟨H2.size,0,none⟩) 1 1]):=(ag.refl _ _).new _ _
 have z3:((H2.new 24 [.slice none 0 0]).new 260 [ptr c,ptr fb,.slice (some ⟨H2.size,0,none⟩) 1 1]).size=H2.size+1+1:=by simp only[ap]
 obtain⟨ro,NN⟩:∃ro:Nat→Rl,ro=fun z=>if z=H2.size+1 then Rl.RI else if z=H2.size then Rl.Lu else if z=fb then Rl.FM else if z=tb then Rl.table else @ite _ (C z) (Classical.propDecidable _) Rl.cell Rl.no:=⟨_,rfl⟩
 have r1:ro (H2.size+1)= .RI:=by rw[NN];simp
 have r2:ro H2.size= .Lu:=by rw[NN];simp
 have r3:ro fb= .FM:=by rw[NN];show(if fb=H2.size+1 then _ else _)=_;rw[if_neg (by omega),if_neg (by omega),if_pos rfl]
 have r4:ro tb= .table:=by rw[NN];show(if tb=H2.size+1 then _ else _)=_;rw[if_neg (by omega),if_neg (by omega),if_neg (by omega),if_pos rfl]
 have r5:∀z,C z→ro z= .cell:=fun z hz=>by
  have:=ya z hz
  rw[NN];show(if z=H2.size+1 then _ else _)=_;rw[if_neg (by omega),if_neg (by omega),if_neg (by omega),if_neg (by omega),if_pos hz]
 have r6:∀z,ro z≠ .no→H.size≤z∧z<H2.size+1+1:=fun z hz=>by
  rw[NN]at hz
  simp only at hz
  split at hz
  ·omega
  ·split at hz
   ·omega
   ·split at hz
    ·omega
    ·split at hz
     ·omega
     ·split at hz
      ·rename_i h
       have:=hC z h
       have:=ya z h
       omega
      ·exact absurd rfl hz
 have nT:(zD cap).cs.length=cap.toNat:=by simp[zD]
 refine⟨(f1.trans f2).trans f3,.inr ⟨hb,H2.size+1,dG ro,rfl,⟨⟨H2.size+1,c,fb,tb,H2.size⟩,ro,C,l,fun _=>.slice none 0 0,fun _=>[],fun _=> -1,fun _=>none,[.slice none 0 0],fun _=>[],fun _=>none,rfl,⟨⟨.slice (some ⟨H2.size,0,none⟩) 1 1,aT (by simp only[ap]),?_⟩,fun g h0 h1=>?_,c2.fresh f3,?_,r5,r1,r2,fun g b _ _ h=>(by cases h),fun z hz=>?_⟩,
  ⟨⟨rfl,fun x c hc=>absurd hc (by simp),fun c x h hx=>absurd (Eq.symm h) hx,fun x=>apr⟩,fun x i c hc=>by simp at hc,fun h=>List.Pairwise.nil,fun h c hc=>absurd hc (by simp),apr,fun c hc=>absurd hc (by simp),fun c hc=>absurd hc (lf cap c)⟩,rfl,fun z=>Iff.rfl⟩,fun z hz=>(r6 z hz).1⟩⟩
 ·exact(Sl.bU (size:=1) (n:=1) (xs:=[.slice none 0 0]) rfl rfl).ext e2 (fun _ _ h=>h)
 ·have h1:g<1:=h1
  have hg:g=0:=by omega
  subst hg
  exact⟨.slice none 0 0,rfl,Sl.nil _ _⟩
 ·rw[nT]
  exact⟨t2.ext f3 (fun h=>h) (fun h=>h),fun x h0 h1=>Sl.nil _ _,r3,r4,fun x b _ _ h=>(by cases h),fun x c hc=>absurd hc (by simp),fun _ _=>rfl⟩
 ·apply aoH
  intro h
  have:=(r6 z h).2
  have hz':H2.size+1+1≤z:=by rw[←z3];exact hz
  omega
theorem Ik{n:Nat}{H:Hp}{S:Nat→Prop}{w:Nw}(h:gE n H S w):af Tryz.prog kI [ptr n] H fun v H'=>aw (
  (w.hs.length=65537∧v=i64 0∧cB (gE n) S H H' w)∨(w.hs.length≠65537∧v=i64 w.hs.length∧cB (gE n) S H H' w.make)):=by
 obtain⟨B,ro,C,l,V,ch,par,kb,cS,rows,rb,rfl,m,f,hl,hS⟩:=id h
 obtain⟨tv,ho,z6⟩:=m.own
 refine bq uh ?_
 refine v1 (ae ho) ?_
 refine(jo m.cells).mono ?_
 rintro _ H1 (⟨h1,rfl,rfl⟩| ⟨h1,rfl,C',c1,e1,zE⟩)
 ·refine vs ?_
  exact .inl ⟨h1,rfl,cB.same h (ag.refl _ _)⟩
 have gh:=m.cells.pos
 have hhs:=m.cells.z6
 have slt:=m.slt
 have LD:=c1.slt
 have z1:=e1.size
 have nc:∀z q,ro z=q→q≠ .cell→¬C z:=fun z q h1 h2 hc=>h2 (by rw[←h1,m.hC z hc])
 have o1:=e1.own ho (nc _ _ m.rn nofun)
 refine vs ?_
 refine am.cQ (aov (by omega)) ?_
 refine v1 (ae o1) ?_
 have s1:=z6.ext e1 (fun b hb=>by injection hb with hb;subst hb;exact nc _ _ m.rr nofun)
 have fl:ah H1 (H1.new 24 [.slice none 0 0]):=(ag.refl _ _).new _ _
 have zl:(H1.new 24 [.slice none 0 0]).size=H1.size+1:=ap _ _ _
 refine Sl.append (s1.ext fl (fun _ _ h=>h)) (Sl.bU (size:=1) (n:=1) (xs:=[.slice none 0 0]) rfl rfl).rd rfl (fun v hv=>by rw[aop.1 hv];rfl) (by omega) ?_
 intro w' H2 cP s2 e2' fZ
 have e2:ag (fun z=>z=B.rp) H1 H2:=⟨apa fl.size e2'.size,fun z hz hn=>by
  rw[e2'.aM z (aoG hz fl.size) (fun h=>hn (by injection h with h;exact h.symm)),fl.aM z hz (fun h=>h)]⟩
 obtain⟨b',rfl,jX⟩:∃b',cP=some b'∧(b'=B.rp∨H1.size≤b'∧b'<H2.size):=by
  rcases fZ with rfl| ⟨b',rfl,h2,h3⟩
  ·exact⟨_,rfl,.inl rfl⟩
  ·exact⟨b',rfl,.inr ⟨by omega,h3⟩⟩
 have hnr:B.n≠B.rp:=fun e=>by have:=m.rn;rw[e,m.rr]at this;cases this
 have o2:=e2.own o1 hnr
 obtain⟨wa,wc,OT⟩:=Sl.shape s2
 subst OT
 refine v1 o2 ?_
 have hln:B.n<H.size:=slt _ (fk m.rn nofun)
 have Zo:B.rp<H.size:=slt _ (fk m.rr nofun)
 have e3:∀v,ag (fun z=>z=B.n) H2 (H2.wr B.n [ptr B.c,ptr B.fb,v]):=fun v=>(ag.refl (fun z=>z=B.n) _).wr (fun _=>rfl) _
 obtain⟨n7,NN⟩:∃n7:Nat→Rl,n7=fun z=>if z=b' then Rl.Lu else if z<H.size then ro z else @ite _ (C' z) (Classical.propDecidable _) Rl.cell Rl.no:=⟨_,rfl⟩
 have r1:n7 b'= .Lu:=by rw[NN];show(if b'=b' then _ else _)=_;rw[if_pos rfl]
 have r2:∀z q,ro z=q→q≠ .no→q≠ .Lu→n7 z=q:=fun z q h1 h2 h3=>by
  have hz:=slt z (fk h1 h2)
  rw[NN]
  show(if z=b' then _ else _)=_
  rw[if_neg (fun e=>?_),if_pos hz,h1]
  rcases jX with h|h
  ·exact h3 (by rw[←h1,e,h,m.rr])
  ·omega
 have r3:∀z,C' z→n7 z= .cell:=fun z hz=>by
  have hzl:=LD z hz
  by_cases dL:z<H.size
  ·rcases zE z hz with h|h
   ·exact r2 z _ (m.hC z h) nofun nofun
   ·omega
  ·rw[NN]
   show(if z=b' then _ else _)=_
   rw[if_neg (by omega),if_neg dL,if_pos hz]
 have r4:∀z,dG n7 z→dG ro z∨H.size≤z:=fun z hz=>by
  by_cases dL:z<H.size
  ·refine .inl fun h=>hz ?_
   rw[NN]
   show(if z=b' then _ else _)=_
   rw[if_neg (fun e=>?_),if_pos dL,h]
   rcases jX with h'|h'
   ·rw[e,h',m.rr]at h;cases h
   ·omega
  ·exact .inr (by omega)
 have r5:∀z,H2.size≤z→n7 z= .no:=fun z hz=>by
  have h2:=e2.size
  rw[NN]
  show(if z=b' then _ else _)=_
  rw[if_neg (by omega),if_neg (by omega),if_neg (fun h=>by have:=LD z h;omega)]
 have agK:∀v,(H2.wr B.n [ptr B.c,ptr B.fb,v]).size=H2.size:=fun v=>eo _ _ _
 have XL:∀z q,ro z=q→q≠ .Lu→z≠B.rp:=fun z q h1 h2 e=>h2 (by rw[←h1,e,m.rr])
 have JE:∀z q,ro z=q→q≠ .RI→z≠B.n:=fun z q h1 h2 e=>h2 (by rw[←h1,e,m.rn])
 have alU:b'≠B.n:=by rcases jX with h|h<;>omega
 refine .inr ⟨h1,rfl,dG n7,⟨⟨B.n,B.c,B.fb,B.tb,b'⟩,n7,C',l,V,ch,par,kb,cS++[.slice none 0 0],rows,(fun k=>if k< (cS.length:Int)then rb k else none),rfl,⟨⟨_,ai o2,?_⟩,fun g h0 hg=>?_,?_,?_,r3,r2 _ _ m.rn nofun nofun,r1,fun g b h0 hg hb=>?_,fun z hz=>r5 z (by rw[agK]at hz;exact hz)⟩,f,by rw[aoq,hl];simp[Nw.make],fun z=>Iff.rfl⟩,?_,fun z hz=>(r4 z hz).imp_left fun h=>(hS z).2 h⟩
 ·rw[aoq]
  exact s2.ext (e3 _) (fun b hb=>by injection hb with hb;omega)
 ·rw[aoq,aoz]at hg
  by_cases dk:g<cS.length
  ·obtain⟨sv,q1,q2⟩:=m.row g h0 dk
   refine⟨sv,by rw[aow (by omega)];exact q1,?_⟩
   rw[if_pos dk]
   exact((q2.ext e1 (fun b hb=>nc b _ (m.mJ g b h0 dk hb) nofun)).ext e2 (fun b hb=>XL b _ (m.mJ g b h0 dk hb) nofun)).ext (e3 _) (fun b hb=>JE b _ (m.mJ g b h0 dk hb) nofun)
  ·have OB:g=(cS.length:Int):=by omega
   have hre:rows g=[]:=by
    cases hc:rows g with
    |nil=>rfl
    |cons c r=>
     obtain⟨h5,_,h6,_⟩:=f.rm g c (by rw[hc];simp)
     have:=((m.cells.hm c).2 (by omega)).2
     omega
   refine⟨.slice none 0 0,by rw[OB,Int.toNat_natCast,aoJ (aou _)];simp,?_⟩
   rw[hre,if_neg dk]
   exact Sl.nil _ _
 ·exact(c1.ext e2 (fun z hz e=>by
   rcases zE z hz with h|h
   ·exact XL z _ (m.hC z h) nofun e
   ·omega)).ext (e3 _) (fun z hz e=>by
   rcases zE z hz with h|h
   ·exact JE z _ (m.hC z h) nofun e
   ·omega)
 ·have XM:∀z,(ro z= .FM∨KB ro z)→(¬C z∧z≠B.rp)∧z≠B.n:=fun z hz=>by
   rcases hz with h|h| ⟨x,h⟩<;>exact⟨⟨nc z _ h nofun,XL z _ h nofun⟩,JE z _ h nofun⟩
  have f1:=((m.fo.ext e1 (fun z hz=>(XM z hz).1.1)).ext e2 (fun z hz=>(XM z hz).1.2)).ext (e3 (.slice wa (cS.length+1) wc)) (fun z hz=>(XM z hz).2)
  exact⟨f1.t,f1.kd,r2 _ _ f1.rf nofun nofun,r2 _ _ f1.rt nofun nofun,fun x b h0 h1 hb=>r2 _ _ (f1.rk x b h0 h1 hb) nofun nofun,f1.GU,f1.no⟩
 ·rw[aoq,aoz]at hg
  by_cases dk:g<cS.length
  ·rw[if_pos dk]at hb
   exact r2 _ _ (m.mJ g b h0 dk hb) nofun nofun
  ·rw[if_neg dk]at hb
   cases hb
 ·refine(((e1.mono fun z _ h=>?_).trans (e2.mono fun z _ h=>?_)).trans ((e3 _).mono fun z _ h=>?_):ag S H _)
  ·exact(hS z).2 (fk (m.hC z h) nofun)
  ·exact(hS z).2 (by rw[h];exact fk m.rr nofun)
  ·exact(hS z).2 (by rw[h];exact fk m.rn nofun)
theorem Sx(n:Nat):yg (.iface 198 (ptr n)) (gE n) where
 slt h:=h.slt
 ext h e hd:=h.ext e hd
 cells:=by
  rintro H S w ⟨B,ro,C,l,V,ch,par,kb,cS,rows,rb,rfl,m,f,hl,hS⟩
  exact⟨B.c,C,m.cells⟩
 has:=by
  rintro H S w g ⟨B,ro,C,l,V,ch,par,kb,cS,rows,rb,rfl,m,f,hl,hS⟩
  obtain⟨tv,ho,_⟩:=m.own
  exact⟨_,_,bE,ptr B.c,rfl,fU (off:=0) (by kernel_rfl) (ae ho) rfl,(iG m.cells g).mono fun v H' hp=>hp⟩
 make:=by
  intro H S w h
  exact⟨_,_,kI,ptr n,rfl,bD (by kernel_rfl),(Ik h).mono fun v H' hp=>hp⟩
 insert:=by
  intro H S w g x k s h
  exact⟨_,_,iY,ptr n,rfl,bD (by kernel_rfl),(EE h g x k s).mono fun v H' hp=>hp⟩
 min:=by
  intro H S w g h
  refine⟨_,_,lT,ptr n,rfl,bD (by kernel_rfl),(BG h g).mono ?_⟩
  rintro v H' (⟨h1,rfl,h2,h3⟩| ⟨x,h1,rfl,h2,h3⟩)
  ·exact .inl ⟨h1,rfl,cB.same h2 h3⟩
  ·exact .inr ⟨x,h1,rfl,cB.same h2 h3⟩
 extract:=by
  intro H S w g h
  exact⟨_,_,it,ptr n,rfl,bD (by kernel_rfl),(De h g).mono fun v H' hp=>hp⟩
 ld:=by
  intro H S w x k s h
  exact⟨_,_,gM,ptr n,rfl,bD (by kernel_rfl),(BI h x k s).mono fun v H' hp=>hp⟩
 entry:=by
  rintro H S w x ⟨B,ro,C,l,V,ch,par,kb,cS,rows,rb,rfl,m,f,hl,hS⟩
  obtain⟨tv,ho,_⟩:=m.own
  refine⟨_,_,bh,ptr B.c,rfl,fU (off:=0) (by kernel_rfl) (ae ho) rfl,(gP m.cells x).mono ?_⟩
  rintro v H' ⟨c1,f1,hv⟩
  exact⟨⟨B,ro,C,l,V,ch,par,kb,cS,rows,rb,rfl,m.fresh f1,f,hl,hS⟩,f1,hv⟩
theorem zP(n:Nat)(H:Hp):af Tryz.prog pK [ptr n,i64 0] H fun v H'=>aw (v= .tuple [.iface 198 (ptr n),i64 0].toArray∧H'=H):=by
 refine bq pV ?_
 refine v1 aoY ?_
 exact⟨rfl,rfl⟩
theorem BJ(n:Nat)(H:Hp):af Tryz.prog qR [ptr n,i64 0] H fun v H'=>aw (v= .tuple [.iface 202 (ptr n),i64 0].toArray∧H'=H):=by
 refine bq ry ?_
 refine v1 aoY ?_
 exact⟨rfl,rfl⟩
theorem BK(n:Nat)(H:Hp):af Tryz.prog qS [ptr n,i64 0] H fun v H'=>aw (v= .tuple [.iface 210 (ptr n),i64 0].toArray∧H'=H):=by
 refine bq rz ?_
 refine v1 aoY ?_
 exact⟨rfl,rfl⟩
theorem Gi(n:Nat)(H:Hp):af Tryz.prog we [ptr n,i64 0] H fun v H'=>aw (v= .tuple [.iface 214 (ptr n),i64 0].toArray∧H'=H):=by
 refine bq wN ?_
 refine v1 aoY ?_
 exact⟨rfl,rfl⟩
theorem Gj(n:Nat)(H:Hp):af Tryz.prog wg [ptr n,i64 0] H fun v H'=>aw (v= .tuple [.iface 218 (ptr n),i64 0].toArray∧H'=H):=by
 refine bq wO ?_
 refine v1 aoY ?_
 exact⟨rfl,rfl⟩
theorem JY{kd dd cap:Int}(hf:gD kd dd)(hc:0≤cap∧cap≤65536)(H:Hp):af Tryz.prog Iz [Nq kd dd,i64 cap] H fun v H'=>aw (∃t vv I Sn,v= .tuple [.iface t vv,i64 0].toArray∧yg (.iface t vv) I∧I H' Sn (zD cap)∧ah H H'∧∀z,Sn z→H.size≤z):=by
 refine bq Pu ?_
 refine vs ?_
 have f0:ah H (H.new 23 [i64 kd,i64 dd]):=(ag.refl _ _).new _ _
 have o0:(H.new 23 [i64 kd,i64 dd]).own H.size=some [i64 kd,i64 dd]:=az _ _ _
 have z0:(H.new 23 [i64 kd,i64 dd]).size=H.size+1:=ap _ _ _
 generalize H.new 23 [i64 kd,i64 dd]=H0 at*
 obtain rfl|rfl|rfl|rfl|rfl|rfl|rfl|rfl:kd=1∨kd=2∨kd=3∨kd=4∨kd=5∨kd=6∨kd=7∨kd=8:=by have:=hf.1;omega
 ·refine am.cQ (by decide) ?_
  refine v1 (ae o0) ?_
  refine am.cQ (by decide) ?_
  refine v1 (ae o0) ?_
  refine(ou hf (by decide) H0).mono ?_
  rintro _ H1 ⟨rfl,f1⟩
  refine vs ?_
  refine(yk cap _ H1).mono ?_
  rintro _ H2 ⟨f2,⟨hb,rfl⟩| ⟨_,hd,rfl⟩| ⟨_,hd,n,Sn,rfl,h2,NO⟩⟩
  ·exact absurd hc hb
  ·refine absurd ?_ hd
   obtain⟨_,h|h⟩:=hf
   ·first|exact⟨h.2.1,h.2.2⟩|exact absurd h.1 (by decide)
   ·first|exact⟨by decide,by decide⟩|exact absurd rfl h.1
  ·refine vs ?_
   refine(uT n H2).mono ?_
   rintro _ _ ⟨rfl,rfl⟩
   have z1:=f1.size
   refine vs ?_
   exact⟨_,_,_,Sn,rfl,F2 n _,⟨0,h2⟩,(f0.trans f1).trans f2,fun z hz=>by have:=NO z hz;omega⟩
 ·refine am.aX (by decide) ?_
  refine vs ?_
  refine am.cQ (by decide) ?_
  refine v1 (ae o0) ?_
  refine(ou hf (by decide) H0).mono ?_
  rintro _ H1 ⟨rfl,f1⟩
  refine vs ?_
  refine(yk cap _ H1).mono ?_
  rintro _ H2 ⟨f2,⟨hb,rfl⟩| ⟨_,hd,rfl⟩| ⟨_,hd,n,Sn,rfl,h2,NO⟩⟩
  ·exact absurd hc hb
  ·refine absurd ?_ hd
   obtain⟨_,h|h⟩:=hf
   ·first|exact⟨h.2.1,h.2.2⟩|exact absurd h.1 (by decide)
   ·first|exact⟨by decide,by decide⟩|exact absurd rfl h.1
  ·refine vs ?_
   refine(uT n H2).mono ?_
   rintro _ _ ⟨rfl,rfl⟩
   have z1:=f1.size
   refine vs ?_
   exact⟨_,_,_,Sn,rfl,F2 n _,⟨0,h2⟩,(f0.trans f1).trans f2,fun z hz=>by have:=NO z hz;omega⟩
 ·refine am.aX (by decide) ?_
  refine vs ?_
  refine am.aX (by decide) ?_
  refine vs ?_
  refine am.cQ (by decide) ?_
  refine vs ?_
  refine(JX cap H0).mono ?_
  rintro _ H2 ⟨f2,⟨hb,rfl⟩| ⟨_,n,Sn,rfl,h2,NO⟩⟩
  ·exact absurd hc hb
  ·refine vs ?_
   refine(zP n H2).mono ?_
   rintro _ _ ⟨rfl,rfl⟩
   refine vs ?_
   exact⟨_,_,_,Sn,rfl,Sx n,h2,f0.trans f2,fun z hz=>by have:=NO z hz;omega⟩
 ·refine am.aX (by decide) ?_
  refine vs ?_
  refine am.aX (by decide) ?_
  refine vs ?_
  refine am.aX (by decide) ?_
  refine vs ?_
  refine am.cQ (by decide) ?_
  refine vs ?_
  refine(C8 cap H0).mono ?_
  rintro _ H2 ⟨f2,⟨hb,rfl⟩| ⟨_,n,Sn,rfl,h2,NO⟩⟩
  ·exact absurd hc hb
  ·refine vs ?_
   refine(BJ n H2).mono ?_
   rintro _ _ ⟨rfl,rfl⟩
   refine vs ?_
   exact⟨_,_,_,Sn,rfl,JR n,h2,f0.trans f2,fun z hz=>by have:=NO z hz;omega⟩
 ·refine am.aX (by decide) ?_
  refine vs ?_
  refine am.aX (by decide) ?_
  refine vs ?_
  refine am.aX (by decide) ?_
  refine vs ?_
  refine am.aX (by decide) ?_
  refine vs ?_
  refine am.cQ (by decide) ?_
  refine vs ?_
  refine(JM cap H0).mono ?_
  rintro _ H2 ⟨f2,⟨hb,rfl⟩| ⟨_,n,Sn,rfl,h2,NO⟩⟩
  ·exact absurd hc hb
  ·refine vs ?_
   refine(xB n H2).mono ?_
   rintro _ _ ⟨rfl,rfl⟩
   refine vs ?_
   exact⟨_,_,_,Sn,rfl,R9 n,h2,f0.trans f2,fun z hz=>by have:=NO z hz;omega⟩
 ·refine am.aX (by decide) ?_
  refine vs ?_
  refine am.aX (by decide) ?_
  refine vs ?_
  refine am.aX (by decide) ?_
  refine vs ?_
  refine am.aX (by decide) ?_
  refine vs ?_
  refine am.aX (by decide) ?_
  refine vs ?_
  refine am.cQ (by decide) ?_
  refine vs ?_
  refine(CU cap H0).mono ?_
  rintro _ H2 ⟨f2,⟨hb,rfl⟩| ⟨_,n,Sn,rfl,h2,NO⟩⟩
  ·exact absurd hc hb
  ·refine vs ?_
   refine(BK n H2).mono ?_
   rintro _ _ ⟨rfl,rfl⟩
   refine vs ?_
   exact⟨_,_,_,Sn,rfl,JF n,h2,f0.trans f2,fun z hz=>by have:=NO z hz;omega⟩
 ·refine am.aX (by decide) ?_
  refine vs ?_
  refine am.aX (by decide) ?_
  refine vs ?_
  refine am.aX (by decide) ?_
  refine vs ?_
  refine am.aX (by decide) ?_
  refine vs ?_
  refine am.aX (by decide) ?_
  refine vs ?_
  refine am.aX (by decide) ?_
  refine vs ?_
  refine am.cQ (by decide) ?_
  refine vs ?_
  refine(Ie cap H0).mono ?_
  rintro _ H2 ⟨f2,⟨hb,rfl⟩| ⟨_,n,Sn,rfl,h2,NO⟩⟩
  ·exact absurd hc hb
  ·refine vs ?_
   refine(Gi n H2).mono ?_
   rintro _ _ ⟨rfl,rfl⟩
   refine vs ?_
   exact⟨_,_,_,Sn,rfl,Qf n,h2,f0.trans f2,fun z hz=>by have:=NO z hz;omega⟩
 ·refine am.aX (by decide) ?_
  refine vs ?_
  refine am.aX (by decide) ?_
  refine vs ?_
  refine am.aX (by decide) ?_
  refine vs ?_
  refine am.aX (by decide) ?_
  refine vs ?_
  refine am.aX (by decide) ?_
  refine vs ?_
  refine am.aX (by decide) ?_
  refine vs ?_
  refine am.aX (by decide) ?_
  refine vs ?_
  refine(HW cap H0).mono ?_
  rintro _ H2 ⟨f2,⟨hb,rfl⟩| ⟨_,n,Sn,rfl,h2,NO⟩⟩
  ·exact absurd hc hb
  ·refine vs ?_
   refine(Gj n H2).mono ?_
   rintro _ _ ⟨rfl,rfl⟩
   refine vs ?_
   exact⟨_,_,_,Sn,rfl,Nz n,⟨0,h2⟩,f0.trans f2,fun z hz=>by have:=NO z hz;omega⟩
theorem LV{kd dd:Int}(hf:gD kd dd):Sa kd dd:=fun _ hc H=>JY hf hc H
theorem EG{H:Hp}{a:Option Addr}{c:Nat}{xs:List Int}(h:cO H 1 (.slice a xs.length c) xs.length (xs.map i64))(p q:Int)(hl:xs.length≤1000000000):
  af Tryz.prog Jj [.slice a xs.length c,i64 p,i64 q] H fun v H'=>aw (ah H H'∧∃b,H.size≤b∧Sl H' 1 v xs.length ((xs.map fun x=>if x=q then p else x).map i64) (some b)):=by
 refine bq Jq ?_
 refine vs ?_
 have s0:Sl (H.new 3 []) 1 (.slice (some ⟨H.size,0,none⟩) 0 0) (([]:List Int)).length (([]:List Int).map i64) (some H.size):=Sl.bU (size:=1) (n:=0) (xs:=[]) rfl rfl
 have f0:ah H (H.new 3 []):=(ag.refl _ _).new _ _
 generalize H.new 3 []=H0 at*
 refine aW.intro (fun m env H'=>ah H H'∧∃ (j:Nat) (w:Value) (b:Nat),m=xs.length - j∧j≤xs.length∧H.size≤b∧Sl H' 1 w ((xs.take j).map fun x=>if x=q then p else x).length (((xs.take j).map fun x=>if x=q then p else x).map i64) (some b)∧
  env=[(1,i64 p),(2,i64 q),(7,w),(11,.slice a xs.length c),(12,i64 xs.length),(13,i64 j)]) xs.length ⟨f0,0,_,H.size,by omega,by omega,by omega,s0,rfl⟩ ?_
 rintro m env H1 ⟨f1,j,w,b,hm,hj,hb,s1,rfl⟩
 have h1:=h.fresh f1
 refine vs ?_
 refine am.dec (fun aO=>?_) (fun aO=>?_)<;>refine vs ?_
 ·obtain⟨x,hx⟩:∃x,xs[j]? =some x:=⟨_,aog (by omega)⟩
  obtain⟨_,bx,o,lb,rfl,eW,bX⟩:=cO.num h1 hx
  refine⟨⟨by omega,by omega⟩,?_⟩
  refine v4 eW Int.toNat_natCast aok bX ?_
  have LQ:(xs.take (j+1)).map (fun x=>if x=q then p else x)=(xs.take j).map (fun x=>if x=q then p else x)++[if x=q then p else x]:=by rw[aoS,hx,aoM];rfl
  refine am.dec (fun hq=>?_) (fun hq=>?_)<;>refine vs ?_
  ·rw[if_pos hq]at LQ
   refine ID (B:=H.size) hb (f1.size) s1 _ (by simp;omega) ?_
   intro w' H' b' jX s' e'
   refine vs ?_
   rw[wrap64 (n:=(j:Int)+1) (by omega) (by omega)]
   exact⟨xs.length - (j+1),by omega,f1.then e' (fun z hz=>hz),j+1,w',b',rfl,by omega,jX,by rw[LQ];exact s',rfl⟩
  ·rw[if_neg hq]at LQ
   refine ID (B:=H.size) hb (f1.size) s1 _ (by simp;omega) ?_
   intro w' H' b' jX s' e'
   refine vs ?_
   rw[wrap64 (n:=(j:Int)+1) (by omega) (by omega)]
   exact⟨xs.length - (j+1),by omega,f1.then e' (fun z hz=>hz),j+1,w',b',rfl,by omega,jX,by rw[LQ];exact s',rfl⟩
 ·have fS:j=xs.length:=by omega
  subst fS
  rw[aoO,aoE]at s1
  exact⟨f1,b,hb,s1⟩
theorem gu{H:Hp}{n:Int}{a a':Option Addr}{c c':Nat}{es:List Ed}{ks:List Int}(h:cO H 3 (.slice a es.length c) es.length (dW es))(h':cO H 1 (.slice a' ks.length c') ks.length (ks.map i64))
  (hr:fj n es)(hk:∀i∈ks,LN es i)(hl:ks.length≤1000000000):
  af Tryz.prog G5 [zJ n (.slice a es.length c),.slice a' ks.length c'] H fun v H'=>aw (ah H H'∧∃b,H.size≤b∧Sl H' 1 v n.toNat ((ee n.toNat (ks.map (fE es))).map i64) (some b)):=by
 refine bq Hn ?_
 have f0:ah H (H.new 52 [i64 n,.slice a es.length c]):=(ag.refl _ _).new _ _
 have b0:=az H 52 [i64 n,.slice a es.length c]
 have DC:(H.new 52 [i64 n,.slice a es.length c]).size=H.size+1:=by rw[ap]
 simp(disch:=(first|omega| (simp only[Zs]<;>omega)|fail)) only[go_sem, ↓reduceIte,Zv,zJ]
 generalize H.new 52 [i64 n,.slice a es.length c]=H0 at*
 have fo:ah H0 (H0.new 3 []):=(ag.refl _ _).new _ _
 have s0:Sl (H0.new 3 []) 1 (.slice (some ⟨H.size+1,0,none⟩) 0 0) (allI 0).length ((allI 0).map i64) (some (H.size+1)):=Sl.bU (size:=1) (n:=0) (xs:=[]) rfl DC.symm
 have b1:=fo.own b0 (fun h=>h)
 generalize H0.new 3 []=H1 at*
 have Lm:=hr.n0
 have vV:=hr.n1
 refine aW.intro (fun m env H'=>ah H H'∧H'.own H.size=some [i64 n,.slice a es.length c]∧∃ (j:Nat) (w:Value) (b:Nat),m=n.toNat - j∧j≤n.toNat∧H.size+1≤b∧Sl H' 1 w (allI j).length ((allI j).map i64) (some b)∧
  env=[(1,.slice a' ks.length c'),(2,ptr H.size),(5,w),(6,i64 j)]) n.toNat ⟨f0.trans fo,b1,0,_,H.size+1,by omega,by omega,by omega,s0,rfl⟩ ?_
 clear s0 b1 fo b0 f0
 rintro m env H2 ⟨f2,b2,j,w,b,hm,hj,hb,s2,rfl⟩
 have dL:=aB b2
 refine v1 (ae b2) ?_
 refine am.dec (fun aO=>?_) (fun aO=>?_)<;>refine vs ?_
 ·refine ID (B:=H.size+1) hb (by omega) s2 _ (by rw[uV];omega) ?_
  intro w' H' b' jX s' e'
  rw[←vJ]at s'
  refine vs ?_
  rw[wrap64 (n:=(j:Int)+1) (by omega) (by omega)]
  exact⟨n.toNat - (j+1),by omega,f2.then e' (fun z hz=>by omega),e'.own b2 (fun h=>by omega),j+1,w',b',rfl,by omega,jX,s',rfl⟩
 ·have fS:j=n.toNat:=by omega
  subst fS
  rw[←Qa]at s2
  clear hj aO hm
  refine aW.intro (fun m env H'=>ah H H'∧H'.own H.size=some [i64 n,.slice a es.length c]∧∃ (k:Nat) (w:Value) (b:Nat),m=ks.length - k∧k≤ks.length∧H.size+1≤b∧Sl H' 1 w (ee n.toNat ((ks.take k).map (fE es))).length ((ee n.toNat ((ks.take k).map (fE es))).map i64) (some b)∧
   env=[(2,ptr H.size),(5,w),(22,.slice a' ks.length c'),(23,i64 ks.length),(24,i64 k)]) ks.length ⟨f2,b2,0,w,b,by omega,by omega,hb,s2,rfl⟩ ?_
  clear s2 b2 f2 hb dL
  rintro m env H3 ⟨f3,b3,k,w,b,hm,Uc,hb,s3,rfl⟩
  have MG:=aB b3
  have h3:=h.fresh f3
  have MJ:=h'.fresh f3
  refine vs ?_
  refine am.dec (fun aO=>?_) (fun aO=>?_)<;>refine vs ?_
  ·obtain⟨i,hi⟩:∃x,ks[k]? =some x:=⟨_,aog (by omega)⟩
   obtain⟨_,bx,o,lb,rfl,eW,bX⟩:=cO.num MJ hi
   obtain⟨ik,e,rfl,he,hik⟩:=(hk i (aom hi)).get
   obtain⟨ef0,ef1,et0,et1⟩:=hr.ends e (aom he)
   obtain⟨_,be,oe,le,rfl,XN,nS,eG,kD,vB,sB⟩:=cO.oU h3 he
   obtain⟨wa,wc,rfl,_⟩:=cJ s3
   obtain⟨_,rfl,lw,Tv,ZA⟩:=Sl.num s3 (iJ ((ks.take k).map (fE es)) (v:=e.f.toNat) (by omega))
   obtain⟨_,_,lw',JZ,ED⟩:=Sl.num s3 (iJ ((ks.take k).map (fE es)) (v:=e.t.toNat) (by omega))
   rw[Tv]at JZ
   injection JZ with JZ
   subst JZ
   have OU:=qz n.toNat ((ks.take k).map (fE es))
   have LQ:ee n.toNat ((ks.take (k+1)).map (fE es))=(ee n.toNat ((ks.take k).map (fE es))).map fun x=>if x=((max (aD ((ks.take k).map (fE es)) e.f.toNat) (aD ((ks.take k).map (fE es)) e.t.toNat):Nat):Int)then((min (aD ((ks.take k).map (fE es)) e.f.toNat) (aD ((ks.take k).map (fE es)) e.t.toNat):Nat):Int)else x:=by
    have:=NG n.toNat ((ks.take k).map (fE es)) (fE es ik)
    rw[Bz he]at this
    rw[←this,aoS,hi,aoM]
    congr 2
    simp[Bz he]
   refine⟨⟨by omega,by omega⟩,?_⟩
   refine v5 eW Int.toNat_natCast aok bX (ae b3) ?_
   refine⟨⟨by omega,by omega⟩,?_⟩
   refine v4 XN Int.toNat_natCast Nat.add_zero kD ?_
   refine⟨⟨by omega,by omega⟩,?_⟩
   refine v5 (ae Tv) aok aoh ZA (ae b3) ?_
   refine⟨⟨by omega,by omega⟩,?_⟩
   refine v3 XN Int.toNat_natCast vB ?_
   refine⟨⟨by omega,by omega⟩,?_⟩
   refine v4 (ae Tv) aok aoh ED ?_
   generalize aD ((ks.take k).map (fE es)) e.f.toNat=pf at*
   generalize aD ((ks.take k).map (fE es)) e.t.toNat=pt at*
   have agL:(if(pt:Int)< (pf:Int)then(pt:Int)else(pf:Int))=((min pf pt:Nat):Int):=by split<;>omega
   have agM:(if(pt:Int)> (pf:Int)then(pt:Int)else(pf:Int))=((max pf pt:Nat):Int):=by split<;>omega
   rw[agL,agM]
   refine(EG s3.rd _ _ (by omega)).mono ?_
   rintro u H4 ⟨f4,b',jX,s4⟩
   rw[←LQ]at s4
   refine vs ?_
   rw[wrap64 (n:=(k:Int)+1) (by omega) (by omega)]
   exact⟨ks.length - (k+1),by omega,f3.trans f4,f4.own b3 (fun h=>h),k+1,u,b',rfl,by omega,by omega,by rw[qz];rw[OU]at s4;exact s4,rfl⟩
  ·have zZ:k=ks.length:=by omega
   subst zZ
   rw[aoO,qz]at s3
   exact⟨f3,b,by omega,s3⟩
def zQ(n:Int):Nat:=(n%18446744073709551616).toNat
theorem Sy(n:Int):IntKind.u64.wrap n=(zQ n:Int):=by
 have e:(2^IntKind.u64.bits:Int)=18446744073709551616:=rfl
 unfold IntKind.wrap zQ
 simp only[e,IntKind.signed,ap0]
 rw[if_neg (by simp)];omega
theorem Ux(n:Int):zQ n<18446744073709551616:=by unfold zQ;omega
def Il(s:Int×Nat)(n:Int):Int×Nat:=
 (IntKind.i64.wrap (s.1+(if n<0 then -1 else 0)+((s.2+zQ n) / 18446744073709551616:Nat)),(s.2+zQ n)%18446744073709551616)
def Df(l:List Int):Int×Nat:=l.foldl Il (0,0)
def Im(s:Int×Nat):Value:=.agg [i64 s.1,u64 s.2].toArray
theorem Qm(l:List Int)(x:Int):Df (l++[x])=Il (Df l) x:=by
 unfold Df
 rw[List.foldl_append]
 rfl
theorem abM(x:Nat):Int.tmod (x:Int) 4294967296=((x%4294967296:Nat):Int):=rfl
theorem abN(x:Nat):Int.tdiv (x:Int) 4294967296=((x / 4294967296:Nat):Int):=rfl
theorem J0{a b:Nat}(h:a+b<18446744073709551616):IntKind.u64.wrap ((a:Int)+(b:Int))=((a+b:Nat):Int):=by rw[rY (by omega) (by omega)];rfl
theorem Gk(x:Int):IntKind.i64.wrap (IntKind.u64.wrap x)=IntKind.i64.wrap x:=by
 have e:(2^IntKind.i64.bits:Int)=18446744073709551616:=rfl
 have e2:(2^IntKind.u64.bits:Int)=18446744073709551616:=rfl
 have e':(2^ (IntKind.i64.bits - 1):Int)=9223372036854775808:=rfl
 unfold IntKind.wrap
 simp only[e,e',e2,IntKind.signed,apy,ap0,aoK]
 rw[if_neg (by simp:¬ (false=true))]
 split<;>split<;>omega
theorem vM(a b:Int):IntKind.u64.wrap (IntKind.u64.wrap a+b)=IntKind.u64.wrap (a+b):=by
 have e2:(2^IntKind.u64.bits:Int)=18446744073709551616:=rfl
 unfold IntKind.wrap
 simp only[e2,IntKind.signed,ap0]
 rw[if_neg (by simp:¬ (false=true)),if_neg (by simp:¬ (false=true)),if_neg (by simp:¬ (false=true))]
 omega
theorem IS{a b:Int}(h:a%18446744073709551616=b%18446744073709551616):IntKind.i64.wrap a=IntKind.i64.wrap b:=by
 have e:(2^IntKind.i64.bits:Int)=18446744073709551616:=rfl
 unfold IntKind.wrap
 simp only[e,h]
theorem Gl(H:Hp)(s:Int×Nat)(n:Int)(h0: -9223372036854775808≤n)(h1:n≤9223372036854775807)(hs0: -9223372036854775808≤s.1)(eK:s.1≤9223372036854775807)(Kj:s.2<18446744073709551616):
  af Tryz.prog KO [Im s,i64 n] H fun v H'=>aw (v=Im (Il s n)∧ah H H'):=by
 refine bq KW ?_
 simp(disch:=(first|omega| (simp only[Zs]<;>omega)|fail)) only[go_sem, ↓reduceIte,Zv,Im]
 have f0:ah H ((H.new 39 [i64 s.1,u64 s.2]).new 39 [i64 0,u64 0]):=((ag.refl _ _).new _ _).new _ _
 have b0:((H.new 39 [i64 s.1,u64 s.2]).new 39 [i64 0,u64 0]).own H.size=some [i64 s.1,u64 s.2]:=ag.own (((ag.refl (fun _=>False) _).new _ _):ah (H.new 39 [i64 s.1,u64 s.2]) _) (az _ _ _) (fun h=>h)
 have d0:((H.new 39 [i64 s.1,u64 s.2]).new 39 [i64 0,u64 0]).own (H.size+1)=some [i64 0,u64 0]:=aT (by simp only[ap])
 generalize (H.new 39 [i64 s.1,u64 s.2]).new 39 [i64 0,u64 0]=H0 at*
 have hl:=Ux n
 have z:¬ ((4294967296:Int)=0):=by omega
 have wn:=Sy n
 obtain⟨lo,Jw⟩:∃lo:Nat,s.2%4294967296+zQ n%4294967296=lo:=⟨_,rfl⟩
 obtain⟨h3,hh3⟩:∃h3:Nat,s.2 / 4294967296+zQ n / 4294967296=h3:=⟨_,rfl⟩
 obtain⟨hi,Uy⟩:∃hi:Nat,h3+lo / 4294967296=hi:=⟨_,rfl⟩
 have w1:IntKind.u64.wrap (((s.2%4294967296:Nat):Int)+((zQ n%4294967296:Nat):Int))=(lo:Int):=by rw[J0 (by omega),Jw]
 have w3:IntKind.u64.wrap (((s.2 / 4294967296:Nat):Int)+((zQ n / 4294967296:Nat):Int))=(h3:Int):=by rw[J0 (by omega),hh3]
 have w5:IntKind.u64.wrap ((h3:Int)+((lo / 4294967296:Nat):Int))=(hi:Int):=by rw[J0 (by omega),Uy]
 have Zx:(s.2+zQ n) / 18446744073709551616=hi / 4294967296:=by omega
 have Vx:(s.2+zQ n)%18446744073709551616=hi%4294967296*4294967296+lo%4294967296:=by omega
 have w6:IntKind.u64.wrap (((hi%4294967296:Nat):Int)*4294967296)=((hi%4294967296*4294967296:Nat):Int):=by rw[rY (by omega) (by omega)];rfl
 have w7:IntKind.u64.wrap (((hi%4294967296*4294967296:Nat):Int)+((lo%4294967296:Nat):Int))=((hi%4294967296*4294967296+lo%4294967296:Nat):Int):=J0 (by omega)
 have q1:IntKind.u64.wrap ((s.2 / 4294967296:Nat):Int)=((s.2 / 4294967296:Nat):Int):=rY (by omega) (by omega)
 have q2:IntKind.u64.wrap ((zQ n / 4294967296:Nat):Int)=((zQ n / 4294967296:Nat):Int):=rY (by omega) (by omega)
 have q3:IntKind.u64.wrap ((lo / 4294967296:Nat):Int)=((lo / 4294967296:Nat):Int):=rY (by omega) (by omega)
 have q4:IntKind.u64.wrap ((hi / 4294967296:Nat):Int)=((hi / 4294967296:Nat):Int):=rY (by omega) (by omega)
 have ea:Il s n=(IntKind.i64.wrap (s.1+(if n<0 then -1 else 0)+((hi / 4294967296:Nat):Int)),hi%4294967296*4294967296+lo%4294967296):=by rw[←Zx,←Vx];rfl
 rw[ea]
 clear ea Zx Vx
 have fin:∀v:Value,ah H (H0.wr (H.size+1) [v,u64 ((hi%4294967296*4294967296+lo%4294967296:Nat):Int)]):=fun v=>f0.then ((ag.refl (fun z=>z=H.size+1) _).wr (fun _=>rfl) _) (fun z hz=>by omega)
 refine am.dec (fun hn=>?_) (fun hn=>?_)<;>simp(disch:=(first|omega| (simp only[Zs]<;>omega)|fail)) only[go_sem, ↓reduceIte,Zv,ae b0,wn,if_neg z,abM,abN,w1,w3,w5,w6,w7,d0,q1,q2,q3,q4]
 ·have e9:IntKind.i64.wrap (IntKind.u64.wrap (IntKind.u64.wrap (IntKind.u64.wrap s.1+18446744073709551615)+((hi / 4294967296:Nat):Int)))=IntKind.i64.wrap (s.1+(if n<0 then -1 else 0)+((hi / 4294967296:Nat):Int)):=by
   rw[vM,Int.add_assoc,vM,Gk,if_pos hn]
   exact IS (by omega)
  refine v1 e9 ?_
  have d1:=ai (l:=[i64 (IntKind.i64.wrap (s.1+(if n<0 then -1 else 0)+((hi / 4294967296:Nat):Int))),u64 ((hi%4294967296*4294967296+lo%4294967296:Nat):Int)]) d0
  refine v1 (ae d1) ?_
  exact⟨rfl,fin _⟩
 ·have e9:IntKind.i64.wrap (IntKind.u64.wrap (IntKind.u64.wrap (IntKind.u64.wrap s.1+0)+((hi / 4294967296:Nat):Int)))=IntKind.i64.wrap (s.1+(if n<0 then -1 else 0)+((hi / 4294967296:Nat):Int)):=by
   rw[vM,Int.add_assoc,vM,Gk,if_neg hn]
   exact IS (by omega)
  refine v1 e9 ?_
  have d1:=ai (l:=[i64 (IntKind.i64.wrap (s.1+(if n<0 then -1 else 0)+((hi / 4294967296:Nat):Int))),u64 ((hi%4294967296*4294967296+lo%4294967296:Nat):Int)]) d0
  refine v1 (ae d1) ?_
  exact⟨rfl,fin _⟩
theorem Gm(x:Int): -9223372036854775808≤IntKind.i64.wrap x∧IntKind.i64.wrap x≤9223372036854775807:=by
 have e:(2^IntKind.i64.bits:Int)=18446744073709551616:=rfl
 have e':(2^ (IntKind.i64.bits - 1):Int)=9223372036854775808:=rfl
 unfold IntKind.wrap
 simp only[e,e',IntKind.signed,apy,aoK]
 split<;>omega
def InS(s:Int×Nat):Prop:= -9223372036854775808≤s.1∧s.1≤9223372036854775807∧s.2<18446744073709551616
theorem Uz(s:Int×Nat)(n:Int):InS (Il s n):=⟨(Gm _).1,(Gm _).2,Nat.mod_lt _ (by omega)⟩
theorem Sz(l:List Int):∀s,InS s→InS (l.foldl Il s):=by
 induction l with
 |nil=>exact fun _ h=>h
 |cons x l ih=>exact fun s h=>ih _ (Uz s x)
theorem UA(l:List Int):InS (Df l):=Sz l _ ⟨by decide,by decide,by decide⟩
theorem Dg{H:Hp}{a:Option Addr}{n c:Nat}{l:List Int}(h:cO H 1 (.slice a n c) n (l.map i64))(hn:n≤1000000)(hl:∀x∈l, -9223372036854775808≤x∧x≤9223372036854775807):
  af Tryz.prog G7 [.slice a n c] H fun v H'=>aw (v=Im (Df l)∧ah H H'):=by
 have aZ:l.length=n:=by have:=h.1;simpa using this
 refine bq Hq ?_
 have f0:ah H ((H.new 39 [i64 0,u64 0]).new 39 [i64 0,u64 0]):=((ag.refl _ _).new _ _).new _ _
 have b0:((H.new 39 [i64 0,u64 0]).new 39 [i64 0,u64 0]).own H.size=some [i64 0,u64 0]:=ag.own (((ag.refl (fun _=>False) _).new _ _):ah (H.new 39 [i64 0,u64 0]) _) (az _ _ _) (fun h=>h)
 have d0:((H.new 39 [i64 0,u64 0]).new 39 [i64 0,u64 0]).own (H.size+1)=some [i64 0,u64 0]:=aT (by simp only[ap])
 refine v1 d0 ?_
 have f0':ah H (((H.new 39 [i64 0,u64 0]).new 39 [i64 0,u64 0]).wr (H.size+1) [i64 0,u64 0]):=f0.then ((ag.refl (fun z=>z=H.size+1) _).wr (fun _=>rfl) _) (fun z hz=>by omega)
 have O5:(((H.new 39 [i64 0,u64 0]).new 39 [i64 0,u64 0]).wr (H.size+1) [i64 0,u64 0]).own H.size=some [i64 0,u64 0]:=by rw[jZ (by omega)];exact b0
 have d0':(((H.new 39 [i64 0,u64 0]).new 39 [i64 0,u64 0]).wr (H.size+1) [i64 0,u64 0]).own (H.size+1)=some [i64 0,u64 0]:=ai d0
 generalize ((H.new 39 [i64 0,u64 0]).new 39 [i64 0,u64 0]).wr (H.size+1) [i64 0,u64 0]=H0 at*
 clear f0 b0 d0
 refine aW.intro (fun m env H'=>ah H H'∧H'.own H.size=some [i64 0,u64 0]∧∃ (j:Nat),m=n - j∧j≤n∧H'.own (H.size+1)=some [i64 (Df (l.take j)).1,u64 (Df (l.take j)).2]∧
  env=[(2,ptr H.size),(3,ptr (H.size+1)),(7,.slice a n c),(8,i64 n),(9,i64 j)]) n ⟨f0',O5,0,by omega,by omega,d0',rfl⟩ ?_
 rintro m env H1 ⟨f1,b1,j,hm,hj,d1,rfl⟩
 have h1:=h.fresh f1
 refine vs ?_
 refine am.dec (fun aO=>?_) (fun aO=>?_)<;>refine vs ?_
 ·have fS:j<n:=by omega
  obtain⟨y,hy⟩:∃y,l[j]? =some y:=⟨_,aog (by omega)⟩
  obtain⟨b,o,c',lb,z6,eW,ZB,Dz⟩:=cO.get h1 (i:=j) (j:=0) (x:=i64 y) (by omega) (by rw[aok,Nat.add_zero,aoF,hy];rfl)
  injection z6 with z6 _ _
  subst z6
  obtain⟨WA,MP⟩:=hl y (aom hy)
  refine⟨⟨by omega,by omega⟩,?_⟩
  rw[Nat.add_zero,aok]at Dz
  refine v5 eW Int.toNat_natCast aok Dz (ae d1) ?_
  obtain⟨g1,g2,g3⟩:=UA (l.take j)
  refine(Gl H1 (Df (l.take j)) y WA MP g1 g2 g3).mono ?_
  rintro _ H2 ⟨rfl,f2⟩
  have d2:=f2.own d1 (fun h=>h)
  have b2:=f2.own b1 (fun h=>h)
  simp(disch:=(first|omega| (simp only[Zs]<;>omega)|fail)) only[go_sem, ↓reduceIte,Zv,d2,Im]
  rw[wrap64 (n:=(j:Int)+1) (by omega) (by omega)]
  have agN:Df (l.take (j+1))=Il (Df (l.take j)) y:=by
   rw[aoS,hy]
   exact Qm _ _
  refine⟨n - (j+1),by omega,(f1.trans f2).then ((ag.refl (fun z=>z=H.size+1) _).wr (fun _=>rfl) _) (fun z hz=>by omega),(by first|exact b2| (rw[jZ (by omega)];exact b2)),j+1,rfl,by omega,?_,rfl⟩
  rw[agN];exact ai d2
 ·have fS:j=n:=by omega
  subst fS
  rw[ap3 (by omega)]at d1
  have b2:=ai (l:=[i64 (Df l).1,u64 (Df l).2]) b1
  refine v3 (ae d1) b1 (ae b2) ?_
  exact⟨rfl,f1.then ((ag.refl (fun z=>z=H.size) _).wr (fun _=>rfl) _) (fun z hz=>by omega)⟩
def J1(S:Int):Int×Nat:=(S / 18446744073709551616,(S%18446744073709551616).toNat)
theorem SA{S n:Int}(h0: -9223372036854775808≤n)(h1:n≤9223372036854775807)(hS: -9223372036854775808*1000000000000≤S∧S≤9223372036854775808*1000000000000):Il (J1 S) n=J1 (S+n):=by
 unfold Il J1 zQ
 have hw:∀z:Int, -9223372036854775808≤z→z≤9223372036854775807→IntKind.i64.wrap z=z:=fun z=>wrap64
 simp only
 refine Prod.ext ?_ ?_
 ·simp only
  rw[hw _ (by split<;>omega) (by split<;>omega)]
  split<;>omega
 ·simp only
  omega
theorem Qn:∀ (l:List Int) (S:Int),(∀x∈l, -9223372036854775808≤x∧x≤9223372036854775807)→(-9223372036854775808*(1000000000000 - (l.length:Int))≤S∧S≤9223372036854775808*(1000000000000 - (l.length:Int)))→
  l.foldl Il (J1 S)=J1 (S+l.sum):=by
 intro l
 induction l with
 |nil=>intro S _ _;simp
 |cons x l ih=>
  intro S h hS
  obtain⟨h0,h1⟩:=h x (ao4 ..)
  rw[aoC]at hS
  rw[List.foldl_cons,SA h0 h1 (by omega),ih (S+x) (fun y hy=>h y (aoP _ hy)) (by omega),ap8,Int.add_assoc]
theorem SC{l:List Int}(h:∀x∈l, -9223372036854775808≤x∧x≤9223372036854775807)(hl:l.length≤1000000000):Df l=J1 l.sum:=by
 have:=Qn l 0 h (by omega)
 rw[Int.zero_add]at this
 exact this
theorem IT{n:Nat}:∀ks:List E2,(∀e∈ks,e.1<n∧e.2<n)→∀v,n≤v→aD ks v=v:=by
 refine kg (fun _ v _=>rfl) fun ks e ih hb v hv=>?_
 have h1:=ih fun x hx=>hb x (aox _ hx)
 obtain⟨h2,h3⟩:=hb e (by simp)
 rw[mQ]
 unfold Dp
 have:=iQ ks e.1
 have:=iQ ks e.2
 rw[h1 v hv,if_neg (by omega)]
theorem NP{n:Int}{es:List Ed}{ks:List Int}(hr:fj n es)(hk:∀i∈ks,LN es i)(ha:gF (ks.map (fE es))):
  jT n es ks↔∀v,v<n.toNat→aD (ks.map (fE es)) v=aD ((allI es.length).map (fE es)) v:=by
 constructor
 ·intro h v _
  rw[pI h.iff]
 ·intro h
  refine⟨hk,ha,fun u v=>?_⟩
  have Ll:∀e∈ks.map (fE es),e.1<n.toNat∧e.2<n.toNat:=fun e he=>by
   obtain⟨i,hi,rfl⟩:=aoB.1 he
   exact sd hr (hk i hi)
  have oQ:∀e∈(allI es.length).map (fE es),e.1<n.toNat∧e.2<n.toNat:=fun e he=>by
   obtain⟨i,hi,rfl⟩:=aoB.1 he
   exact sd hr (js.1 hi)
  have he:∀x,aD (ks.map (fE es)) x=aD ((allI es.length).map (fE es)) x:=fun x=>by
   by_cases hx:x<n.toNat
   ·exact h x hx
   ·rw[IT _ Ll x (by omega),IT _ oQ x (by omega)]
  unfold bF
  rw[he u,he v]
  exact id
theorem Gn{H:Hp}{n:Int}{a:Option Addr}{c k:Nat}(hl:k≤1000000000):
  af Tryz.prog KL [zJ n (.slice a k c)] H fun v H'=>aw (ah H H'∧∃b,H.size≤b∧Sl H' 1 v (allI k).length ((allI k).map i64) (some b)):=by
 refine bq KT ?_
 have f0:ah H (H.new 52 [i64 n,.slice a k c]):=(ag.refl _ _).new _ _
 have DC:(H.new 52 [i64 n,.slice a k c]).size=H.size+1:=by rw[ap]
 simp(disch:=(first|omega| (simp only[Zs]<;>omega)|fail)) only[go_sem, ↓reduceIte,Zv,zJ]
 generalize H.new 52 [i64 n,.slice a k c]=H0 at*
 have fo:ah H0 (H0.new 3 []):=(ag.refl _ _).new _ _
 have s0:Sl (H0.new 3 []) 1 (.slice (some ⟨H.size+1,0,none⟩) 0 0) (allI 0).length ((allI 0).map i64) (some (H.size+1)):=Sl.bU (size:=1) (n:=0) (xs:=[]) rfl DC.symm
 generalize H0.new 3 []=H1 at*
 refine aW.intro (fun m env H'=>ah H H'∧∃ (j:Nat) (w:Value) (b:Nat),m=k - j∧j≤k∧H.size≤b∧Sl H' 1 w (allI j).length ((allI j).map i64) (some b)∧
  env=[(3,w),(8,i64 k),(9,i64 j)]) k ⟨f0.trans fo,0,_,H.size+1,by omega,by omega,by omega,s0,rfl⟩ ?_
 rintro m env H2 ⟨f2,j,w,b,hm,hj,hb,s2,rfl⟩
 refine vs ?_
 refine am.dec (fun aO=>?_) (fun aO=>?_)<;>refine vs ?_
 ·refine ID (B:=H.size) hb f2.size s2 _ (by rw[uV];omega) ?_
  intro w' H' b' jX s' e'
  rw[←vJ]at s'
  refine vs ?_
  rw[wrap64 (n:=(j:Int)+1) (by omega) (by omega)]
  exact⟨k - (j+1),by omega,f2.then e' (fun z hz=>hz),j+1,w',b',rfl,by omega,jX,s',rfl⟩
 ·have fS:j=k:=by omega
  subst fS
  exact⟨f2,b,hb,s2⟩
theorem BL{H:Hp}{n:Int}{a a':Option Addr}{c c':Nat}{es:List Ed}{ks:List Int}(h:cO H 3 (.slice a es.length c) es.length (dW es))(h':cO H 1 (.slice a' ks.length c') ks.length (ks.map i64))(Jb:ks.length≤c')
  (hr:fj n es)(hl:ks.length≤1000000000):
  af Tryz.prog E9 [zJ n (.slice a es.length c),.slice a' ks.length c'] H fun v H'=>aw (ah H H'∧∃b,v= .bool b∧(b=true↔jT n es ks)):=by
 refine bq Fg ?_
 have f0:ah H (H.new 52 [i64 n,.slice a es.length c]):=(ag.refl _ _).new _ _
 have b0:=az H 52 [i64 n,.slice a es.length c]
 have DC:(H.new 52 [i64 n,.slice a es.length c]).size=H.size+1:=by rw[ap]
 simp(disch:=(first|omega| (simp only[Zs]<;>omega)|fail)) only[go_sem, ↓reduceIte,Zv,zJ]
 generalize H.new 52 [i64 n,.slice a es.length c]=H0 at*
 have Vl:=hr.len
 refine aW.intro (fun m env H'=>ah H H'∧H'.own H.size=some [i64 n,.slice a es.length c]∧∃ (k:Nat),m=ks.length - k∧k≤ks.length∧(∀i∈ks.take k,LN es i)∧gF ((ks.take k).map (fE es))∧
  env=[(1,.slice a' ks.length c'),(2,ptr H.size),(12,.slice a' ks.length c'),(13,i64 ks.length),(14,i64 k)]) ks.length ⟨f0,b0,0,by omega,by omega,by simp,.nil,rfl⟩ ?_
 rintro m env H3 ⟨f3,b3,k,hm,Uc,bJ,Tf,rfl⟩
 have MG:=aB b3
 have h3:=h.fresh f3
 have MJ:=h'.fresh f3
 refine vs ?_
 refine am.dec (fun aO=>?_) (fun aO=>?_)<;>refine vs ?_
 ·obtain⟨i,hi⟩:∃x,ks[k]? =some x:=⟨_,aog (by omega)⟩
  obtain⟨_,bx,o,lb,rfl,eW,bX⟩:=cO.num MJ hi
  have bK:=aom hi
  refine⟨⟨by omega,by omega⟩,?_⟩
  refine v4 eW Int.toNat_natCast aok bX ?_
  refine am.dec (fun g1=>?_) (fun g1=>?_)<;>refine v1 (ae b3) ?_
  ·exact⟨f3,false,rfl,iff_of_false (by simp) fun hs=>by have:=(hs.ins i bK).1;omega⟩
  refine am.dec (fun g2=>?_) (fun g2=>?_)<;>refine v1 (ae b3) ?_
  ·exact⟨f3,false,rfl,iff_of_false (by simp) fun hs=>by have:=(hs.ins i bK).2;omega⟩
  have hIn:LN es i:=⟨by omega,by omega⟩
  obtain⟨ik,e,rfl,he,hik⟩:=hIn.get
  obtain⟨ef0,ef1,et0,et1⟩:=hr.ends e (aom he)
  obtain⟨_,be,oe,le,rfl,XN,nS,eG,kD,vB,sB⟩:=cO.oU h3 he
  obtain⟨a2,B1,vS,alZ,oI⟩:=qE MJ (lo:=0) (hi:=k) (lo':=((0:Nat):Int)) (hi':=(k:Int)) rfl rfl (by omega) (by omega) Jb
  rw[aqd,Nat.sub_zero]at vS oI
  refine⟨⟨by omega,by omega,by omega,by omega⟩,?_⟩
  refine vs ?_
  rw[B1]
  have B0:=gu (ks:=ks.take k) (a':=a2) (c':=c' - 0) h3 (by rw[oI];exact vS) hr bJ (by omega)
  rw[oI]at B0
  refine B0.mono ?_
  rintro u H4 ⟨f4,bu,hbu,s4⟩
  have b4:=f4.own b3 (fun h=>h)
  have h4:=h3.fresh f4
  obtain⟨_,be4,oe4,le4,SD,abO,al0,O6,hd0,Pm,iO⟩:=cO.oU h4 he
  injection SD with SD
  injection SD with SD agO
  subst SD;subst agO
  obtain⟨wa,wc,rfl,_⟩:=cJ s4
  obtain⟨_,rfl,lw,Tv,ZA⟩:=Sl.num s4 (iJ ((ks.take k).map (fE es)) (v:=e.f.toNat) (by omega))
  obtain⟨_,_,lw',JZ,ED⟩:=Sl.num s4 (iJ ((ks.take k).map (fE es)) (v:=e.t.toNat) (by omega))
  rw[Tv]at JZ
  injection JZ with JZ
  subst JZ
  refine v1 (ae b4) ?_
  refine⟨⟨by omega,by omega⟩,?_⟩
  simp(disch:=(first|omega| (simp only[Zs]<;>omega)|fail)) only[go_sem, ↓reduceIte,Zv,abO,Int.toNat_natCast,O6,eE]
  refine⟨by omega,?_⟩
  have q2:=az H4 61 [i64 0,i64 0,i64 0]
  simp(disch:=(first|omega| (simp only[Zs]<;>omega)|fail)) only[go_sem, ↓reduceIte,Zv,O6,eE,q2]
  have q3:=ai (l:=[i64 e.f,i64 e.t,i64 e.w]) q2
  have f5:ah H4 ((H4.new 61 [i64 0,i64 0,i64 0]).wr H4.size [i64 e.f,i64 e.t,i64 e.w]):=((ag.refl _ _).new _ _:ah H4 _).then ((ag.refl (fun z=>z=H4.size) _).wr (fun _=>rfl) _) (fun z hz=>by omega)
  generalize (H4.new 61 [i64 0,i64 0,i64 0]).wr H4.size [i64 e.f,i64 e.t,i64 e.w]=H5 at*
  have abQ:=f5.own Tv (fun h=>h)
  refine v1 (ae q3) ?_
  refine⟨⟨by omega,by omega⟩,?_⟩
  refine v5 (ae abQ) aok aoh ZA (ae q3) ?_
  refine⟨⟨by omega,by omega⟩,?_⟩
  refine v4 (ae abQ) aok aoh ED ?_
  have XO:ks.take (k+1)=ks.take k++[(ik:Int)]:=by rw[aoS,hi];rfl
  have f35:=f3.trans (f4.trans f5)
  refine am.dec (fun g3=>?_) (fun g3=>?_)<;>refine vs ?_
  ·refine⟨f35,false,rfl,iff_of_false (by simp) fun hs=>?_⟩
   have abR:gF ((ks.take (k+1)).map (fE es)):=Kw hs.vT ((List.take_sublist _ _).map _)
   rw[XO,aoM,apF,vt,Bz he]at abR
   exact abR.2 (by show aD _ _=aD _ _;simp only;omega)
  ·rw[wrap64 (n:=(k:Int)+1) (by omega) (by omega)]
   refine⟨ks.length - (k+1),by omega,f35,f5.own b4 (fun h=>h),k+1,rfl,by omega,fun i hi'=>?_,?_,rfl⟩
   ·rw[XO]at hi'
    rcases aot.1 hi' with hi'|hi'
    ·exact bJ i hi'
    ·rw[aop.1 hi'];exact hIn
   ·rw[XO,aoM,apF,vt]
    refine⟨Tf,fun hh=>g3 ?_⟩
    rw[Bz he]at hh
    have:aD ((ks.take k).map (fE es)) e.f.toNat=aD ((ks.take k).map (fE es)) e.t.toNat:=hh
    rw[this]
 ·have zZ:k=ks.length:=by omega
  subst zZ
  rw[aoO]at bJ Tf
  have B0:=NP hr bJ Tf
  refine v1 (ae b3) ?_
  refine(gu h3 MJ hr bJ hl).mono ?_
  rintro u H4 ⟨f4,bu,hbu,s4⟩
  have b4:=f4.own b3 (fun h=>h)
  obtain⟨wa,wc,rfl,_⟩:=cJ s4
  refine vs ?_
  refine jB.intro (fun H'=>H'.own H.size=some [i64 n,.slice a es.length c]) b4 ?_
  refine vs ?_
  refine fJ.intro (zJ n (.slice a es.length c)) (fun H' hI=>by refine v1 (ae hI) ?_;exact⟨rfl,trivial⟩) ?_
  refine v1 (ae b4) ?_
  refine And.intro b4 ?_
  refine vs ?_
  refine(Gn (n:=n) (a:=a) (c:=c) (k:=es.length) (by omega)).mono ?_
  rintro v5 H5 ⟨f5,b5',hb5,s5⟩
  have b5:=f5.own b4 (fun h=>h)
  obtain⟨va,VF,rfl,_⟩:=cJ s5
  refine And.intro b5 ?_
  refine vs ?_
  refine(gu ((h3.fresh f4).fresh f5) s5.rd hr (fun i hi=>js.1 hi) (by rw[uV];omega)).mono ?_
  rintro v6 H6 ⟨f6,b6',hb6,s6⟩
  obtain⟨xa,xc,rfl,_⟩:=cJ s6
  refine And.intro (f6.own b5 (fun h=>h)) ?_
  refine vs ?_
  have s46:=s4.ext (f5.trans f6) (fun _ _ h=>h)
  have f36:=f3.trans (f4.trans (f5.trans f6))
  have BZ:=qz n.toNat (ks.map (fE es))
  have qJ:=qz n.toNat ((allI es.length).map (fE es))
  have Lm:=hr.n0
  have vV:=hr.n1
  refine aW.intro (fun m env H'=>H'=H6∧∃ (j:Nat),m=n.toNat - j∧j≤n.toNat∧(∀v,v<j→aD (ks.map (fE es)) v=aD ((allI es.length).map (fE es)) v)∧
   env=[(9,.slice wa n.toNat wc),(56,.slice xa n.toNat xc),(57,i64 n.toNat),(58,i64 j)]) n.toNat ⟨rfl,0,by omega,by omega,by omega,rfl⟩ ?_
  rintro m env _ ⟨rfl,j,T6,hj,cX,rfl⟩
  refine vs ?_
  refine am.dec (fun zI=>?_) (fun zI=>?_)<;>refine vs ?_
  ·have ZB:j<n.toNat:=by omega
   obtain⟨_,rfl,l1,Nr,jY⟩:=Sl.num s46 (iJ (ks.map (fE es)) ZB)
   obtain⟨_,rfl,l2,Ze,GS⟩:=Sl.num s6 (iJ ((allI es.length).map (fE es)) ZB)
   refine⟨⟨by omega,by omega⟩,?_⟩
   refine v5 (ae Ze) Int.toNat_natCast aok aoh GS ?_
   refine⟨⟨by omega,by omega⟩,?_⟩
   refine v5 (ae Nr) Int.toNat_natCast aok aoh jY ?_
   refine am.dec (fun g3=>?_) (fun g3=>?_)<;>refine vs ?_
   ·rw[wrap64 (n:=(j:Int)+1) (by omega) (by omega)]
    refine⟨n.toNat - (j+1),by omega,trivial,j+1,rfl,by omega,fun v hv=>?_,rfl⟩
    by_cases hvj:v=j
    ·rw[hvj];omega
    ·exact cX v (by omega)
   ·refine⟨f36,false,rfl,iff_of_false (by simp) fun hs=>?_⟩
    have:=B0.1 hs j ZB
    omega
  ·exact⟨f36,true,rfl,iff_of_true rfl (B0.2 fun v hv=>cX v (by omega))⟩
theorem xI{H:Hp}{n:Int}{a:Option Addr}{c:Nat}{es:List Ed}(h:cO H 3 (.slice a es.length c) es.length (dW es))(hl:es.length≤1000000000):
  af Tryz.prog B9 [zJ n (.slice a es.length c)] H fun v H'=>aw (ah H H'∧∃ (L:List Int) (b:Nat),L.Perm (allI es.length)∧L.Pairwise (fun i j=>wE es i≤wE es j)∧H.size≤b∧Sl H' 1 v L.length (L.map i64) (some b)):=by
 refine bq Cl ?_
 have f0:ah H (H.new 52 [i64 n,.slice a es.length c]):=(ag.refl _ _).new _ _
 have b0:=az H 52 [i64 n,.slice a es.length c]
 have DC:(H.new 52 [i64 n,.slice a es.length c]).size=H.size+1:=by rw[ap]
 simp(disch:=(first|omega| (simp only[Zs]<;>omega)|fail)) only[go_sem, ↓reduceIte,Zv,zJ]
 generalize H.new 52 [i64 n,.slice a es.length c]=H0 at*
 have fo:ah H0 (H0.new 3 []):=(ag.refl _ _).new _ _
 have s0:Sl (H0.new 3 []) 1 (.slice (some ⟨H.size+1,0,none⟩) 0 0) ([]:List Int).length (([]:List Int).map i64) (some (H.size+1)):=Sl.bU (size:=1) (n:=0) (xs:=[]) rfl DC.symm
 have b1:=fo.own b0 (fun h=>h)
 generalize H0.new 3 []=H1 at*
 refine aW.intro (fun m env H'=>ah H H'∧H'.own H.size=some [i64 n,.slice a es.length c]∧∃ (j:Nat) (w:Value) (b:Nat) (L:List Int),m=es.length - j∧j≤es.length∧H.size+1≤b∧L.Perm (allI j)∧L.Pairwise (fun i j=>wE es i≤wE es j)∧Sl H' 1 w L.length (L.map i64) (some b)∧
  env=[(1,ptr H.size),(3,w),(10,.slice a es.length c),(11,i64 es.length),(12,i64 j)]) es.length ⟨f0.trans fo,b1,0,_,H.size+1,[],by omega,by omega,by omega,.refl _,.nil,s0,rfl⟩ ?_
 clear s0 b1 fo b0 f0
 rintro m env H2 ⟨f2,b2,j,w,b,L,hm,hj,hb,sD,Tw,s2,rfl⟩
 have dL:=aB b2
 have h2:=h.fresh f2
 have hLl:L.length=j:=by rw[sD.length_eq,uV]
 refine vs ?_
 refine am.dec (fun aO=>?_) (fun aO=>?_)<;>refine vs ?_
 rotate_left
 ·have fS:j=es.length:=by omega
  subst fS
  exact⟨f2,L,b,sD,Tw,by omega,s2⟩
 obtain⟨e,he⟩:∃e,es[j]? =some e:=⟨_,aog (by omega)⟩
 obtain⟨_,be,o,lb,rfl,eW,nS,eG,kD,vB,sB⟩:=cO.oU h2 he
 refine⟨⟨by omega,by omega⟩,?_⟩
 simp(disch:=(first|omega| (simp only[Zs]<;>omega)|fail)) only[go_sem, ↓reduceIte,Zv,eW,Int.toNat_natCast,eG,eE]
 refine⟨by omega,?_⟩
 have q2:=az H2 61 [i64 0,i64 0,i64 0]
 simp(disch:=(first|omega| (simp only[Zs]<;>omega)|fail)) only[go_sem, ↓reduceIte,Zv,eG,eE,q2]
 have q3:=ai (l:=[i64 e.f,i64 e.t,i64 e.w]) q2
 have f3:ah H2 ((H2.new 61 [i64 0,i64 0,i64 0]).wr H2.size [i64 e.f,i64 e.t,i64 e.w]):=((ag.refl _ _).new _ _:ah H2 _).then ((ag.refl (fun z=>z=H2.size) _).wr (fun _=>rfl) _) (fun z hz=>by omega)
 generalize (H2.new 61 [i64 0,i64 0,i64 0]).wr H2.size [i64 e.f,i64 e.t,i64 e.w]=H3 at*
 have b3:=f3.own b2 (fun h=>h)
 have h3:=h2.fresh f3
 have s3:=s2.ext f3 (fun _ _ h=>h)
 obtain⟨wa,wc,rfl,hwc⟩:=cJ s3
 refine aW.intro (fun m env H'=>H'=H3∧∃k:Nat,m=L.length - k∧k≤L.length∧(∀x∈L.take k,wE es x≤e.w)∧
  env=[(1,ptr H.size),(3,.slice wa L.length wc),(4,i64 j),(5,ptr H2.size),(6,i64 k),(10,.slice (some ⟨be,o,none⟩) es.length c),(11,i64 es.length),(12,i64 j)]) L.length ⟨rfl,0,by omega,by omega,by simp,rfl⟩ ?_
 rintro m2 env H3 ⟨rfl,k,hm2,hk,Jw,rfl⟩
 refine vs ?_
 refine am.dec (fun Uc=>?_) (fun Uc=>?_)<;>refine vs ?_
 ·obtain⟨x,hx⟩:∃x,L[k]? =some x:=⟨_,aog (by omega)⟩
  have RZ:LN es x:=by
   have:=Gb.1 (sD.mem_iff.1 (aom hx))
   exact⟨this.1,by omega⟩
  obtain⟨ix,ex,rfl,hex,abS⟩:=RZ.get
  obtain⟨_,rfl,lw,Tv,ON⟩:=Sl.num s3 hx
  obtain⟨_,be2,oe2,le2,UB,Bj,abT,O7,hd0,Pm,iO⟩:=cO.oU h3 hex
  injection UB with UB
  injection UB with UB hoe
  subst UB;subst hoe
  refine v1 (ae b3) ?_
  refine⟨⟨by omega,by omega⟩,?_⟩
  refine v5 (ae Tv) Int.toNat_natCast aok aoh ON ?_
  refine⟨⟨by omega,by omega⟩,?_⟩
  refine v4 Bj Int.toNat_natCast iO (ae q3) ?_
  refine am.dec (fun abU=>?_) (fun abU=>?_)<;>refine vs ?_
  ·rw[wrap64 (n:=(k:Int)+1) (by omega) (by omega)]
   refine⟨L.length - (k+1),by omega,trivial,k+1,rfl,by omega,fun y hy=>?_,rfl⟩
   rw[aoS,hx]at hy
   rcases aot.1 hy with hy|hy
   ·exact Jw y hy
   ·have:y=(ix:Int):=by simpa using hy
    rw[this,uU hex];exact abU
  have Uy:∀x∈L.drop k,e.w≤wE es x:=by
   intro y hy
   have Up:L.drop k=(ix:Int)::L.drop (k+1):=by
    rw[apo (by omega)]
    rw[aog (by omega)]at hx
    injection hx with hx
    rw[hx]
   have XH:=List.Pairwise.sublist (List.drop_sublist k L) Tw
   rw[Up,apq]at XH
   rw[Up]at hy
   rcases aos.1 hy with rfl|hy
   ·rw[uU hex];omega
   ·have:=XH.1 y hy
    rw[uU hex]at this
    omega
  have Xt:=qE s3.rd (lo:=0) (hi:=k) (lo':=((0:Nat):Int)) (hi':=(k:Int)) rfl rfl (by omega) (by omega) hwc
  obtain⟨a5,hv5,hr5,hc5,Tm⟩:=Xt
  rw[aqd,Nat.sub_zero]at hr5 Tm
  have sp2:=qE s3.rd (lo:=k) (hi:=L.length) (lo':=(k:Int)) (hi':=(L.length:Int)) rfl rfl (by omega) (by omega) hwc
  obtain⟨a6,hv6,XP,hc6,hl6⟩:=sp2
  rw[ap3 (by rw[apZ];omega)]at XP
  have MG:=aB b3
  have fl:ah H3 (H3.new 3 []):=(ag.refl _ _).new _ _
  have sl:Sl (H3.new 3 []) 1 (.slice (some ⟨H3.size,0,none⟩) 0 0) ([]:List Int).length (([]:List Int).map i64) (some H3.size):=Sl.bU (size:=1) (n:=0) (xs:=[]) rfl rfl
  have XQ:=hr5.fresh fl
  have XR:=XP.fresh fl
  have b4:=fl.own b3 (fun h=>h)
  refine⟨⟨by omega,by omega,by omega,by omega⟩,?_⟩
  refine vs ?_
  rw[hv5]
  have WQ:(H3.new 3 []).size=H3.size+1:=by rw[ap]
  generalize H3.new 3 []=H4 at*
  refine OM (B:=H3.size) (xs:=[]) (ys:=L.take k) (fun b hb=>by injection hb with hb;omega) (by omega) sl (by rw[Tm];exact XQ) (by simp;omega) ?_
  intro w5 H5 fp5 XS s5 e5
  rw[apj]at s5
  refine vs ?_
  have f45:ah H2 H5:=(f3.trans fl).then e5 (fun z hz=>by have:=f3.size;omega)
  have b5:=e5.own b4 (fun h=>by omega)
  have abW:=XR.ext e5
  refine yb (B:=H3.size) XS (by have:=e5.size;omega) s5 _ (by rw[aoW];omega) ?_
  intro w6 H6 fp6 XT s6 e6
  have b6:=e6.own b5 (fun h=>by omega)
  have f36:ah H3 H6:=(fl.then e5 (fun z hz=>hz)).then e6 (fun z hz=>hz)
  obtain⟨w6a,w6c,rfl,_⟩:=cJ s6
  refine vs ?_
  refine⟨⟨by omega,by omega,by omega,by omega⟩,?_⟩
  refine vs ?_
  rw[hv6]
  refine OM (B:=H3.size) (ys:=L.drop k) XT (f36.size) s6 (by have:=XP.fresh f36;rw[apZ];exact this) (by simp;omega) ?_
  intro w7 H7 fp7 XU s7 e7
  have b7:=e7.own b6 (fun h=>by omega)
  have eL:L.take k++[(j:Int)]++L.drop k=L.take k++((j:Int)::L.drop k):=by simp
  have hp7:(L.take k++[(j:Int)]++L.drop k).Perm (allI (j+1)):=by
   rw[eL,vJ]
   have h1:(L.take k++(j:Int)::L.drop k).Perm ((j:Int)::(L.take k++L.drop k)):=apX
   rw[apE]at h1
   exact h1.trans ((sD.cons _).trans (List.perm_append_singleton _ _).symm)
  have hw7:(L.take k++[(j:Int)]++L.drop k).Pairwise (fun i j=>wE es i≤wE es j):=by
   have h0:=Tw
   rw[←apE k L,apn]at h0
   rw[eL,apn,apq]
   refine⟨h0.1,⟨fun x hx=>by rw[uU he];exact Uy x hx,h0.2.1⟩,fun x hx y hy=>?_⟩
   rcases aos.1 hy with rfl|hy
   ·rw[uU he];exact Jw x hx
   ·exact h0.2.2 x hx y hy
  obtain⟨b7',rfl,hb7⟩:∃b',fp7=some b'∧H3.size≤b':=by
   cases fp7 with
   |none=>obtain⟨_,h0,_⟩:=s7;simp at h0
   |some b'=>exact⟨b',rfl,XU b' rfl⟩
  refine vs ?_
  rw[wrap64 (n:=(j:Int)+1) (by omega) (by omega)]
  exact⟨es.length - (j+1),by omega,(f2.trans (f3.trans f36)).then e7 (fun z hz=>by have:=f3.size;omega),b7,j+1,w7,b7',_,rfl,by omega,by omega,hp7,hw7,s7,rfl⟩
 ·have Uy:∀x∈L.drop k,e.w≤wE es x:=by rw[List.drop_eq_nil_of_le (by omega)];simp
  have Xt:=qE s3.rd (lo:=0) (hi:=k) (lo':=((0:Nat):Int)) (hi':=(k:Int)) rfl rfl (by omega) (by omega) hwc
  obtain⟨a5,hv5,hr5,hc5,Tm⟩:=Xt
  rw[aqd,Nat.sub_zero]at hr5 Tm
  have sp2:=qE s3.rd (lo:=k) (hi:=L.length) (lo':=(k:Int)) (hi':=(L.length:Int)) rfl rfl (by omega) (by omega) hwc
  obtain⟨a6,hv6,XP,hc6,hl6⟩:=sp2
  rw[ap3 (by rw[apZ];omega)]at XP
  have MG:=aB b3
  have fl:ah H3 (H3.new 3 []):=(ag.refl _ _).new _ _
  have sl:Sl (H3.new 3 []) 1 (.slice (some ⟨H3.size,0,none⟩) 0 0) ([]:List Int).length (([]:List Int).map i64) (some H3.size):=Sl.bU (size:=1) (n:=0) (xs:=[]) rfl rfl
  have XQ:=hr5.fresh fl
  have XR:=XP.fresh fl
  have b4:=fl.own b3 (fun h=>h)
  refine⟨⟨by omega,by omega,by omega,by omega⟩,?_⟩
  refine vs ?_
  rw[hv5]
  have WQ:(H3.new 3 []).size=H3.size+1:=by rw[ap]
  generalize H3.new 3 []=H4 at*
  refine OM (B:=H3.size) (xs:=[]) (ys:=L.take k) (fun b hb=>by injection hb with hb;omega) (by omega) sl (by rw[Tm];exact XQ) (by simp;omega) ?_
  intro w5 H5 fp5 XS s5 e5
  rw[apj]at s5
  refine vs ?_
  have f45:ah H2 H5:=(f3.trans fl).then e5 (fun z hz=>by have:=f3.size;omega)
  have b5:=e5.own b4 (fun h=>by omega)
  have abW:=XR.ext e5
  refine yb (B:=H3.size) XS (by have:=e5.size;omega) s5 _ (by rw[aoW];omega) ?_
  intro w6 H6 fp6 XT s6 e6
  have b6:=e6.own b5 (fun h=>by omega)
  have f36:ah H3 H6:=(fl.then e5 (fun z hz=>hz)).then e6 (fun z hz=>hz)
  obtain⟨w6a,w6c,rfl,_⟩:=cJ s6
  refine vs ?_
  refine⟨⟨by omega,by omega,by omega,by omega⟩,?_⟩
  refine vs ?_
  rw[hv6]
  refine OM (B:=H3.size) (ys:=L.drop k) XT (f36.size) s6 (by have:=XP.fresh f36;rw[apZ];exact this) (by simp;omega) ?_
  intro w7 H7 fp7 XU s7 e7
  have b7:=e7.own b6 (fun h=>by omega)
  have eL:L.take k++[(j:Int)]++L.drop k=L.take k++((j:Int)::L.drop k):=by simp
  have hp7:(L.take k++[(j:Int)]++L.drop k).Perm (allI (j+1)):=by
   rw[eL,vJ]
   have h1:(L.take k++(j:Int)::L.drop k).Perm ((j:Int)::(L.take k++L.drop k)):=apX
   rw[apE]at h1
   exact h1.trans ((sD.cons _).trans (List.perm_append_singleton _ _).symm)
  have hw7:(L.take k++[(j:Int)]++L.drop k).Pairwise (fun i j=>wE es i≤wE es j):=by
   have h0:=Tw
   rw[←apE k L,apn]at h0
   rw[eL,apn,apq]
   refine⟨h0.1,⟨fun x hx=>by rw[uU he];exact Uy x hx,h0.2.1⟩,fun x hx y hy=>?_⟩
   rcases aos.1 hy with rfl|hy
   ·rw[uU he];exact Jw x hx
   ·exact h0.2.2 x hx y hy
  obtain⟨b7',rfl,hb7⟩:∃b',fp7=some b'∧H3.size≤b':=by
   cases fp7 with
   |none=>obtain⟨_,h0,_⟩:=s7;simp at h0
   |some b'=>exact⟨b',rfl,XU b' rfl⟩
  refine vs ?_
  rw[wrap64 (n:=(j:Int)+1) (by omega) (by omega)]
  exact⟨es.length - (j+1),by omega,(f2.trans (f3.trans f36)).then e7 (fun z hz=>by have:=f3.size;omega),b7,j+1,w7,b7',_,rfl,by omega,by omega,hp7,hw7,s7,rfl⟩
theorem NQ{α:Type}{e:α→E2}:∀L:List α,(bT e L).length≤L.length:=by
 refine kg (by simp[bT]) fun L i ih=>?_
 rw[n9]
 split
 ·simp;omega
 ·simp;omega
theorem Dh{H:Hp}{n:Int}{a:Option Addr}{c:Nat}{es:List Ed}(h:cO H 3 (.slice a es.length c) es.length (dW es))(hr:fj n es):
  af Tryz.prog G4 [zJ n (.slice a es.length c)] H fun v H'=>aw (ah H H'∧∃ (L:List Int) (b:Nat),L.Perm (allI es.length)∧L.Pairwise (fun i j=>wE es i≤wE es j)∧H.size≤b∧Sl H' 1 v (bT (fE es) L).length ((bT (fE es) L).map i64) (some b)):=by
 refine bq Hm ?_
 have Vl:=hr.len
 have f0:ah H (H.new 52 [i64 n,.slice a es.length c]):=(ag.refl _ _).new _ _
 have b0:=az H 52 [i64 n,.slice a es.length c]
 have DC:(H.new 52 [i64 n,.slice a es.length c]).size=H.size+1:=by rw[ap]
 simp(disch:=(first|omega| (simp only[Zs]<;>omega)|fail)) only[go_sem, ↓reduceIte,Zv,zJ]
 generalize H.new 52 [i64 n,.slice a es.length c]=H0 at*
 have fo:ah H0 (H0.new 3 []):=(ag.refl _ _).new _ _
 have s0:Sl (H0.new 3 []) 1 (.slice (some ⟨H.size+1,0,none⟩) 0 0) ([]:List Int).length (([]:List Int).map i64) (some (H.size+1)):=Sl.bU (size:=1) (n:=0) (xs:=[]) rfl DC.symm
 have b1:=fo.own b0 (fun h=>h)
 generalize H0.new 3 []=H1 at*
 have f01:=f0.trans fo
 refine(xI (n:=n) (h.fresh f01) (by omega)).mono ?_
 rintro u H2 ⟨f2,L,bl,sD,Tw,Vp,sL⟩
 obtain⟨la,lc,rfl,_⟩:=cJ sL
 have b2:=f2.own b1 (fun h=>h)
 have s2:=s0.ext f2 (fun _ _ h=>h)
 have hLl:L.length=es.length:=by rw[sD.length_eq,uV]
 have hrL:=sL.rd
 have Lx:H1.size≤H2.size:=f2.size
 have al9:H.size<H1.size:=aB b1
 have hs0:H.size+1<H1.size:=Sl.lt s0
 refine vs ?_
 refine aW.intro (fun m env H'=>ah H H'∧ag (fun z=>H.size+1≤z∧z<bl∨H2.size≤z) H2 H'∧H'.own H.size=some [i64 n,.slice a es.length c]∧∃ (j:Nat) (w:Value) (b:Nat),m=L.length - j∧j≤L.length∧H.size+1≤b∧(b<bl∨H2.size≤b)∧Sl H' 1 w (bT (fE es) (L.take j)).length ((bT (fE es) (L.take j)).map i64) (some b)∧
  env=[(1,ptr H.size),(3,w),(9,.slice la L.length lc),(10,i64 L.length),(11,i64 j)]) L.length ⟨f01.trans f2,ag.refl _ _,b2,0,_,H.size+1,by omega,by omega,by omega,.inl (by omega),s2,rfl⟩ ?_
 clear s0 b1 fo b0 f0 s2
 rintro m env H3 ⟨f3,e3,b3,j,w,b,hm,hj,hb,VK,s3,rfl⟩
 have MG:=aB b3
 have h3:=h.fresh f3
 have ama:bl<H2.size:=Sl.lt sL
 have rL3:=(sL.ext e3 (fun x hx h=>by injection hx with hx;omega)).rd
 obtain⟨g1,g2,g3⟩:=vw (e:=fE es) (L.take j)
 have gin:∀i∈bT (fE es) (L.take j),LN es i:=fun i hi=>js.1 (sD.mem_iff.1 (List.mem_of_mem_take (g2 i hi)))
 have dk:(bT (fE es) (L.take j)).length≤65536:=by
  have:=NQ (e:=fE es) (L.take j)
  rw[aoW]at this
  omega
 refine vs ?_
 refine am.dec (fun aO=>?_) (fun aO=>?_)<;>refine vs ?_
 rotate_left
 ·have fS:j=L.length:=by omega
  subst fS
  rw[aoO]at s3
  exact⟨f3,L,b,sD,Tw,by omega,s3⟩
 obtain⟨x,hx⟩:∃x,L[j]? =some x:=⟨_,aog (by omega)⟩
 have RZ:LN es x:=js.1 (sD.mem_iff.1 (aom hx))
 obtain⟨ix,ex,rfl,hex,abS⟩:=RZ.get
 obtain⟨_,bx,ox,lx,rfl,XV,fu⟩:=cO.num rL3 hx
 obtain⟨wa,wc,rfl,_⟩:=cJ s3
 refine⟨⟨by omega,by omega⟩,?_⟩
 refine v5 XV Int.toNat_natCast aok fu (ae b3) ?_
 refine(gu h3 s3.rd hr gin (by omega)).mono ?_
 rintro u H4 ⟨f4,bp,hbp,s4⟩
 have b4:=f4.own b3 (fun h=>h)
 obtain⟨ef0,ef1,et0,et1⟩:=hr.ends ex (aom hex)
 obtain⟨pa,pc,rfl,_⟩:=cJ s4
 obtain⟨_,rfl,lp,z8,BZ⟩:=Sl.num s4 (iJ ((bT (fE es) (L.take j)).map (fE es)) (v:=ex.f.toNat) (by omega))
 obtain⟨_,_,lp',UC,qJ⟩:=Sl.num s4 (iJ ((bT (fE es) (L.take j)).map (fE es)) (v:=ex.t.toNat) (by omega))
 rw[z8]at UC
 injection UC with UC
 subst UC
 obtain⟨_,be,oe,le,rfl,Bj,abT,O7,hd0,Pm,iO⟩:=cO.oU (h3.fresh f4) hex
 refine v1 (ae b4) ?_
 refine⟨⟨by omega,by omega⟩,?_⟩
 refine v4 Bj Int.toNat_natCast Nat.add_zero hd0 ?_
 refine⟨⟨by omega,by omega⟩,?_⟩
 refine v5 (ae z8) aok aoh BZ (ae b4) ?_
 refine⟨⟨by omega,by omega⟩,?_⟩
 refine v3 Bj Int.toNat_natCast Pm ?_
 refine⟨⟨by omega,by omega⟩,?_⟩
 refine v4 (ae z8) aok aoh qJ ?_
 have LQ:bT (fE es) (L.take (j+1))=if bF ((bT (fE es) (L.take j)).map (fE es)) ex.f.toNat ex.t.toNat then bT (fE es) (L.take j)else bT (fE es) (L.take j)++[(ix:Int)]:=by
  have:L.take (j+1)=L.take j++[(ix:Int)]:=by rw[aoS,hx];rfl
  rw[this,n9,Bz hex]
 have ZA:=wrap64 (n:=(j:Int)+1) (by omega) (by omega)
 have e4:ag (fun z=>H.size+1≤z∧z<bl∨H2.size≤z) H2 H4:=e3.trans (f4.mono fun _ _ h=>h.elim)
 have s34:=s3.ext f4 (fun _ _ h=>h)
 refine am.dec (fun hq=>?_) (fun hq=>?_)<;>refine vs ?_
 ·have hh:bF ((bT (fE es) (L.take j)).map (fE es)) ex.f.toNat ex.t.toNat:=by show aD _ _=aD _ _;omega
  rw[if_pos hh]at LQ
  rw[ZA]
  exact⟨L.length - (j+1),by omega,f3.trans f4,e4,b4,j+1,_,b,rfl,by omega,hb,VK,by rw[LQ];exact s34,rfl⟩
 ·have hh:¬bF ((bT (fE es) (L.take j)).map (fE es)) ex.f.toNat ex.t.toNat:=fun h=>hq (by have:aD ((bT (fE es) (L.take j)).map (fE es)) ex.f.toNat=aD ((bT (fE es) (L.take j)).map (fE es)) ex.t.toNat:=h;rw[this])
  rw[if_neg hh]at LQ
  have fl:ah H4 (H4.new 3 [i64 ix]):=(ag.refl _ _).new _ _
  refine Sl.append (s34.ext fl (fun _ _ h=>h)) (Sl.bU (size:=1) (n:=1) (xs:=[i64 ix]) rfl rfl).rd rfl (rQ [(ix:Int)]) (by omega) ?_
  intro w' H5 cP s5 e5 iq
  have amd:H3.size≤H4.size:=f4.size
  have ame:H2.size≤H3.size:=e3.size
  have amf:=fl.size
  obtain⟨b',rfl,jX,agV⟩:∃b',cP=some b'∧H.size+1≤b'∧(b'<bl∨H2.size≤b'):=by
   rcases iq with h| ⟨b',h,h1,h2⟩
   ·exact⟨b,h,hb,VK⟩
   ·rw[ap]at h1
    exact⟨b',h,by omega,.inr (by omega)⟩
  refine vs ?_
  rw[ZA]
  exact⟨L.length - (j+1),by omega,(f3.trans (f4.trans fl)).then e5 (fun z (hz:some b=some z)=>by injection hz with hz;omega),(e4.trans (fl.mono fun _ _ h=>h.elim)).nq e5 (fun z _ (hz:some b=some z)=>by injection hz with hz;omega),(e5.own (fl.own b4 (fun h=>h)) (fun(hz:some b=some _)=>by injection hz with hz;omega)),j+1,w',b',rfl,by omega,jX,agV,by rw[LQ,aoq,aoM];exact s5,rfl⟩
theorem oC{H:Hp}{n:Int}{a a':Option Addr}{c c':Nat}{es:List Ed}{ks:List Int}(h:cO H 3 (.slice a es.length c) es.length (dW es))(h':cO H 1 (.slice a' ks.length c') ks.length (ks.map i64))
  (hk:∀i∈ks,LN es i)(hl:ks.length≤1000000)(hw:∀e∈es, -9223372036854775808≤e.w∧e.w≤9223372036854775807)(Vl:es.length≤1000000000):
  af Tryz.prog Fa [zJ n (.slice a es.length c),.slice a' ks.length c'] H fun v H'=>aw (v=Im (J1 (ks.map (wE es)).sum)∧ah H H'):=by
 refine bq Fh ?_
 have f0:ah H (H.new 52 [i64 n,.slice a es.length c]):=(ag.refl _ _).new _ _
 have b0:=az H 52 [i64 n,.slice a es.length c]
 have DC:(H.new 52 [i64 n,.slice a es.length c]).size=H.size+1:=by rw[ap]
 simp(disch:=(first|omega| (simp only[Zs]<;>omega)|fail)) only[go_sem, ↓reduceIte,Zv,zJ]
 generalize H.new 52 [i64 n,.slice a es.length c]=H0 at*
 have fr:ah H0 (H0.new 39 [i64 0,u64 0]):=(ag.refl _ _).new _ _
 have r1:(H0.new 39 [i64 0,u64 0]).own (H.size+1)=some [i64 0,u64 0]:=aT DC.symm
 have Lx:(H0.new 39 [i64 0,u64 0]).size=H.size+2:=by rw[ap,DC]
 have b1:=fr.own b0 (fun h=>h)
 generalize H0.new 39 [i64 0,u64 0]=H1 at*
 have fo:ah H1 (H1.new 2 []):=(ag.refl _ _).new _ _
 have s0:Sl (H1.new 2 []) 1 (.slice (some ⟨H.size+2,0,none⟩) 0 0) ([]:List Int).length (([]:List Int).map i64) (some (H.size+2)):=Sl.bU (size:=1) (n:=0) (xs:=[]) rfl Lx.symm
 have b2:=fo.own b1 (fun h=>h)
 have r2:=fo.own r1 (fun h=>h)
 generalize H1.new 2 []=H2 at*
 have f02:=f0.trans (fr.trans fo)
 refine aW.intro (fun m env H'=>ah H H'∧H'.own H.size=some [i64 n,.slice a es.length c]∧H'.own (H.size+1)=some [i64 0,u64 0]∧∃ (j:Nat) (w:Value) (b:Nat),m=ks.length - j∧j≤ks.length∧H.size+2≤b∧Sl H' 1 w ((ks.take j).map (wE es)).length (((ks.take j).map (wE es)).map i64) (some b)∧
  env=[(2,ptr H.size),(4,ptr (H.size+1)),(5,w),(9,.slice a' ks.length c'),(10,i64 ks.length),(11,i64 j)]) ks.length ⟨f02,b2,r2,0,_,H.size+2,by omega,by omega,by omega,s0,rfl⟩ ?_
 clear s0 b1 fo b0 f0 b2 r2 r1
 rintro m env H3 ⟨f3,b3,r3,j,w,b,hm,hj,hb,s3,rfl⟩
 have MG:=aB r3
 have h3:=h.fresh f3
 have MJ:=h'.fresh f3
 refine vs ?_
 refine am.dec (fun aO=>?_) (fun aO=>?_)<;>refine vs ?_
 ·obtain⟨x,hx⟩:∃x,ks[j]? =some x:=⟨_,aog (by omega)⟩
  obtain⟨ix,ex,rfl,hex,abS⟩:=(hk x (aom hx)).get
  obtain⟨_,bx,ox,lx,rfl,XV,fu⟩:=cO.num MJ hx
  obtain⟨_,be,oe,le,rfl,Bj,abT,O7,hd0,Pm,iO⟩:=cO.oU h3 hex
  refine⟨⟨by omega,by omega⟩,?_⟩
  refine v5 XV Int.toNat_natCast aok fu (ae b3) ?_
  refine⟨⟨by omega,by omega⟩,?_⟩
  refine v3 Bj Int.toNat_natCast iO ?_
  have LQ:(ks.take (j+1)).map (wE es)=(ks.take j).map (wE es)++[ex.w]:=by rw[aoS,hx,aoM];simp[uU hex]
  refine ID (B:=H.size+2) hb (by omega) s3 _ (by simp;omega) ?_
  intro w' H' b' jX s' e'
  rw[←LQ]at s'
  refine vs ?_
  rw[wrap64 (n:=(j:Int)+1) (by omega) (by omega)]
  exact⟨ks.length - (j+1),by omega,f3.then e' (fun z hz=>by omega),e'.own b3 (fun h=>by omega),e'.own r3 (fun h=>by omega),j+1,w',b',rfl,by omega,jX,s',rfl⟩
 ·have fS:j=ks.length:=by omega
  subst fS
  rw[aoO]at s3
  obtain⟨wa,wc,rfl,_⟩:=cJ s3
  have SE:∀x∈ks.map (wE es), -9223372036854775808≤x∧x≤9223372036854775807:=fun x hx=>by
   obtain⟨i,hi,rfl⟩:=aoB.1 hx
   obtain⟨ik,e,rfl,he,_⟩:=(hk i hi).get
   rw[uU he]
   exact hw e (aom he)
  refine(Dg s3.rd (by simp;omega) SE).mono ?_
  rintro _ H4 ⟨rfl,f4⟩
  rw[SC SE (by simp;omega)]
  have r4:=f4.own r3 (fun h=>h)
  have r5:=ai (l:=[i64 (J1 (ks.map (wE es)).sum).1,u64 (J1 (ks.map (wE es)).sum).2]) r4
  simp(disch:=(first|omega| (simp only[Zs]<;>omega)|fail)) only[go_sem, ↓reduceIte,Zv,Im,r4,ae r5]
  exact⟨rfl,(f3.trans f4).then ((ag.refl (fun z=>z=H.size+1) _).wr (fun _=>rfl) _) (fun z hz=>by omega)⟩
theorem SF(s t:Int×Nat):cr .eql (.s [(0,(none,.int)),(1,(none,.int))]) (Im s) (Im t)=some (.bool (decide (s=t))):=by
 obtain⟨a,b⟩:=s
 obtain⟨c,d⟩:=t
 have h:xw [(0,(none,.int)),(1,(none,.int))] [i64 a,u64 (b:Int)] [i64 c,u64 (d:Int)]=some (decide ((a,b)=(c,d))):=by
  by_cases h1:a=c
  ·by_cases h2:b=d
   ·simp[xw,ee,nY,bj,h1,h2]
   ·have:¬ ((b:Int)=(d:Int)):=by omega
    simp[xw,ee,nY,bj,h1,h2,this]
  ·simp[xw,ee,nY,bj,h1]
 show(nY _ _ _).map _=_
 simp only[Im,nY]
 rw[h]
 rfl
theorem wf_i64{x:Int}(h:(Lit.int .i64 x).wf=true): -9223372036854775808≤x∧x≤9223372036854775807:=by
 have e1:IntKind.i64.min= -9223372036854775808:=rfl
 have e2:IntKind.i64.max=9223372036854775807:=rfl
 simp only[Lit.wf,e1,e2,ao6,aoK]at h
 omega
def abY(e:Ed):Prop:=(-9223372036854775808≤e.f∧e.f≤9223372036854775807)∧(-9223372036854775808≤e.t∧e.t≤9223372036854775807)∧(-9223372036854775808≤e.w∧e.w≤9223372036854775807)
theorem SG:∀ {rows:List (List Value)},(∀r∈rows,nA M7 [.i .i64,.i .i64,.i .i64] r)→∃es:List Ed,rows.flatten=dW es∧es.length=rows.length∧∀e∈es,abY e:=by
 intro rows
 induction rows with
 |nil=>intro _;exact⟨[],rfl,rfl,fun x hx=>by cases hx⟩
 |cons r rows ih=>
  intro h
  obtain⟨es,e1,e2,e3⟩:=ih fun q hq=>h q (aoP _ hq)
  obtain⟨_,_,rfl,⟨a,rfl,ha⟩,_,_,rfl,⟨b,rfl,hb⟩,_,_,rfl,⟨c,rfl,hc⟩,rfl⟩:=h r ao4
  refine⟨⟨a,b,c⟩::es,?_,by simp[e2],fun x hx=>?_⟩
  ·rw[apb,e1,rX];rfl
  ·rcases aos.1 hx with rfl|hx
   ·exact⟨wf_i64 ha,wf_i64 hb,wf_i64 hc⟩
   ·exact e3 x hx
theorem NR{H:Hp}{v:Value}(h:HD H (true,[.k (.i .i64),.sl [.i .i64,.i .i64,.i .i64]]) v):∃ (n:Int) (es:List Ed) (a:Option Addr) (c:Nat),v=zJ n (.slice a es.length c)∧
  cO H 3 (.slice a es.length c) es.length (dW es)∧es.length≤c∧es.length≤maxLen∧(-9223372036854775808≤n∧n≤9223372036854775807)∧∀e∈es,abY e:=by
 obtain⟨cs,rfl,_,_,rfl,⟨n,rfl,hn⟩,_,_,rfl,⟨rows,hr,Dx,XW,a,c,rfl,Tf⟩,rfl⟩:=h
 obtain⟨es,e1,e2,e3⟩:=SG Dx
 rw[e1,←e2]at hr
 rw[←e2]at Tf XW ⊢
 exact⟨n,es,a,c,rfl,hr,Tf,XW,wf_i64 hn,e3⟩
theorem NS{H:Hp}{v:Value}(h:HD H (true,[.k (.i .i64),.k (.i .i64)]) v):∃x y:Int,v= .agg #[i64 x,i64 y]:=by
 obtain⟨cs,rfl,_,_,rfl,⟨x,rfl,hx⟩,_,_,rfl,⟨y,rfl,hy⟩,rfl⟩:=h
 exact⟨x,y,rfl⟩
end Go.Proofs.YtjlnnljohemifaaGreat
