/- Texts put behind each other. -/
import Derived.Test.YthpjfeolagohkaaGreatK98
import Derived.Test.YthpjfeolagohkaaGreatK3
import Derived.Test.YthpjfeolagohkaaGreatK19
import Derived.Test.YthpjfeolagohkaaGreatK22
import Derived.Test.YthpjfeolagohkaaGreatK37
import Derived.Test.YthpjfeolagohkaaGreatK42
set_option maxRecDepth 100000
set_option maxHeartbeats 8000000
set_option linter.unusedVariables false
set_option linter.unusedSimpArgs false
namespace Go.Proofs.YthpjfeolagohkaaGreat
open Go Go.Vc
theorem AB{H:Hp}{bx:Nat}{a:Option Addr}{c:Nat}{xs:List Int}(hb:H.own bx=some [.slice a xs.length c])(h:db H 1 (.slice a xs.length c) xs.length (xs.map i64))(hm:xs.length≤1000000)(x:Int):
  af Tryz.prog jb [i64 x,ptr bx] H fun v H'=>ax (v= .bool (decide (x∈xs))∧H'=H):=by
 refine j6 mixed (an:=su) (by conv=>lhs;cbv) (nt:=7) (by kernel_rfl) (by simp) ?_
 refine v1 (ae hb) ?_
 refine(vP h x (by omega)).mono ?_
 rintro _ H' ⟨rfl,e⟩
 obtain rfl:=e.symm
 refine vs ?_
 exact⟨rfl,rfl⟩
section
variable {H H' : Hp} {ro ro' : Nat → Rl} {nn fb tb c : Nat} {C : Nat → Prop} {w : Nw} {l : List Value} {V : Int → Value} {ch : Int → List Int} {par : Int → Int} {kb : Int → Option Nat} {va vb : Value} {a b W0 : List Int} {lt : Int → Int → Bool} {rows : Int → List Int} {g : Int}
def Zq(e:Env)(fb nn bx:Nat)(va vo vn:Value)(k:Nat):Prop:=
 e.find 0=some (ptr fb)∧e.find 1=some (.iface 154 (ptr nn))∧e.find 2=some va∧e.find 7=some (ptr bx)∧e.find 10=some vo∧e.find 11=some vn∧e.find 12=some (i64 k)
theorem K9{P:Program}{A B:S}{env:Env}{H:Hp}{Kn:Env→Hp→Prop}{Kx:Nat→Env→Hp→Prop}{Kr:Env→Hp→Prop}(I:Env→Hp→Prop)(h:vc P A env H I Kx Kr)(k:∀e h,I e h→vc P B e h Kn Kx Kr):vc P (.seq A B) env H Kn Kx Kr:=
 En A env H _ _ _ _ _ _ k (fun _ _ _ h=>h) (fun _ _ h=>h) h
theorem pW.air(h:pW H ro nn fb tb c C w H' ro' l V ch par kb va vb a b):pW H ro nn fb tb c C w H' ro' l V ch par kb (.slice none 0 0) (.slice none 0 0) [] []:=
 ⟨h.m,h.cq,h.hC,h.own,h.hn,h.hz,h.rk,⟨none,0,rfl,aqm _,.inl rfl⟩,⟨none,0,rfl,aqm _,.inl rfl⟩,h.e⟩
theorem pW.ais{va':Value}{a':List Int}(h:pW H ro nn fb tb c C w H' ro' l V ch par kb va vb a b)(r:FT H' ro' H.size va' a'):pW H ro nn fb tb c C w H' ro' l V ch par kb va' vb a' b:=
 ⟨h.m,h.cq,h.hC,h.own,h.hn,h.hz,h.rk,r,h.rb,h.e⟩
theorem pW.TH{vb':Value}{b':List Int}(h:pW H ro nn fb tb c C w H' ro' l V ch par kb va vb a b)(r:FT H' ro' H.size vb' b'):pW H ro nn fb tb c C w H' ro' l V ch par kb va vb' a b':=
 ⟨h.m,h.cq,h.hC,h.own,h.hn,h.hz,h.rk,h.ra,r,h.e⟩
theorem pW.D9{H3:Hp}{vo:Value}{out:List Int}{nb JQ fo:Option Nat}(h:pW H ro nn fb tb c C w H' ro' l V ch par kb va vb a b)(bx:H'.own H.size=some [vb])(so:Sl H' 1 vo out.length (out.map i64) fo)
  (hd:∀z,nb=some z∨fo=some z→H.size<z∧z<H'.size∧ro' z= .no)(Vs:∀z,nb=some z→fo=some z→False)(e3:ag (fun z=>nb=some z) H' H3)(GF:JQ=nb∨∃z,JQ=some z∧H'.size≤z∧z<H3.size):
  pW H ro nn fb tb c C w H3 ro' l V ch par kb va vb a b∧H3.own H.size=some [vb]∧Sl H3 1 vo out.length (out.map i64) fo∧(∀z,JQ=some z∨fo=some z→H.size<z∧z<H3.size∧ro' z= .no)∧(∀z,JQ=some z→fo=some z→False):=by
 have mI:=aB bx
 have hs:=e3.size
 refine⟨h.VV e3 (fun z hz=>by have:=hd z (.inl hz);exact⟨by omega,this.2.2⟩),e3.own bx (fun hz=>by have:=hd _ (.inl hz);omega),so.ext e3 (fun z h1 h2=>Vs z h2 h1),fun z hz=>?_,fun z h1 h2=>?_⟩
 ·rcases hz with hz|hz
  ·rcases GF with h1| ⟨y,h1,h2,h3⟩
   ·rw[h1]at hz
    have:=hd z (.inl hz)
    exact⟨this.1,by omega,this.2.2⟩
   ·rw[h1]at hz
    injection hz with hz
    subst hz
    exact⟨by omega,h3,h.hz _ h2⟩
  ·have:=hd z (.inr hz)
   exact⟨this.1,by omega,this.2.2⟩
 ·rcases GF with h3| ⟨y,h3,h4,h5⟩
  ·exact Vs z (by rw[←h3];exact h1) h2
  ·rw[h3]at h1
   injection h1 with h1
   have:=hd z (.inr h2)
   omega
def TI(H0:Hp)(Zp:Nat→Rl)(nn fb tb c:Nat)(C:Nat→Prop)(w:Nw)(lt:Int→Int→Bool)(rows:Int→List Int)(W0:List Int)(g:Int)(IF:Int→List Int)(k ia ib io:Nat)(pn:Nat→Prop)(H:Hp)(va vb vn vo:Value):Prop:=
 ∃ (a b now out:List Int) (nb fo:Option Nat) (ro:Nat→Rl) (l:List Value) (V:Int→Value) (ch:Int→List Int) (par:Int→Int) (kb:Int→Option Nat),
  pW H0 Zp nn fb tb c C w H ro l V ch par kb va vb a b∧iS (aG w) lt ch par rows (now++(a++(b++(out++W0))))∧om (aG w) ch g k ia ib io a b now out∧pn now.length∧
  H.own H0.size=some [vb]∧ro H0.size= .no∧I8 H vn now nb∧Sl H 1 vo out.length (out.map i64) fo∧(∀z,nb=some z∨fo=some z→H0.size<z∧z<H.size∧ro z= .no)∧(∀z,nb=some z→fo=some z→False)∧(∀z∈W0,ch z=IF z)
theorem Ea(h0:pW H ro nn fb tb c C w H ro l V ch par kb va vb a b)(aN:∀a b,aQ w a b=true→lt a b=true)(f0:iS (aG w) lt ch par rows (a++(b++W0)))(hra:FO ch a)(Zr:FO ch b)(hg:∀c,c∈a∨c∈b→aG w c=g):
  af Tryz.prog kV [ptr fb,.iface 154 (ptr nn),va,vb] H fun v H'=>ax (∃out ro' l' V' dS bD ri vo fo,v= .tuple [vo,.bool true].toArray∧pW H ro nn fb tb c C w H' ro' l' V' dS bD ri (.slice none 0 0) (.slice none 0 0) [] []∧
   Sl H' 1 vo out.length (out.map i64) fo∧(∀z,fo=some z→H.size≤z∧ro' z= .no)∧iS (aG w) lt dS bD rows (out++W0)∧FO dS out∧(∀c∈out,aG w c=g)∧∀z∈W0,dS z=ch z):=by
 have xW:=h0.cq.Fe
 obtain⟨aa,ca,rfl,hca⟩:=h0.ra.cap
 obtain⟨ab,cb,rfl,Yx⟩:=h0.rb.cap
 obtain⟨n1,n2,n3⟩:=aqR.1 f0.wn
 have bH:∀x∈a++(b++W0),(0≤x∧x<w.cs.length)∧par x= -1:=fun x hx=>⟨f0.Tt (hm:=aG w) hx,(f0.wm x hx).1⟩
 have hla:=cf n1 fun c hc=>(bH c (aqH _ hc)).1
 have FX:=cf (aqR.1 n2).1 fun c hc=>(bH c (arG _ (aqH _ hc))).1
 refine EL vq ⟨rfl,?_⟩
 refine v1 lh.eq_1 ?_
 have e1:ag (fun z=>H.size≤z) H (H.new 30 [.slice ab b.length cb]):=((ag.refl _ _).new _ _:ah H _).mono fun _ _ h=>h.elim
 have bx1:(H.new 30 [.slice ab b.length cb]).own H.size=some [.slice ab b.length cb]:=az _ _ _
 have z1:(H.new 30 [.slice ab b.length cb]).size=H.size+1:=am _ _ _
 have h1:=h0.VV e1 (fun z hz=>⟨hz,h0.hz z hz⟩)
 generalize H.new 30 [.slice ab b.length cb]=H1 at*
 refine(vY h1.m h1.ra.rd (fun x hx=>bH x (aqH _ hx)) hra (by omega)).mono ?_
 rintro _ H' ⟨rfl,e⟩
 obtain rfl:=e.symm
 refine v1 (ae bx1) ?_
 refine(vY h1.m h1.rb.rd (fun x hx=>bH x (arG _ (aqH _ hx))) Zr (by omega)).mono ?_
 rintro _ H' ⟨rfl,e⟩
 obtain rfl:=e.symm
 refine vs ?_
 refine(nV (H:=H1) jb [ptr H.size] (fun x=>decide (x∈b)) (fun H'=>H'=H1) rfl (fun H' hI=>by rw[hI];exact h1.ra.rd) (by kernel_rfl) (fun H' x hx hI=>?_) (by omega)).mono ?_
 ·rw[hI]
  exact AB bx1 h1.rb.rd (by omega) x
 rintro _ H' ⟨rfl,e⟩
 obtain rfl:=e.symm
 have adK:(a.any fun x=>decide (x∈b))=false:=arY.2 fun x hx=>by
  simp only[aqI]
  exact fun hb=>n3 x hx x (aqH _ hb) rfl
 rw[adK]
 refine vs ?_
 have i0:om (aG w) ch g 0 0 0 0 a b [] []:=⟨hra,Zr,List.Pairwise.nil,fun _ _=>arU _,fun _ _=>arU _,by simp,by simp,fun c hc=>hg c (by simpa using hc)⟩
 have d0:∀z,((none:Option Nat)=some z∨(none:Option Nat)=some z)→H.size<z∧z<H1.size∧ro z= .no:=fun z hz=>by rcases hz with h|h<;>cases h
 have d00:∀z,(none:Option Nat)=some z→(none:Option Nat)=some z→False:=fun z h=>by cases h
 have cz0:TI H ro nn fb tb c C w lt rows W0 g ch 0 0 0 0 (fun n=>n≤1) H1 (.slice aa a.length ca) (.slice ab b.length cb) (.slice none 0 0) (.slice none 0 0):=
  ⟨a,b,[],[],none,none,ro,l,V,ch,par,kb,h1,f0,i0,arU _,bx1,h0.hz _ (aqm _),I8.nil _ _,Sl.nil _ _,d0,d00,fun _ _=>rfl⟩
 refine aY.intro (fun mm env H'=>∃ (k:Nat) (va vb vn vo:Value),mm=w.cs.length+1 - k∧TI H ro nn fb tb c C w lt rows W0 g ch k k k k (fun n=>n≤1) H' va vb vn vo∧
  env=[(0,ptr fb),(1,.iface 154 (ptr nn)),(2,va),(7,ptr H.size),(10,vo),(11,vn),(12,i64 k)]) _ ⟨0,_,_,_,_,rfl,cz0,rfl⟩ ?_
 clear h1 i0 bx1 f0 hra Zr hg bH n1 n2 n3 hla FX adK h0 e1 d0 d00 cz0 hca Yx
 rintro mm env H2 ⟨k,va,vb,vn,vo,rfl,Uy,rfl⟩
 obtain⟨a,b,now,out,nb,fo,oL,l2,V2,lK,jx,EB,h2,f2,i2,Rm,qf,EC,FA,ED,kJ,rD,GJ⟩:=id Uy
 obtain⟨aa,ca,rfl,hca⟩:=h2.ra.cap
 obtain⟨ab,cb,rfl,Yx⟩:=h2.rb.cap
 obtain⟨an,cn,rfl,Q7⟩:=FA.cap
 obtain⟨ao,co,rfl⟩:=Sl.shape ED
 have O5:=aB qf
 have gI:=f2.wn
 have cM:=cf gI fun c hc=>f2.Tt (hm:=aG w) hc
 simp only[aqj]at cM
 refine v1 (ae qf) ?_
 rw[wrap64 (n:=(a.length:Int)+b.length) (by omega) (by omega),wrap64 (n:=(a.length:Int)+b.length+now.length) (by omega) (by omega)]
 refine ar.dec (fun X4=>?_) (fun X4=>?_)
 rotate_left
 ·refine vs ?_
  have Sp:a=[]:=aqN.1 (by omega)
  have R7:b=[]:=aqN.1 (by omega)
  have LH:now=[]:=aqN.1 (by omega)
  subst Sp R7 LH
  refine⟨out,oL,l2,V2,lK,jx,EB,_,fo,rfl,h2.air,ED,fun z hz=>⟨by have:=kJ z (.inr hz);omega,(kJ z (.inr hz)).2.2⟩,f2,i2.ro,fun c hc=>i2.hg c (.inr (.inr (.inr hc))),GJ⟩
 have bf:∀z,(lK z).length≤w.cs.length:=fun z=>cf (f2.pr.nd z) fun c hc=>h2.m.HU z c hc
 have hk:k≤w.cs.length:=by
  by_cases Sp:a=[]
  ·by_cases R7:b=[]
   ·obtain⟨x,hx⟩:∃x,x∈now:=by
     cases now with
     |nil=>subst Sp R7;simp at X4
     |cons x r=>exact⟨x,by simp⟩
    have:=i2.kn x hx
    have:=bf x
    omega
   ·obtain⟨x,r,rfl⟩:=arq R7
    have:=i2.kb x (by simp)
    have:=bf x
    omega
  ·obtain⟨x,r,rfl⟩:=arq Sp
   have:=i2.ka x (by simp)
   have:=bf x
   omega
 clear X4 bf cM gI
 rw[TJ,US,XR,XS]
 refine K9 (fun e h=>∃va vb vn vo,TI H ro nn fb tb c C w lt rows W0 g ch k (k+1) k k (fun n=>n≤2) h va vb vn vo∧Zq e fb nn H.size va vo vn k) ?_ ?_
 ·refine vs ?_
  refine ar.dec (fun ga=>?_) (fun ga=>?_)
  ·obtain⟨x,r,rfl⟩:∃x r,a=x::r:=arq (fun h=>by rw[h]at ga;simp at ga)
   obtain⟨pb,po,pl,pc,hv,fU,QX,cj,hpc⟩:=h2.ra.head
   injection hv with EE CH hv3
   subst EE hv3
   refine vs ?_
   refine⟨⟨by omega,by omega⟩,?_⟩
   refine v5 fU cj Int.toNat_zero aqT Nat.add_zero ?_
   refine(dq h2.m x).mono ?_
   rintro _ H' ⟨rfl,e⟩
   obtain rfl:=e.symm
   refine vs ?_
   refine ar.dec (fun gd=>?_) (fun gd=>?_)
   ·refine vs ?_
    refine⟨⟨by omega,by omega⟩,?_⟩
    refine v5 fU cj Int.toNat_zero aqT Nat.add_zero ?_
    refine FA.push x (by omega) fun w' H3 JQ GF Rn e3=>?_
    obtain⟨h3,Eb,O6,HD,Ec⟩:=h2.D9 qf ED kJ rD e3 GF
    refine vs ?_
    have vO:(x::r).length=r.length+1:=aqx
    refine⟨⟨by omega,by omega,by omega,by omega⟩,?_⟩
    refine vs ?_
    have fp:now++(x::r++(b++(out++W0)))=now++[x]++(r++(b++(out++W0))):=by simp
    rw[fp]at f2
    exact⟨_,_,_,_,⟨r,b,now++[x],out,JQ,fo,oL,l2,V2,lK,jx,EB,h3.ais (h3.ra.tail _),f2,i2.acX (by omega),by rw[aqj,aqn];omega,Eb,EC,Rn,O6,HD,Ec,GJ⟩,rfl,rfl,rfl,rfl,rfl,rfl,rfl⟩
   ·refine vs ?_
    exact⟨_,_,_,_,⟨x::r,b,now,out,nb,fo,oL,l2,V2,lK,jx,EB,h2,f2,i2.WL (fun c hc=>by injection hc with hc;rw[←hc];omega),by omega,qf,EC,FA,ED,kJ,rD,GJ⟩,rfl,rfl,rfl,rfl,rfl,rfl,rfl⟩
  ·refine vs ?_
   have Sp:a=[]:=aqN.1 (by omega)
   exact⟨_,_,_,_,⟨a,b,now,out,nb,fo,oL,l2,V2,lK,jx,EB,h2,f2,i2.WL (fun c hc=>by rw[Sp]at hc;cases hc),by omega,qf,EC,FA,ED,kJ,rD,GJ⟩,rfl,rfl,rfl,rfl,rfl,rfl,rfl⟩
 clear Uy h2 f2 i2 Rm qf EC FA ED kJ rD GJ O5 hca Yx Q7
 rintro e2 H2 ⟨va,vb,vn,vo,Uy,hv⟩
 obtain⟨a,b,now,out,nb,fo,oL,l2,V2,lK,jx,EB,h2,f2,i2,Rm,qf,EC,FA,ED,kJ,rD,GJ⟩:=id Uy
 obtain⟨ab,cb,rfl,Yx⟩:=h2.rb.cap
 obtain⟨an,cn,rfl,Q7⟩:=FA.cap
 have O5:=aB qf
 obtain⟨I9,EE,CH,Ja,pX,pY,pZ⟩:=hv
 refine K9 (fun e h=>∃va vb vn vo,TI H ro nn fb tb c C w lt rows W0 g ch k (k+1) (k+1) k (fun n=>n≤3) h va vb vn vo∧Zq e fb nn H.size va vo vn k) ?_ ?_
 ·refine v8 I9 EE CH Ja pX pY pZ (ae qf) ?_
  refine ar.dec (fun gb=>?_) (fun gb=>?_)
  ·obtain⟨x,r,rfl⟩:∃x r,b=x::r:=arq (fun h=>by rw[h]at gb;simp at gb)
   obtain⟨pb,po,pl,pc,hv,fU,QX,cj,hpc⟩:=h2.rb.head
   injection hv with TK adL TL
   subst TK TL
   refine v8 I9 EE CH Ja pX pY pZ (ae qf) ?_
   refine⟨⟨by omega,by omega⟩,?_⟩
   refine v12 fU cj Int.toNat_zero aqT Nat.add_zero I9 EE CH Ja pX pY pZ ?_
   refine(dq h2.m x).mono ?_
   rintro _ H' ⟨rfl,e⟩
   obtain rfl:=e.symm
   refine v7 I9 EE CH Ja pX pY pZ ?_
   have vO:(x::r).length=r.length+1:=aqx
   have fp:(now++(a++(x::r++(out++W0)))).Perm (now++[x]++(a++(r++(out++W0)))):=by
    rw[arP]
    intro z
    simp only[arZ,arX,are,List.count_nil]
    omega
   refine ar.dec (fun gd=>?_) (fun gd=>?_)
   ·refine vs ?_
    replace f2:=f2.perm fp
    refine gP.intro (fun _=>True) trivial ?_
    refine vs ?_
    refine zg.intro ?_ ?_
    ·refine v6 (ae qf) fU cj Int.toNat_zero aqT Nat.add_zero ?_
     refine⟨⟨by omega,by omega⟩,?_⟩
     refine v6 (ae qf) fU cj Int.toNat_zero aqT Nat.add_zero ?_
     refine zg.intro ?_ ?_
     ·refine v6 (ae qf) fU cj Int.toNat_zero aqT Nat.add_zero ?_
      refine zg.intro ?_ ?_
      ·refine v6 (ae qf) fU cj Int.toNat_zero aqT Nat.add_zero ?_
       refine zg.intro ?_ ?_
       ·refine vs ?_
        refine FA.push x (by omega) fun w' H3 JQ GF Rn e3=>?_
        obtain⟨h3,Eb,O6,HD,Ec⟩:=h2.D9 qf ED kJ rD e3 GF
        refine v8 (ae Eb) Eb fU cj Int.toNat_zero aqT Nat.add_zero aqa ?_
        refine⟨⟨by omega,by omega,by omega,by omega⟩,?_⟩
        refine v8 (ae Eb) Eb fU cj Int.toNat_zero aqT Nat.add_zero aqa ?_
        have e4:∀v,ag (fun z=>z=H.size) H3 (H3.wr H.size [v]):=fun v=>(ag.refl (fun z=>z=H.size) _).wr (fun _=>rfl) _
        have VW:∀v,(H3.wr H.size [v]).own H.size=some [v]:=fun v=>ai Eb
        have h4:=fun v=>h3.VV (e4 v) (fun z hz=>by rw[hz];exact⟨aqm _,EC⟩)
        exact⟨_,_,_,_,⟨a,r,now++[x],out,JQ,fo,oL,l2,V2,lK,jx,EB,(h4 _).TH ((h4 _).rb.tail _),f2,i2.MW (by omega),by rw[aqj,aqn];omega,VW _,EC,Rn.ext (e4 _) (fun z hz e=>by have:=HD z (.inl hz);omega),O6.ext (e4 _) (fun z hz e=>by have:=HD z (.inr hz);omega),fun z hz=>by rw[cG];exact HD z hz,Ec,GJ⟩,rfl,rfl,rfl,rfl,rfl,rfl,rfl⟩
       ·refine v6 (ae qf) fU cj Int.toNat_zero aqT Nat.add_zero ?_
        refine⟨⟨by omega,by omega,by omega,by omega⟩,?_⟩
        refine v6 (ae qf) fU cj Int.toNat_zero aqT Nat.add_zero ?_
        refine FA.push x (by omega) fun w' H3 JQ GF Rn e3=>?_
        obtain⟨h3,Eb,O6,HD,Ec⟩:=h2.D9 qf ED kJ rD e3 GF
        refine v8 (ae Eb) Eb fU cj Int.toNat_zero aqT Nat.add_zero aqa ?_
        have e4:∀v,ag (fun z=>z=H.size) H3 (H3.wr H.size [v]):=fun v=>(ag.refl (fun z=>z=H.size) _).wr (fun _=>rfl) _
        have VW:∀v,(H3.wr H.size [v]).own H.size=some [v]:=fun v=>ai Eb
        have h4:=fun v=>h3.VV (e4 v) (fun z hz=>by rw[hz];exact⟨aqm _,EC⟩)
        exact⟨_,_,_,_,⟨a,r,now++[x],out,JQ,fo,oL,l2,V2,lK,jx,EB,(h4 _).TH ((h4 _).rb.tail _),f2,i2.MW (by omega),by rw[aqj,aqn];omega,VW _,EC,Rn.ext (e4 _) (fun z hz e=>by have:=HD z (.inl hz);omega),O6.ext (e4 _) (fun z hz e=>by have:=HD z (.inr hz);omega),fun z hz=>by rw[cG];exact HD z hz,Ec,GJ⟩,rfl,rfl,rfl,rfl,rfl,rfl,rfl⟩
      ·refine v6 (ae qf) fU cj Int.toNat_zero aqT Nat.add_zero ?_
       refine⟨⟨by omega,by omega,by omega,by omega⟩,?_⟩
       refine v6 (ae qf) fU cj Int.toNat_zero aqT Nat.add_zero ?_
       refine FA.push x (by omega) fun w' H3 JQ GF Rn e3=>?_
       obtain⟨h3,Eb,O6,HD,Ec⟩:=h2.D9 qf ED kJ rD e3 GF
       refine v8 (ae Eb) Eb fU cj Int.toNat_zero aqT Nat.add_zero aqa ?_
       have e4:∀v,ag (fun z=>z=H.size) H3 (H3.wr H.size [v]):=fun v=>(ag.refl (fun z=>z=H.size) _).wr (fun _=>rfl) _
       have VW:∀v,(H3.wr H.size [v]).own H.size=some [v]:=fun v=>ai Eb
       have h4:=fun v=>h3.VV (e4 v) (fun z hz=>by rw[hz];exact⟨aqm _,EC⟩)
       exact⟨_,_,_,_,⟨a,r,now++[x],out,JQ,fo,oL,l2,V2,lK,jx,EB,(h4 _).TH ((h4 _).rb.tail _),f2,i2.MW (by omega),by rw[aqj,aqn];omega,VW _,EC,Rn.ext (e4 _) (fun z hz e=>by have:=HD z (.inl hz);omega),O6.ext (e4 _) (fun z hz e=>by have:=HD z (.inr hz);omega),fun z hz=>by rw[cG];exact HD z hz,Ec,GJ⟩,rfl,rfl,rfl,rfl,rfl,rfl,rfl⟩
     ·refine v6 (ae qf) fU cj Int.toNat_zero aqT Nat.add_zero ?_
      refine⟨⟨by omega,by omega,by omega,by omega⟩,?_⟩
      refine v6 (ae qf) fU cj Int.toNat_zero aqT Nat.add_zero ?_
      refine FA.push x (by omega) fun w' H3 JQ GF Rn e3=>?_
      obtain⟨h3,Eb,O6,HD,Ec⟩:=h2.D9 qf ED kJ rD e3 GF
      refine v8 (ae Eb) Eb fU cj Int.toNat_zero aqT Nat.add_zero aqa ?_
      have e4:∀v,ag (fun z=>z=H.size) H3 (H3.wr H.size [v]):=fun v=>(ag.refl (fun z=>z=H.size) _).wr (fun _=>rfl) _
      have VW:∀v,(H3.wr H.size [v]).own H.size=some [v]:=fun v=>ai Eb
      have h4:=fun v=>h3.VV (e4 v) (fun z hz=>by rw[hz];exact⟨aqm _,EC⟩)
      exact⟨_,_,_,_,⟨a,r,now++[x],out,JQ,fo,oL,l2,V2,lK,jx,EB,(h4 _).TH ((h4 _).rb.tail _),f2,i2.MW (by omega),by rw[aqj,aqn];omega,VW _,EC,Rn.ext (e4 _) (fun z hz e=>by have:=HD z (.inl hz);omega),O6.ext (e4 _) (fun z hz e=>by have:=HD z (.inr hz);omega),fun z hz=>by rw[cG];exact HD z hz,Ec,GJ⟩,rfl,rfl,rfl,rfl,rfl,rfl,rfl⟩
    ·refine v6 (ae qf) fU cj Int.toNat_zero aqT Nat.add_zero ?_
     refine⟨⟨by omega,by omega,by omega,by omega⟩,?_⟩
     refine v6 (ae qf) fU cj Int.toNat_zero aqT Nat.add_zero ?_
     refine⟨⟨by omega,by omega⟩,?_⟩
     refine v6 (ae qf) fU cj Int.toNat_zero aqT Nat.add_zero ?_
     refine FA.push x (by omega) fun w' H3 JQ GF Rn e3=>?_
     obtain⟨h3,Eb,O6,HD,Ec⟩:=h2.D9 qf ED kJ rD e3 GF
     refine v8 (ae Eb) Eb fU cj Int.toNat_zero aqT Nat.add_zero aqa ?_
     have e4:∀v,ag (fun z=>z=H.size) H3 (H3.wr H.size [v]):=fun v=>(ag.refl (fun z=>z=H.size) _).wr (fun _=>rfl) _
     have VW:∀v,(H3.wr H.size [v]).own H.size=some [v]:=fun v=>ai Eb
     have h4:=fun v=>h3.VV (e4 v) (fun z hz=>by rw[hz];exact⟨aqm _,EC⟩)
     exact⟨_,_,_,_,⟨a,r,now++[x],out,JQ,fo,oL,l2,V2,lK,jx,EB,(h4 _).TH ((h4 _).rb.tail _),f2,i2.MW (by omega),by rw[aqj,aqn];omega,VW _,EC,Rn.ext (e4 _) (fun z hz e=>by have:=HD z (.inl hz);omega),O6.ext (e4 _) (fun z hz e=>by have:=HD z (.inr hz);omega),fun z hz=>by rw[cG];exact HD z hz,Ec,GJ⟩,rfl,rfl,rfl,rfl,rfl,rfl,rfl⟩
   ·refine vs ?_
    exact⟨_,_,_,_,⟨a,x::r,now,out,nb,fo,oL,l2,V2,lK,jx,EB,h2,f2,i2.WM (fun c hc=>by injection hc with hc;rw[←hc];omega),by omega,qf,EC,FA,ED,kJ,rD,GJ⟩,rfl,rfl,rfl,rfl,rfl,rfl,rfl⟩
  ·refine v7 I9 EE CH Ja pX pY pZ ?_
   have R7:b=[]:=aqN.1 (by omega)
   exact⟨_,_,_,_,⟨a,b,now,out,nb,fo,oL,l2,V2,lK,jx,EB,h2,f2,i2.WM (fun c hc=>by rw[R7]at hc;cases hc),by omega,qf,EC,FA,ED,kJ,rD,GJ⟩,rfl,rfl,rfl,rfl,rfl,rfl,rfl⟩
 clear Uy h2 f2 i2 Rm qf EC FA ED kJ rD GJ O5 Yx Q7 I9 EE CH Ja pX pY pZ
 rintro e3 H2 ⟨va,vb,vn,vo,Uy,hv⟩
 obtain⟨a,b,now,out,nb,fo,oL,l2,V2,lK,jx,EB,h2,f2,i2,Rm,qf,EC,FA,ED,kJ,rD,GJ⟩:=id Uy
 obtain⟨an,cn,rfl,Q7⟩:=FA.cap
 obtain⟨ao,co,rfl⟩:=Sl.shape ED
 have O5:=aB qf
 have cM:=cf f2.wn fun c hc=>f2.Tt (hm:=aG w) hc
 simp only[aqj]at cM
 obtain⟨I9,EE,CH,Ja,pX,pY,pZ⟩:=hv
 refine K9 (fun e h=>∃va vb vn vo,TI H ro nn fb tb c C w lt rows W0 g ch k (k+1) (k+1) (k+1) (fun n=>n=0∨n=2) h va vb vn vo∧Zq e fb nn H.size va vo vn k) ?_ ?_
 ·refine v8 I9 EE CH Ja pX pY pZ (ae qf) ?_
  rw[if_neg (by decide:¬ (2:Int)=0),Int.tmod_eq_emod_of_nonneg (by omega)]
  refine v7 I9 EE CH Ja pX pY pZ ?_
  refine ar.dec (fun gp=>?_) (fun gp=>?_)
  ·obtain⟨x,r,rfl⟩:∃x r,now=x::r:=arq (fun h=>by rw[h]at gp;simp at gp)
   have vO:(x::r).length=r.length+1:=aqx
   obtain⟨a',c',Pp,NF,hn'⟩:=id FA
   injection Pp with TK adL TL
   subst TK TL
   obtain⟨pb,po,pl,rfl,hpn,QP,RO,hpt⟩:=hn'.resolve_left (by omega)
   have cj:pl[po]? =some (i64 x):=by
    have h7:((x::r).map i64)[0]? =some (i64 x):=rfl
    rw[←hpt,aqG,if_pos (by simp),aqJ]at h7
    exact h7
   have fU:=ae QP
   refine v7 I9 EE CH Ja pX pY pZ ?_
   refine⟨⟨by omega,by omega⟩,?_⟩
   refine v5 fU cj Int.toNat_zero aqT Nat.add_zero ?_
   refine Te ED x (by omega) fun w' H3 Tf RL O6 e3=>?_
   have h3:=h2.VV e3 (fun z hz=>by have:=kJ z (.inr hz);exact⟨by omega,this.2.2⟩)
   have Eb:=e3.own qf (fun hz=>by have:=kJ _ (.inr hz);omega)
   have Rn:=FA.ext e3 (fun z h1 h2=>rD z h1 h2)
   have E6:=e3.size
   refine v7 I9 EE CH Ja pX pY pZ ?_
   refine⟨⟨by omega,by omega,by omega,by omega⟩,?_⟩
   refine v7 I9 EE CH Ja pX pY pZ ?_
   have fp:(x::r++(a++(b++(out++W0)))).Perm (r++(a++(b++(out++[x]++W0)))):=by
    rw[arP]
    intro z
    simp only[arZ,arX,are,List.count_nil]
    omega
   have HD:∀z,nb=some z∨Tf=some z→H.size<z∧z<H3.size∧oL z= .no:=fun z hz=>by
    rcases hz with hz|hz
    ·have:=kJ z (.inl hz)
     exact⟨this.1,by omega,this.2.2⟩
    ·rcases RL with h1| ⟨y,h1,ST,Uf⟩
     ·rw[h1]at hz
      have:=kJ z (.inr hz)
      exact⟨this.1,by omega,this.2.2⟩
     ·rw[h1]at hz
      injection hz with hz
      subst hz
      exact⟨by omega,Uf,h2.hz _ ST⟩
   have Ec:∀z,nb=some z→Tf=some z→False:=fun z h1 ST=>by
    rcases RL with Uf| ⟨y,Uf,h4',h5'⟩
    ·exact rD z h1 (by rw[←Uf];exact ST)
    ·rw[Uf]at ST
     injection ST with ST
     have:=kJ z (.inl h1)
     omega
   exact⟨_,_,_,_,⟨a,b,r,out++[x],nb,Tf,oL,l2,V2,lK,jx,EB,h3,f2.perm fp,i2.ahu,by omega,Eb,EC,Rn.tail _,O6,HD,Ec,GJ⟩,rfl,rfl,rfl,rfl,rfl,rfl,rfl⟩
  ·refine v7 I9 EE CH Ja pX pY pZ ?_
   exact⟨_,_,_,_,⟨a,b,now,out,nb,fo,oL,l2,V2,lK,jx,EB,h2,f2,⟨i2.ra,i2.rb,i2.ro,i2.ka,i2.kb,i2.kn,fun c hc=>by have:=i2.ko c hc;omega,i2.hg⟩,by omega,qf,EC,FA,ED,kJ,rD,GJ⟩,rfl,rfl,rfl,rfl,rfl,rfl,rfl⟩
 clear Uy h2 f2 i2 Rm qf EC FA ED kJ rD GJ O5 Q7 I9 EE CH Ja pX pY pZ cM
 rintro e4 H2 ⟨va,vb,vn,vo,Uy,hv⟩
 obtain⟨a,b,now,out,nb,fo,oL,l2,V2,lK,jx,EB,h2,f2,i2,Rm,qf,EC,FA,ED,kJ,rD,GJ⟩:=id Uy
 obtain⟨an,cn,rfl,Q7⟩:=FA.cap
 have O5:=aB qf
 obtain⟨I9,EE,CH,Ja,pX,pY,pZ⟩:=hv
 refine v8 I9 EE CH Ja pX pY pZ (ae qf) ?_
 refine ar.dec (fun gp=>?_) (fun gp=>?_)
 ·obtain⟨x,y,rfl⟩:∃x y,now=[x,y]:=by
   match now,gp with
   | [x,y],_=>exact⟨x,y,rfl⟩
   | [],gp=>simp at gp
   | [_],gp=>simp at gp
   |_::_::_::_,gp=>simp at gp;omega
  obtain⟨a',c',Pp,NF,hn'⟩:=id FA
  injection Pp with TK adL TL
  subst TK TL
  have tP:([x,y]:List Int).length=2:=rfl
  obtain⟨pb,po,pl,rfl,hpn,QP,RO,hpt⟩:=hn'.resolve_left (by omega)
  have Zt:pl[po]? =some (i64 x):=by
   have h7:(([x,y]:List Int).map i64)[0]? =some (i64 x):=rfl
   rw[←hpt,aqG,if_pos (by simp),aqJ]at h7
   exact h7
  have Zu:pl[po+1]? =some (i64 y):=by
   have h7:(([x,y]:List Int).map i64)[1]? =some (i64 y):=rfl
   rw[←hpt,aqG,if_pos (by simp),aqJ]at h7
   exact h7
  have fU:=ae QP
  refine v7 I9 EE CH Ja pX pY pZ ?_
  refine⟨⟨by omega,by omega⟩,?_⟩
  refine v12 fU Zt Int.toNat_zero aqT Nat.add_zero I9 EE CH Ja pX pY pZ ?_
  refine⟨⟨by omega,by omega⟩,?_⟩
  refine v11 fU Zu Int.toNat_one Nat.one_mul I9 EE CH Ja pX pY pZ ?_
  have Jl:=i2.kn x (by simp)
  have hyn:=i2.kn y (by simp)
  have PP:=i2.hg x (.inr (.inr (.inl (by simp))))
  have hyg:=i2.hg y (.inr (.inr (.inl (by simp))))
  refine(Fz h2.m h2.hz h2.own h2.cq h2.hC aN (W:=a++(b++(out++W0))) f2 (by omega) (by omega)).mono ?_
  rintro _ H3 ⟨p,q,Ro,l3,V3,Zw,rfl,Rx,m3,f3,c3,r3,SC,e3⟩
  have adM:∀z,oL z= .no→¬KC oL z:=fun z h1 h2=>by
   rcases h2 with (h2| ⟨_,h2⟩)|h2<;>(rw[h1]at h2;cases h2)
  have E6:=e3.size
  obtain⟨rest,ho⟩:=h2.own
  have aiv:¬KC oL nn:=fun h=>by
   have:=h2.hn
   rcases h with (h| ⟨_,h⟩)|h<;>(rw[this]at h;cases h)
  have h3:pW H ro nn fb tb c C w H3 Ro l3 V3 (aA lK p (lK p++[q])) (aK jx q p) Zw va vb a b:=by
   refine⟨m3,c3,fun z hz=>?_,⟨rest,e3.own ho aiv⟩,?_,SC,h2.rk.trans r3 h2.e.size,h2.ra.ext e3 (fun z _ h=>h) (fun z hz h=>r3.kcs hz h),h2.rb.ext e3 (fun z _ h=>h) (fun z hz h=>r3.kcs hz h),?_⟩
   ·have h5:=h2.hC z hz
    rw[r3.o z (h2.cq.slt z hz) (fun x e=>by rw[h5]at e;cases e),h5]
   ·rw[r3.o nn (aB ho) (fun x e=>by rw[h2.hn]at e;cases e),h2.hn]
   ·exact⟨aqW h2.e.size e3.size,fun z hz hn=>by
     rw[e3.aM z (aqw hz h2.e.size) (fun h=>hn (h2.rk.kcs hz h)),h2.e.aM z hz hn]⟩
  have Eb:=e3.own qf (adM _ EC)
  have O6:=ED.ext e3 (fun z hz=>adM z (kJ z (.inr hz)).2.2)
  have f4:ah H3 (H3.new 3 [i64 p]):=(ag.refl _ _).new _ _
  have f4':ag (fun _=>False) H3 (H3.new 3 [i64 p]):=f4
  have h4:=h3.VV f4' (fun z hz=>hz.elim)
  have nw4:I8 (H3.new 3 [i64 p]) (.slice (some ⟨H3.size,0,none⟩) 1 1) [p] (some H3.size):=I8.lit p
  have hpn:=aqu.1 f3.wn
  have B8:p∉a∧p∉b∧p∉out∧p∉W0:=by
   have:=hpn.1
   simp only[aqq,not_or]at this
   exact⟨this.1,this.2.1,this.2.2.1,this.2.2.2⟩
  have i4:=i2.acZ (p:=p) (q:=q) (aqm _) (Rx.imp (fun h=>h.1) (fun h=>h.1)) ⟨B8.1,B8.2.1,B8.2.2.1⟩
  have hz4:(H3.new 3 [i64 p]).size=H3.size+1:=am _ _ _
  have hd4:∀z,some H3.size=some z∨fo=some z→H.size<z∧z< (H3.new 3 [i64 p]).size∧Ro z= .no:=fun z hz=>by
   rcases hz with hz|hz
   ·injection hz with hz
    subst hz
    exact⟨by omega,by omega,SC _ (aqm _)⟩
   ·have:=kJ z (.inr hz)
    exact⟨this.1,by omega,r3.none this.2.1 this.2.2⟩
  have aiw:∀z,some H3.size=some z→fo=some z→False:=fun z h1 ST=>by
   injection h1 with h1
   have:=kJ z (.inr ST)
   omega
  refine v7 I9 EE CH Ja pX pY pZ ?_
  rw[wrap64 (n:=(k:Int)+1) (by omega) (by omega)]
  refine⟨w.cs.length+1 - (k+1),by omega,k+1,va,vb,_,vo,rfl,⟨a,b,[p],out,some H3.size,fo,Ro,l3,V3,_,_,Zw,h4,f3,i4,by simp,f4.own Eb (fun h=>h),r3.none O5 EC,nw4,O6.ext f4 (fun _ _ h=>h),hd4,aiw,fun z hz=>?_⟩,rfl⟩
  unfold aA
  rw[if_neg (fun e=>B8.2.2.2 (by rw[←e];exact hz))]
  exact GJ z hz
 ·refine v7 I9 EE CH Ja pX pY pZ ?_
  have LH:now=[]:=aqN.1 (by omega)
  subst LH
  rw[wrap64 (n:=(k:Int)+1) (by omega) (by omega)]
  exact⟨w.cs.length+1 - (k+1),by omega,k+1,va,vb,_,vo,rfl,⟨a,b,[],out,nb,fo,oL,l2,V2,lK,jx,EB,h2,f2,i2.acY (aqm _),by simp,qf,EC,FA,ED,kJ,rD,GJ⟩,rfl⟩
end
end Go.Proofs.YthpjfeolagohkaaGreat

namespace Go.Proofs.YthpjfeolagohkaaGreat
open Go Go.Vc
structure BnB where
 n:Nat
 c:Nat
 fb:Nat
 tb:Nat
 rp:Nat
structure uE(H:Hp)(ro:Nat→Rl)(B:BnB)(C:Nat→Prop)(w:Nw)(l:List Value)(V:Int→Value)(ch:Int→List Int)(par:Int→Int)(kb:Int→Option Nat)(bX:List Value)(rows:Int→List Int)(rb:Int→Option Nat):Prop where
 own:∃tv,H.own B.n=some [ptr B.c,ptr B.fb,tv]∧Sl H 1 tv bX.length bX (some B.rp)
 row:∀g:Int,0≤g→g<bX.length→∃sv,bX[g.toNat]? =some sv∧Sl H 1 sv (rows g).length ((rows g).map i64) (rb g)
 cells:CQ H B.c C w
 fo:ForM H ro B.fb B.tb w.cs.length l V ch par kb
 hC:∀z,C z→ro z= .cell
 rn:ro B.n= .Tc
 rr:ro B.rp= .MX
 nh:∀ (g:Int) b,0≤g→g<bX.length→rb g=some b→ro b= .row g
 hz:∀z,H.size≤z→ro z= .no
def dJ(ro:Nat→Rl)(z:Nat):Prop:=ro z≠ .no
section
variable {H H' : Hp} {ro ro' : Nat → Rl} {B : BnB} {C T : Nat → Prop} {w w' : Nw} {l l' : List Value} {V V' : Int → Value} {ch dS : Int → List Int} {par bD : Int → Int} {kb ri : Int → Option Nat} {bX : List Value} {rows : Int → List Int} {rb : Int → Option Nat} {lt : Int → Int → Bool} {W W0 L : List Int}
theorem uE.slt(m:uE H ro B C w l V ch par kb bX rows rb):∀z,dJ ro z→z<H.size:=fun z hz=>by
 apply aqt
 intro h
 exact hz (m.hz z (by omega))
theorem fN{ro:Nat→Rl}{z:Nat}{r:Rl}(h:ro z=r)(hr:r≠ .no):dJ ro z:=fun e=>hr (by rw[←h,e])
theorem uE.ext(m:uE H ro B C w l V ch par kb bX rows rb)(e:ag T H H')(hd:∀z,dJ ro z→¬T z):uE H' ro B C w l V ch par kb bX rows rb:=by
 obtain⟨tv,h1,h2⟩:=m.own
 have hs:=e.size
 refine⟨⟨tv,e.own h1 (hd _ (fN m.rn nofun)),h2.ext e (fun b hb=>by injection hb with hb;subst hb;exact hd _ (fN m.rr nofun))⟩,fun g h0 h1=>?_,m.cells.ext e (fun z hz=>hd z (fN (m.hC z hz) nofun)),m.fo.ext e (fun z hz=>?_),m.hC,m.rn,m.rr,m.nh,fun z hz=>m.hz z (by omega)⟩
 ·obtain⟨sv,q1,q2⟩:=m.row g h0 h1
  exact⟨sv,q1,q2.ext e (fun b hb=>hd b (fN (m.nh g b h0 h1 hb) nofun))⟩
 ·rcases hz with h|h| ⟨x,h⟩<;>exact hd z (fN h nofun)
theorem uE.fresh(m:uE H ro B C w l V ch par kb bX rows rb)(e:ah H H'):uE H' ro B C w l V ch par kb bX rows rb:=m.ext e fun _ _ h=>h
theorem uE.aI(m:uE H ro B C w l V ch par kb bX rows rb)(c1:CQ H' B.c C w')(e:ag C H H')(hl:w'.cs.length=w.cs.length):uE H' ro B C w' l V ch par kb bX rows rb:=by
 obtain⟨tv,h1,h2⟩:=m.own
 have hs:=e.size
 have hd:∀z r,ro z=r→r≠ .cell→¬C z:=fun z r h1 h2 hc=>h2 (by rw[←h1,m.hC z hc])
 refine⟨⟨tv,e.own h1 (hd _ _ m.rn nofun),h2.ext e (fun b hb=>by injection hb with hb;subst hb;exact hd _ _ m.rr nofun)⟩,fun g h0 h1=>?_,c1,?_,m.hC,m.rn,m.rr,m.nh,fun z hz=>m.hz z (by omega)⟩
 ·obtain⟨sv,q1,q2⟩:=m.row g h0 h1
  exact⟨sv,q1,q2.ext e (fun b hb=>hd b _ (m.nh g b h0 h1 hb) nofun)⟩
 ·rw[hl]
  refine m.fo.ext e (fun z hz=>?_)
  rcases hz with h|h| ⟨x,h⟩<;>exact hd z _ h nofun
theorem uE.TM(m:uE H ro B C w l V ch par kb bX rows rb)(f:ForM H' ro' B.fb B.tb w.cs.length l' V' dS bD ri)(c1:CQ H' B.c C w)(r:RK H.size ro ro')(hz:∀z,H'.size≤z→ro' z= .no)(e:ag (KC ro) H H'):uE H' ro' B C w l' V' dS bD ri bX rows rb:=by
 obtain⟨tv,h1,h2⟩:=m.own
 have hd:∀z q,ro z=q→(∀x,q≠ .rH x)→q≠ .table→q≠ .cell→¬KC ro z:=fun z q h1 h2 h3 h4 hc=>by
  rcases hc with (hc| ⟨x,hc⟩)|hc
  ·exact h3 (by rw[←h1,hc])
  ·exact h2 x (by rw[←h1,hc])
  ·exact h4 (by rw[←h1,hc])
 have hk:∀z q,ro z=q→q≠ .no→(∀x,q≠ .rH x)→ro' z=q:=fun z q h1 h2 h3=>by
  rw[r.o z (m.slt z (fN h1 h2)) (fun x e=>h3 x (by rw[←h1,e])),h1]
 refine⟨⟨tv,e.own h1 (hd _ _ m.rn nofun nofun nofun),h2.ext e (fun b hb=>by injection hb with hb;subst hb;exact hd _ _ m.rr nofun nofun nofun)⟩,fun g h0 h1=>?_,c1,f,fun z hz=>hk z _ (m.hC z hz) nofun nofun,hk _ _ m.rn nofun nofun,hk _ _ m.rr nofun nofun,fun g b h0 h1 hb=>hk b _ (m.nh g b h0 h1 hb) nofun nofun,hz⟩
 obtain⟨sv,q1,q2⟩:=m.row g h0 h1
 exact⟨sv,q1,q2.ext e (fun b hb=>hd b _ (m.nh g b h0 h1 hb) nofun nofun nofun)⟩
theorem uE.WV(m:uE H ro B C w l V ch par kb bX rows rb){g:Int}(hg:0≤g∧g<bX.length){H1:Hp}(e0:ag (fun z=>rb g=some z) H H1){lb:List Value}(FX:H1.own B.rp=some lb){sv:Value}{L':List Int}{o:Option Nat}(s:Sl H1 1 sv L'.length (L'.map i64) o)(ho:∀b,o=some b→ro b= .no∨ro b= .row g):
  uE (H1.wr B.rp (lb.set g.toNat sv)) (fun z=>if o=some z then .row g else ro z) B C w l V ch par kb (bX.set g.toNat sv) (aA rows g L') (fun k=>if k=g then o else rb k)∧ag (dJ ro) H (H1.wr B.rp (lb.set g.toNat sv))∧
   (∀z,dJ (fun z=>if o=some z then .row g else ro z) z→dJ ro z∨o=some z):=by
 obtain⟨tv,h1,h2⟩:=m.own
 have e:ag (fun z=>z=B.rp) H1 (H1.wr B.rp (lb.set g.toNat sv)):=(ag.refl (fun z=>z=B.rp) _).wr (fun _=>rfl) _
 have QJ:(H1.wr B.rp (lb.set g.toNat sv)).size=H1.size:=cG _ _ _
 have hs0:=e0.size
 have Lj:∀z q,ro z=q→q≠ .no→q≠ .row g→(if o=some z then Rl.row g else ro z)=q:=fun z q h1 h2 h3=>by
  rw[if_neg (fun e=>by rcases ho z e with h|h;exact h2 (by rw[←h1,h]);exact h3 (by rw[←h1,h])),h1]
 have ne:∀z q,ro z=q→q≠ .MX→z≠B.rp:=fun z q h1 h2 e=>h2 (by rw[←h1,e,m.rr])
 have n0:∀z q,ro z=q→q≠ .row g→¬rb g=some z:=fun z q h1 h2 h3=>h2 (by rw[←h1,m.nh g z hg.1 hg.2 h3])
 have hob:∀b,o=some b→b≠B.rp:=fun b hb e=>by rcases ho b hb with h|h<;>(rw[e,m.rr]at h;cases h)
 obtain⟨ta,tc,rfl⟩:=Sl.shape h2
 have hta:ta=some ⟨B.rp,0,none⟩:=by
  obtain⟨_,_,_,hh,_⟩:=h2
  injection hh with hh
 subst hta
 have h3:=h2.ext e0 (fun b hb=>by injection hb with hb;subst hb;exact n0 _ _ m.rr nofun)
 refine⟨⟨⟨_,e.own (e0.own h1 (n0 _ _ m.rn nofun)) (ne _ _ m.rn nofun),?_⟩,fun k h0 h1=>?_,(m.cells.ext e0 (fun z hz=>n0 z _ (m.hC z hz) nofun)).ext e (fun z hz=>ne z _ (m.hC z hz) nofun),?_,fun z hz=>Lj z _ (m.hC z hz) nofun nofun,Lj _ _ m.rn nofun nofun,Lj _ _ m.rr nofun nofun,fun k b h0 h1 hb=>?_,fun z hz=>?_⟩,
  (e0.mono fun z _ h=>fN (m.nh g z hg.1 hg.2 h) nofun).trans (e.mono fun z _ h=>by rw[h];exact fN m.rr nofun),fun z hz=>?_⟩
 ·rw[aqe]
  exact h3.qn FX g.toNat sv
 ·rw[aqe]at h1
  by_cases hk:k=g
  ·subst hk
   refine⟨sv,by rw[aqi (by omega)],?_⟩
   unfold aA
   rw[if_pos rfl,if_pos rfl]
   exact s.ext e (fun b hb=>hob b hb)
  ·obtain⟨WB,q1,q2⟩:=m.row k h0 h1
   refine⟨WB,by rw[aqh (by omega)];exact q1,?_⟩
   unfold aA
   rw[if_neg hk,if_neg hk]
   exact(q2.ext e0 (fun b hb=>n0 b _ (m.nh k b h0 h1 hb) (fun e=>hk (by injection e)))).ext e (fun b hb=>ne b _ (m.nh k b h0 h1 hb) nofun)
 ·have f1:=(m.fo.ext e0 (fun z hz=>by rcases hz with h|h| ⟨x,h⟩<;>exact n0 z _ h nofun)).ext e (fun z hz=>by rcases hz with h|h| ⟨x,h⟩<;>exact ne z _ h nofun)
  exact⟨f1.t,f1.kd,Lj _ _ f1.rf nofun nofun,Lj _ _ f1.rt nofun nofun,fun x b h0 h1 hb=>Lj _ _ (f1.rk x b h0 h1 hb) nofun nofun,f1.HU,f1.no⟩
 ·rw[aqe]at h1
  by_cases hk:k=g
  ·rw[if_pos hk]at hb
   rw[if_pos hb,hk]
  ·rw[if_neg hk]at hb
   have:=m.nh k b h0 h1 hb
   exact Lj b _ this nofun (fun e=>hk (by injection e))
 ·rw[QJ]at hz
  rw[if_neg (fun e=>?_),m.hz z (by omega)]
  cases o with
  |none=>cases e
  |some b=>
   injection e with e
   have:=Sl.lt s
   omega
 ·by_cases h:o=some z
  ·exact .inr h
  ·refine .inl fun h2=>hz ?_
   simp only[if_neg h]
   exact h2
theorem uE.Nc(m:uE H ro B C w l V ch par kb bX rows rb){g:Int}(hg:0≤g∧g<bX.length):∃lb tc sv,H.own B.n=some [ptr B.c,ptr B.fb,.slice (some ⟨B.rp,0,none⟩) bX.length tc]∧H.own B.rp=some lb∧lb[g.toNat]? =some sv∧g.toNat<lb.length∧bX[g.toNat]? =some sv∧
  Sl H 1 sv (rows g).length ((rows g).map i64) (rb g):=by
 obtain⟨tv,h1,h2⟩:=m.own
 obtain⟨sv,q1,q2⟩:=m.row g hg.1 hg.2
 obtain⟨_,lb,tc,rfl,ho,hc,hl,ht⟩:=h2
 refine⟨lb,tc,sv,h1,ho,?_,by omega,q1,q2⟩
 have h7:=q1
 rw[←ht,aqG]at h7
 split at h7
 ·exact h7
 ·cases h7
theorem Sl.rdB{sv:Value}{L:List Int}{fp:Option Nat}{Bd:Nat}(s:Sl H 1 sv L.length (L.map i64) fp)(hf:∀b,fp=some b→b<Bd∧¬KC ro b):FT H ro Bd sv L:=by
 cases fp with
 |none=>
  obtain⟨_,h2,rfl⟩:=s
  exact⟨none,0,by rw[h2],by omega,.inl (aqN.1 h2)⟩
 |some b=>
  obtain⟨_,lb,c,rfl,ho,hc,hl,ht⟩:=s
  obtain⟨h1,h2⟩:=hf b rfl
  refine⟨_,c,rfl,hc,.inr ⟨b,0,lb,rfl,h1,h2,ae ho,by omega,?_⟩⟩
  rw[asi]
  rw[aqd]at ht
  exact ht
theorem Jb(m:uE H ro B C w l V ch par kb bX rows rb){g:Int}{lv:Value}{JR:Int→List Int}(h12:JR g=rows g)(Uv:FT H ro H.size lv L)(aN:∀a b,aQ w a b=true→lt a b=true)(f:iS (aG w) lt ch par JR (L++W0))(hL:FO ch L)(hg:∀c∈L,aG w c=g)(wI:0≤g∧g<bX.length):
  af Tryz.prog mh [ptr B.n,i64 g,lv] H fun v H'=>ax (∃ro' l' V' dS bD ri E9 out Zx,uE H' ro' B C w l' V' dS bD ri E9 (aA rows g out) Zx∧iS (aG w) lt dS bD (aA JR g out) W0∧E9.length=bX.length∧(∀z∈W0,dS z=ch z)∧
   (∀z,dJ ro' z→dJ ro z∨H.size≤z)∧ag (dJ ro) H H'):=by
 obtain⟨lb,tc,sv,o1,q1,q2,FX,_,s2⟩:=m.Nc wI
 obtain⟨va,vc,rfl⟩:=Sl.shape s2
 obtain⟨aL,cL,rfl,hcL⟩:=Uv.cap
 have hra:FT H ro H.size (.slice va (rows g).length vc) (rows g):=Sl.rdB s2 (fun b hb=>by
  have h5:=m.nh g b wI.1 wI.2 hb
  refine⟨m.slt b (fN h5 nofun),fun hc=>?_⟩
  rcases hc with (hc| ⟨x,hc⟩)|hc<;>(rw[h5]at hc;cases hc))
 have h0:pW H ro B.n B.fb B.tb B.c C w H ro l V ch par kb (.slice va (rows g).length vc) (.slice aL L.length cL) (rows g) L:=⟨m.fo,m.cells,m.hC,⟨_,o1⟩,m.rn,m.hz,RK.refl m.hz,hra,Uv,ag.refl _ _⟩
 have f1:=f.loose g
 have tM:∀c∈rows g,aG w c=g:=fun c hc=>(f.rm g c (by rw[h12];exact hc)).1
 have frr:=f.rr g
 rw[h12]at f1 frr
 refine EL xB ⟨rfl,?_⟩
 refine v1 mB.eq_1 ?_
 refine gP.intro (fun H'=>H'.own B.n=some [ptr B.c,ptr B.fb,.slice (some ⟨B.rp,0,none⟩) bX.length tc]) o1 ?_
 refine vs ?_
 refine dP.intro (.slice (some ⟨B.rp,0,none⟩) bX.length tc) (fun H' hI=>by refine v1 (ae hI) ?_;trivial) ?_
 refine vs ?_
 have hgi:0≤g∧g< (bX.length:Int):=wI
 have key:∀K:Value→Hp→Prop,(∀out ro' l' V' dS bD ri vo fo H',pW H ro B.n B.fb B.tb B.c C w H' ro' l' V' dS bD ri (.slice none 0 0) (.slice none 0 0) [] []→Sl H' 1 vo out.length (out.map i64) fo→(∀z,fo=some z→H.size≤z∧ro' z= .no)→iS (aG w) lt dS bD (aA JR g []) (out++W0)→FO dS out→(∀c∈out,aG w c=g)→(∀z∈W0,dS z=ch z)→K (.tuple [vo,.bool true].toArray) H')→
   af Tryz.prog kV [ptr B.fb,.iface 154 (ptr B.n),.slice va (rows g).length vc,.slice aL L.length cL] H K:=fun K hK=>by
  refine(Ea h0 aN f1 frr hL (fun c hc=>by rcases hc with h|h;exact tM c h;exact hg c h)).mono ?_
  rintro _ H' ⟨out,ro',l',V',dS,bD,ri,vo,fo,rfl,h1,h2,h3,h4,h5,h6,h7⟩
  exact hK out ro' l' V' dS bD ri vo fo H' h1 h2 h3 h4 h5 h6 h7
 refine zg.intro ?A ?B
 case' A=>
  refine v1 (ae o1) ?_
  refine And.intro o1 ?_
  refine v1 (ae o1) ?_
  refine And.intro o1 ?_
  refine vs ?_
  refine⟨⟨by omega,by omega⟩,?_⟩
  refine v4 (ae q1) aqa aqd q2 ?_
  refine And.intro o1 ?_
  refine vs ?_
 case' B=>
  refine v1 (ae o1) ?_
  refine And.intro o1 ?_
  refine vs ?_
  refine⟨⟨by omega,by omega⟩,?_⟩
  refine vs ?_
  refine zg.intro ?C ?D
  case' C=>
   refine v1 (ae o1) ?_
   refine And.intro o1 ?_
   refine v4 (ae q1) aqa aqd q2 ?_
   refine And.intro o1 ?_
   refine vs ?_
  case' D=>
   refine v4 (ae q1) aqa aqd q2 ?_
   refine And.intro o1 ?_
   refine v1 (ae o1) ?_
   refine And.intro o1 ?_
   refine vs ?_
 all_goals
  refine key _ fun out oL l2 V2 lK jx EB vo fo2 H2 h2 ED RL f2 r2 g2 w2=>?_
  obtain⟨vb,vc2,rfl⟩:=Sl.shape ED
  have m2:=m.TM h2.m h2.cq h2.rk h2.hz h2.e
  obtain⟨lb2,tc2,sv2,o2,q3,q4,anX,_,_⟩:=m2.Nc wI
  have o2':H2.own B.n=some [ptr B.c,ptr B.fb,.slice (some ⟨B.rp,0,none⟩) bX.length tc]:=h2.e.own o1 (fun hc=>by
   rcases hc with (hc| ⟨x,hc⟩)|hc<;>(rw[m.rn]at hc;cases hc))
  refine And.intro o2' ?_
  refine vs ?_
  refine⟨⟨by omega,by omega⟩,?_⟩
  refine v3 q3 aqa aqd ?_
  refine⟨by omega,?_⟩
  obtain⟨m3,e3,UE⟩:=m2.WV wI (ag.refl _ _) q3 ED (fun b hb=>.inl (RL b hb).2)
  refine vs ?_
  have hnr:B.n≠B.rp:=fun e=>by have:=m2.rn;rw[e,m2.rr]at this;cases this
  refine And.intro (((ag.refl (fun z=>z=B.rp) _).wr (fun _=>rfl) _:ag (fun z=>z=B.rp) H2 _).own o2' hnr) ?_
  refine vs ?_
  have f3:=f2.row (g:=g) (by unfold aA;rw[if_pos rfl]) r2 g2
  rw[fg]at f3
  have O7:∀z,dJ oL z→dJ ro z∨H.size≤z:=fun z hz=>by
   by_cases Ps:z<H.size
   ·refine .inl fun h=>hz ?_
    exact h2.rk.none Ps h
   ·exact .inr (by omega)
  refine⟨_,l2,V2,lK,jx,EB,_,_,_,m3,f3,aqe ..,w2,fun z hz=>?_,?_⟩
  ·rcases UE z hz with h|h
   ·exact O7 z h
   ·exact .inr (RL z h).1
  ·have e2:ag (dJ ro) H H2:=h2.e.mono fun z _ h=>by
    rcases h with (h| ⟨x,h⟩)|h<;>exact fN h nofun
   exact⟨aqW e2.size e3.size,fun z hz hn=>by
    rw[e3.aM z (aqw hz e2.size) (fun h=>by
     rcases O7 z h with h|h
     ·exact hn h
     ·omega),e2.aM z hz hn]⟩
theorem Cw(m:uE H ro B C w l V ch par kb bX rows rb){g:Int}{lv:Value}(Uv:FT H ro H.size lv L)(aN:∀a b,aQ w a b=true→lt a b=true)(f:iS (aG w) lt ch par rows (L++W0))(hL:FO ch L)(hg:∀c∈L,aG w c=g)(wI:0≤g∧g<bX.length):
  af Tryz.prog mh [ptr B.n,i64 g,lv] H fun v H'=>ax (∃ro' l' V' dS bD ri E9 jY Zx,uE H' ro' B C w l' V' dS bD ri E9 jY Zx∧iS (aG w) lt dS bD jY W0∧E9.length=bX.length∧(∀z∈W0,dS z=ch z)∧
   (∀z,dJ ro' z→dJ ro z∨H.size≤z)∧ag (dJ ro) H H'):=
 (Jb m rfl Uv aN f hL hg wI).mono fun _ _ ⟨ro',l',V',dS,bD,ri,E9,_,Zx,h⟩=>⟨ro',l',V',dS,bD,ri,E9,_,Zx,h⟩
end
end Go.Proofs.YthpjfeolagohkaaGreat

namespace Go.Proofs.YthpjfeolagohkaaGreat
open Go Go.Vc
def gH(n:Nat)(H:Hp)(S:Nat→Prop)(w:Nw):Prop:=∃ (B:BnB) (ro:Nat→Rl) (C:Nat→Prop) (l:List Value) (V:Int→Value) (ch:Int→List Int) (par:Int→Int) (kb:Int→Option Nat) (bX:List Value) (rows:Int→List Int) (rb:Int→Option Nat),
 B.n=n∧uE H ro B C w l V ch par kb bX rows rb∧iS (aG w) (aQ w) ch par rows []∧bX.length=w.hs.length∧∀z,S z↔dJ ro z
theorem gH.slt{n:Nat}{H:Hp}{S:Nat→Prop}{w:Nw}(h:gH n H S w):∀z,S z→z<H.size:=by
 obtain⟨B,ro,C,l,V,ch,par,kb,bX,rows,rb,rfl,m,f,hl,hS⟩:=h
 exact fun z hz=>m.slt z ((hS z).1 hz)
theorem gH.ext{n:Nat}{H H':Hp}{S T:Nat→Prop}{w:Nw}(h:gH n H S w)(e:ag T H H')(hd:∀z,S z→¬T z):gH n H' S w:=by
 obtain⟨B,ro,C,l,V,ch,par,kb,bX,rows,rb,rfl,m,f,hl,hS⟩:=h
 exact⟨B,ro,C,l,V,ch,par,kb,bX,rows,rb,rfl,m.ext e (fun z hz=>hd z ((hS z).2 hz)),f,hl,hS⟩
section
variable {H H' : Hp} {ro ro' : Nat → Rl} {B : BnB} {C T : Nat → Prop} {w w' : Nw} {l l' : List Value} {V V' : Int → Value} {ch dS : Int → List Int} {par bD : Int → Int} {kb ri : Int → Option Nat} {bX : List Value} {rows : Int → List Int} {rb : Int → Option Nat} {lt : Int → Int → Bool} {W W0 L : List Int}
theorem uE.TN(m:uE H ro B C w l V ch par kb bX rows rb)(hl:bX.length=w.hs.length){g:Int}(h:w.has g):0≤g∧g<bX.length:=by
 have h1:=h.1
 have:=(aqc.1 h.2).1
 omega
theorem La(m:uE H ro B C w l V ch par kb bX rows rb)(f:iS (aG w) lt ch par rows W)(hl:bX.length=w.hs.length)(g:Int):af Tryz.prog wZ [ptr B.n,i64 g] H fun v H'=>ax ((∃o,Sl H 1 v (rows g).length ((rows g).map i64) o∧∀b,o=some b→b<H.size∧¬KC ro b)∧H'=H):=by
 obtain⟨tv,ho,_⟩:=m.own
 refine bm xC ?_
 refine v1 (ae ho) ?_
 refine(iM m.cells g).mono ?_
 rintro _ _ ⟨rfl,rfl⟩
 refine vs ?_
 by_cases hg:w.has g
 ·rw[aqp hg]
  have wI:=m.TN hl hg
  obtain⟨lb,tc,sv,o1,q1,q2,FX,_,s2⟩:=m.Nc wI
  refine v1 (ae o1) ?_
  refine⟨⟨by omega,by omega⟩,?_⟩
  refine v4 (ae q1) aqa aqd q2 ?_
  refine⟨⟨rb g,s2,fun b hb=>?_⟩,rfl⟩
  have h5:=m.nh g b wI.1 wI.2 hb
  refine⟨m.slt b (fN h5 nofun),fun hc=>?_⟩
  rcases hc with (hc| ⟨x,hc⟩)|hc<;>(rw[h5]at hc;cases hc)
 ·rw[aqA hg]
  refine vs ?_
  have hr:rows g=[]:=by
   cases hc:rows g with
   |nil=>rfl
   |cons c r=>
    obtain⟨h1,_,h2,_⟩:=f.rm g c (by rw[hc];simp)
    have:=((m.cells.hm c).2 (by omega)).1
    rw[h1]at this
    exact absurd this hg
  rw[hr]
  exact⟨⟨none,Sl.nil _ _,nofun⟩,rfl⟩
theorem iS.root(f:iS (aG w) (aQ w) ch par rows []){y g:Int}(hg:0<g)(hy:aG w y=g):∃r∈rows g,r=y∨aQ w r y=true:=by
 obtain⟨r,h1,h2,h3⟩:=f.pr.root (aw w) (n:=w.cs.length) (fun x h=>vU x h) _ (aqm _) (x:=y) (by omega)
 rcases f.E5 r (by omega) h2 with h|h
 ·rw[h1,hy]at h
  exact⟨r,h,h3⟩
 ·cases h
theorem Cx{n:Nat}{H:Hp}{S:Nat→Prop}{w:Nw}(h:gH n H S w)(g:Int):af Tryz.prog mf [ptr n,i64 g] H fun v H'=>ax (
  (w.len g=0∧v= .tuple [i64 0,.bool false].toArray∧gH n H' S w∧ag S H H')∨(∃x,w.first g x∧v= .tuple [i64 x,.bool true].toArray∧gH n H' S w∧ag S H H')):=by
 obtain⟨B,ro,C,l,V,ch,par,kb,bX,rows,rb,rfl,m,f,hl,hS⟩:=id h
 have xW:=m.cells.Fe
 refine bm xz ?_
 refine vs ?_
 refine(La m f hl g).mono ?_
 rintro _ H' ⟨⟨o,s,hso⟩,e⟩
 obtain rfl:=e.symm
 obtain⟨va,vc,rfl⟩:=Sl.shape s
 refine vs ?_
 refine ar.dec (fun h0=>?_) (fun h0=>?_)<;>refine vs ?_
 ·refine .inl ⟨?_,rfl,h,ag.refl _ _⟩
  have hr:rows g=[]:=aqN.1 (by omega)
  by_cases hg:0<g
  ·rw[vG hg]
   intro x hx
   obtain⟨r,AH,_⟩:=f.root hg hx
   rw[hr]at AH
   cases AH
  ·exact Nw.IN.2 (.inl (by omega))
 obtain⟨x,R,hr⟩:∃x R,rows g=x::R:=arq (fun e=>h0 (by rw[e];rfl))
 have Ut:∀c∈rows g,aG w c=g∧0<g:=fun c hc=>by
  obtain⟨h1,_,h2,_⟩:=f.rm g c hc
  exact⟨h1,h2⟩
 have Tg:=(Ut x (by rw[hr];simp)).2
 rw[hr]at s Ut
 have WC:(rows g).length=(x::R).length:=by rw[hr]
 rw[WC]
 have o8:(x::R).length=R.length+1:=aqx
 have hsB:=s
 have bf:=cf (f.rr g).nodup fun c hc=>vU (w:=w) c (by have:=Ut c (by rw[←hr];exact hc);omega)
 rw[hr]at bf
 obtain⟨b,lb,c,pO,rfl,qb,qc,_,FX,_⟩:=Sl.VU s (i:=0) (x:=x) rfl
 injection pO with h1 h2 h3
 subst h1 h3
 have fU:=ae qb
 obtain⟨_,Ys,c',fh,q2,E6,YJ,Q1⟩:=id s
 injection fh with _ _ fh
 subst fh
 rw[qb]at q2
 injection q2 with q2
 subst q2
 rw[aqd]at YJ Q1
 refine⟨⟨by omega,by omega⟩,?_⟩
 refine v5 fU qc Int.toNat_zero aqT Nat.add_zero ?_
 refine⟨⟨by omega,by omega,by omega,by omega⟩,?_⟩
 refine vs ?_
 have wI:=m.TN hl ((m.cells.hm x).2 (by have:=Ut x (by simp);omega)).1
 rw[(Ut x (by simp)).1]at wI
 have hrB:FT H ro H.size (.slice (some ⟨b,0,none⟩) (x::R).length vc) (x::R):=Sl.rdB s hso
 obtain⟨a',hv,_,_,_⟩:=BT s.rd (lo:=1) (hi:=R.length+1) (lo':=1) (hi':=((R.length+1:Nat):Int)) rfl rfl (by omega) (by omega) (by omega)
 have hB:FT H ro H.size (.slice a' R.length (vc - 1)) R:=by
  rw[show R.length=R.length+1 - 1 by omega,←hv]
  exact hrB.tail _
 rw[hv,show((R.length+1:Nat):Int).toNat - Int.toNat 1=R.length by simp,Nat.add_sub_cancel]
 refine aY.intro (fun mm env H'=>∃ (j:Nat) (bZ:Int),mm=R.length - j∧j≤R.length∧CQ H' B.c C w∧ag C H H'∧bZ∈x::R.take j∧(∀c∈x::R.take j,c≠bZ→aQ w bZ c=true)∧
  env=[(0,ptr B.n),(7,i64 bZ),(20,.slice a' R.length (vc - 1)),(21,i64 R.length),(22,i64 j)]) R.length ⟨0,x,rfl,by omega,m.cells,ag.refl _ _,by simp,by simp,rfl⟩ ?_
 rintro mm env H1 ⟨j,bZ,rfl,hj,c1,e1,Nq,oG,rfl⟩
 have m1:=m.aI c1 e1 rfl
 obtain⟨DO,o1,_⟩:=m1.own
 refine vs ?_
 refine ar.dec (fun aN=>?_) (fun aN=>?_)<;>refine vs ?_
 ·have ie:j<R.length:=by omega
  obtain⟨y,hy⟩:∃y,R[j]? =some y:=⟨_,aqb ie⟩
  have hB1:=hB.ext e1 (fun z _ hk hc=>hk (.inr (m.hC z hc))) (ro':=ro) (fun _ _ h=>h)
  obtain⟨_,b2,o2,lb2,rfl,q2,q3⟩:=db.num hB1.rd hy
  refine⟨⟨by omega,by omega⟩,?_⟩
  refine v5 q2 aqd Int.toNat_natCast q3 (ae o1) ?_
  refine(cN c1 y bZ).mono ?_
  rintro _ H2 ⟨rfl,c2,e2⟩
  have hym:y∈x::R:=aq1 _ (aqg hy)
  have F1:bZ∈x::R:=by
   rcases aqC.1 Nq with h|h
   ·rw[h];simp
   ·exact aq1 _ (List.mem_of_mem_take h)
  have FY:=Ut y hym
  have hbb:=Ut bZ F1
  rw[gX (w:=w) (a:=y) (b:=bZ) (by omega) (by omega)]
  have tk:R.take (j+1)=R.take j++[y]:=by rw[aqS,hy];rfl
  cases hyb:aQ w y bZ
  ·refine vs ?_
   rw[wrap64 (n:=(j:Int)+1) (by omega) (by omega)]
   refine⟨R.length - (j+1),by omega,j+1,bZ,rfl,by omega,c2,e1.trans e2,?_,fun c hc aR=>?_,rfl⟩
   ·rw[tk,←are];exact aqH _ Nq
   ·rw[tk,←are]at hc
    rcases aqq.1 hc with hc|hc
    ·exact oG c hc aR
    ·rw[aql.1 hc]at aR ⊢
     exact((aw w).PA bZ y (Ne.symm aR)).resolve_right (by rw[hyb];simp)
  ·refine vs ?_
   rw[wrap64 (n:=(j:Int)+1) (by omega) (by omega)]
   refine⟨R.length - (j+1),by omega,j+1,y,rfl,by omega,c2,e1.trans e2,?_,fun c hc aR=>?_,rfl⟩
   ·rw[tk];simp
   ·rw[tk,←are]at hc
    rcases aqq.1 hc with hc|hc
    ·by_cases e:c=bZ
     ·rw[e];exact hyb
     ·exact(aw w).tr _ _ _ hyb (oG c hc e)
    ·exact absurd (aql.1 hc) aR
 ·obtain rfl:j=R.length:=by omega
  rw[aqM]at Nq oG
  refine .inr ⟨bZ,?_,rfl,⟨B,ro,C,l,V,ch,par,kb,bX,rows,rb,rfl,m1,f,hl,hS⟩,e1.mono fun z _ hz=>(hS z).2 (fN (m.hC z hz) nofun)⟩
  rw[bQ]
  refine⟨Tg,(Ut bZ Nq).1,fun y hy aR=>?_⟩
  obtain⟨r,IZ,AH⟩:=f.root Tg hy
  rw[hr]at IZ
  by_cases e:r=bZ
  ·rw[e]at AH
   exact AH.resolve_left (fun e2=>aR e2.symm)
  ·have h5:=oG r IZ e
   rcases AH with h6|h6
   ·rw[←h6];exact h5
   ·exact(aw w).tr _ _ _ h5 h6
end
end Go.Proofs.YthpjfeolagohkaaGreat
