/- Texts put behind each other. -/
import Derived.Test.YtjlnnljohemifaaGreatK98
import Derived.Test.YtjlnnljohemifaaGreatK1
import Derived.Test.YtjlnnljohemifaaGreatK9
import Derived.Test.YtjlnnljohemifaaGreatK13
import Derived.Test.YtjlnnljohemifaaGreatK17
import Derived.Test.YtjlnnljohemifaaGreatK19
import Derived.Test.YtjlnnljohemifaaGreatK20
import Derived.Test.YtjlnnljohemifaaGreatK21
import Derived.Test.YtjlnnljohemifaaGreatK22
import Derived.Test.YtjlnnljohemifaaGreatK23
set_option maxRecDepth 100000
set_option maxHeartbeats 8000000
set_option linter.unusedVariables false
set_option linter.unusedSimpArgs false
namespace Go.Proofs.YtjlnnljohemifaaGreat
open Go Go.Vc
theorem yo{H:Hp}{bx:Nat}{a:Option Addr}{c:Nat}{xs:List Int}(hb:H.own bx=some [.slice a xs.length c])(h:cI H 1 (.slice a xs.length c) xs.length (xs.map i64))(hm:xs.length≤1000000)(x:Int):
  af Tryz.prog iL [i64 x,ptr bx] H fun v H'=>ar (v= .bool (decide (x∈xs))∧H'=H):=by
 refine ud mixed (an:=pP) (by conv=>lhs;cbv) (nt:=7) (by kernel_rfl) (by simp) ?_
 refine v1 (ae hb) ?_
 refine(tn h x (by omega)).mono ?_
 rintro _ H' ⟨rfl,e⟩
 obtain rfl:=e.symm
 refine vs ?_
 exact⟨rfl,rfl⟩
section
variable {H H' : Hp} {ro ro' : Nat → Rl} {nn fb tb c : Nat} {C : Nat → Prop} {w : Nw} {l : List Value} {V : Int → Value} {ch : Int → List Int} {par : Int → Int} {kb : Int → Option Nat} {va vb : Value} {a b W0 : List Int} {lt : Int → Int → Bool} {rows : Int → List Int} {g : Int}
def Wn(e:Env)(fb nn bx:Nat)(va vo vn:Value)(k:Nat):Prop:=
 e.find 0=some (ptr fb)∧e.find 1=some (.iface 198 (ptr nn))∧e.find 2=some va∧e.find 7=some (ptr bx)∧e.find 10=some vo∧e.find 11=some vn∧e.find 12=some (i64 k)
theorem IE{P:Program}{A B:S}{env:Env}{H:Hp}{Kn:Env→Hp→Prop}{Kx:Nat→Env→Hp→Prop}{Kr:Env→Hp→Prop}(I:Env→Hp→Prop)(h:vc P A env H I Kx Kr)(k:∀e h,I e h→vc P B e h Kn Kx Kr):vc P (.seq A B) env H Kn Kx Kr:=
 Ct A env H _ _ _ _ _ _ k (fun _ _ _ h=>h) (fun _ _ h=>h) h
theorem nL.afq(h:nL H ro nn fb tb c C w H' ro' l V ch par kb va vb a b):nL H ro nn fb tb c C w H' ro' l V ch par kb (.slice none 0 0) (.slice none 0 0) [] []:=
 ⟨h.m,h.cq,h.hC,h.own,h.hn,h.hz,h.rk,⟨none,0,rfl,ano _,.inl rfl⟩,⟨none,0,rfl,ano _,.inl rfl⟩,h.e⟩
theorem nL.afr{va':Value}{a':List Int}(h:nL H ro nn fb tb c C w H' ro' l V ch par kb va vb a b)(r:EX H' ro' H.size va' a'):nL H ro nn fb tb c C w H' ro' l V ch par kb va' vb a' b:=
 ⟨h.m,h.cq,h.hC,h.own,h.hn,h.hz,h.rk,r,h.rb,h.e⟩
theorem nL.Q5{vb':Value}{b':List Int}(h:nL H ro nn fb tb c C w H' ro' l V ch par kb va vb a b)(r:EX H' ro' H.size vb' b'):nL H ro nn fb tb c C w H' ro' l V ch par kb va vb' a b':=
 ⟨h.m,h.cq,h.hC,h.own,h.hn,h.hz,h.rk,h.ra,r,h.e⟩
theorem nL.BW{H3:Hp}{vo:Value}{out:List Int}{nb Hn fo:Option Nat}(h:nL H ro nn fb tb c C w H' ro' l V ch par kb va vb a b)(bx:H'.own H.size=some [vb])(so:Sl H' 1 vo out.length (out.map i64) fo)
  (hd:∀z,nb=some z∨fo=some z→H.size<z∧z<H'.size∧ro' z= .no)(SK:∀z,nb=some z→fo=some z→False)(e3:ag (fun z=>nb=some z) H' H3)(CC:Hn=nb∨∃z,Hn=some z∧H'.size≤z∧z<H3.size):
  nL H ro nn fb tb c C w H3 ro' l V ch par kb va vb a b∧H3.own H.size=some [vb]∧Sl H3 1 vo out.length (out.map i64) fo∧(∀z,Hn=some z∨fo=some z→H.size<z∧z<H3.size∧ro' z= .no)∧(∀z,Hn=some z→fo=some z→False):=by
 have lm:=az bx
 have hs:=e3.size
 refine⟨h.Tg e3 (fun z hz=>by have:=hd z (.inl hz);exact⟨by omega,this.2.2⟩),e3.own bx (fun hz=>by have:=hd _ (.inl hz);omega),so.ext e3 (fun z h1 h2=>SK z h2 h1),fun z hz=>?_,fun z h1 h2=>?_⟩
 ·rcases hz with hz|hz
  ·rcases CC with h1| ⟨y,h1,h2,h3⟩
   ·rw[h1]at hz
    have:=hd z (.inl hz)
    exact⟨this.1,by omega,this.2.2⟩
   ·rw[h1]at hz
    injection hz with hz
    subst hz
    exact⟨by omega,h3,h.hz _ h2⟩
  ·have:=hd z (.inr hz)
   exact⟨this.1,by omega,this.2.2⟩
 ·rcases CC with h3| ⟨y,h3,h4,h5⟩
  ·exact SK z (by rw[←h3];exact h1) h2
  ·rw[h3]at h1
   injection h1 with h1
   have:=hd z (.inr h2)
   omega
def Q6(H0:Hp)(Wm:Nat→Rl)(nn fb tb c:Nat)(C:Nat→Prop)(w:Nw)(lt:Int→Int→Bool)(rows:Int→List Int)(W0:List Int)(g:Int)(FF:Int→List Int)(k ia ib io:Nat)(pn:Nat→Prop)(H:Hp)(va vb vn vo:Value):Prop:=
 ∃ (a b now out:List Int) (nb fo:Option Nat) (ro:Nat→Rl) (l:List Value) (V:Int→Value) (ch:Int→List Int) (par:Int→Int) (kb:Int→Option Nat),
  nL H0 Wm nn fb tb c C w H ro l V ch par kb va vb a b∧jh (aD w) lt ch par rows (now++(a++(b++(out++W0))))∧lV (aD w) ch g k ia ib io a b now out∧pn now.length∧
  H.own H0.size=some [vb]∧ro H0.size= .no∧GI H vn now nb∧Sl H 1 vo out.length (out.map i64) fo∧(∀z,nb=some z∨fo=some z→H0.size<z∧z<H.size∧ro z= .no)∧(∀z,nb=some z→fo=some z→False)∧(∀z∈W0,ch z=FF z)
theorem BX(h0:nL H ro nn fb tb c C w H ro l V ch par kb va vb a b)(aK:∀a b,aN w a b=true→lt a b=true)(f0:jh (aD w) lt ch par rows (a++(b++W0)))(hra:DN ch a)(Wo:DN ch b)(hg:∀c,c∈a∨c∈b→aD w c=g):
  af Tryz.prog jW [ptr fb,.iface 198 (ptr nn),va,vb] H fun v H'=>ar (∃out ro' l' V' dH bB r9 vo fo,v= .tuple [vo,.bool true].toArray∧nL H ro nn fb tb c C w H' ro' l' V' dH bB r9 (.slice none 0 0) (.slice none 0 0) [] []∧
   Sl H' 1 vo out.length (out.map i64) fo∧(∀z,fo=some z→H.size≤z∧ro' z= .no)∧jh (aD w) lt dH bB rows (out++W0)∧DN dH out∧(∀c∈out,aD w c=g)∧∀z∈W0,dH z=ch z):=by
 have vM:=h0.cq.CY
 obtain⟨aa,ca,rfl,Ym⟩:=h0.ra.cap
 obtain⟨ab,cb,rfl,Fv⟩:=h0.rb.cap
 obtain⟨n1,n2,n3⟩:=anW.1 f0.wn
 have bE:∀x∈a++(b++W0),(0≤x∧x<w.cs.length)∧par x= -1:=fun x hx=>⟨f0.QO (hm:=aD w) hx,(f0.wm x hx).1⟩
 have hla:=bU n1 fun c hc=>(bE c (anr _ hc)).1
 have Cm:=bU (anW.1 n2).1 fun c hc=>(bE c (aob _ (anr _ hc))).1
 refine aP sN ?_
 refine vs ?_
 have e1:ag (fun z=>H.size≤z) H (H.new 24 [.slice ab b.length cb]):=((ag.refl _ _).new _ _:ah H _).mono fun _ _ h=>h.elim
 have bx1:(H.new 24 [.slice ab b.length cb]).own H.size=some [.slice ab b.length cb]:=ax _ _ _
 have z1:(H.new 24 [.slice ab b.length cb]).size=H.size+1:=am _ _ _
 have h1:=h0.Tg e1 (fun z hz=>⟨hz,h0.hz z hz⟩)
 generalize H.new 24 [.slice ab b.length cb]=H1 at*
 refine(tG h1.m h1.ra.rd (fun x hx=>bE x (anr _ hx)) hra (by omega)).mono ?_
 rintro _ H' ⟨rfl,e⟩
 obtain rfl:=e.symm
 refine v1 (ae bx1) ?_
 refine(tG h1.m h1.rb.rd (fun x hx=>bE x (aob _ (anr _ hx))) Wo (by omega)).mono ?_
 rintro _ H' ⟨rfl,e⟩
 obtain rfl:=e.symm
 refine vs ?_
 refine(yn (H:=H1) iL [ptr H.size] (fun x=>decide (x∈b)) (fun H'=>H'=H1) rfl (fun H' hI=>by rw[hI];exact h1.ra.rd) (by kernel_rfl) (fun H' x hx hI=>?_) (by omega)).mono ?_
 ·rw[hI]
  exact yo bx1 h1.rb.rd (by omega) x
 rintro _ H' ⟨rfl,e⟩
 obtain rfl:=e.symm
 have aas:(a.any fun x=>decide (x∈b))=false:=List.any_eq_false.2 fun x hx=>by
  simp only[anF]
  exact fun hb=>n3 x hx x (anr _ hb) rfl
 rw[aas]
 refine vs ?_
 have i0:lV (aD w) ch g 0 0 0 0 a b [] []:=⟨hra,Wo,List.Pairwise.nil,fun _ _=>aoY _,fun _ _=>aoY _,by simp,by simp,fun c hc=>hg c (by simpa using hc)⟩
 have d0:∀z,((none:Option Nat)=some z∨(none:Option Nat)=some z)→H.size<z∧z<H1.size∧ro z= .no:=fun z hz=>by rcases hz with h|h<;>cases h
 have d00:∀z,(none:Option Nat)=some z→(none:Option Nat)=some z→False:=fun z h=>by cases h
 have cz0:Q6 H ro nn fb tb c C w lt rows W0 g ch 0 0 0 0 (fun n=>n≤1) H1 (.slice aa a.length ca) (.slice ab b.length cb) (.slice none 0 0) (.slice none 0 0):=
  ⟨a,b,[],[],none,none,ro,l,V,ch,par,kb,h1,f0,i0,aoY _,bx1,h0.hz _ (ano _),GI.nil _ _,Sl.nil _ _,d0,d00,fun _ _=>rfl⟩
 refine aT.intro (fun mm env H'=>∃ (k:Nat) (va vb vn vo:Value),mm=w.cs.length+1 - k∧Q6 H ro nn fb tb c C w lt rows W0 g ch k k k k (fun n=>n≤1) H' va vb vn vo∧
  env=[(0,ptr fb),(1,.iface 198 (ptr nn)),(2,va),(7,ptr H.size),(10,vo),(11,vn),(12,i64 k)]) _ ⟨0,_,_,_,_,rfl,cz0,rfl⟩ ?_
 clear h1 i0 bx1 f0 hra Wo hg bE n1 n2 n3 hla Cm aas h0 e1 d0 d00 cz0 Ym Fv
 rintro mm env H2 ⟨k,va,vb,vn,vo,rfl,R6,rfl⟩
 obtain⟨a,b,now,out,nb,fo,mQ,l2,V2,kL,iZ,Cr,h2,f2,i2,OU,nV,Cu,Dk,Cv,iA,oW,Dl⟩:=id R6
 obtain⟨aa,ca,rfl,Ym⟩:=h2.ra.cap
 obtain⟨ab,cb,rfl,Fv⟩:=h2.rb.cap
 obtain⟨an,cn,rfl,OH⟩:=Dk.cap
 obtain⟨ao,co,rfl⟩:=Sl.shape Cv
 have Mt:=az nV
 have fW:=f2.wn
 have cR:=bU fW fun c hc=>f2.QO (hm:=aD w) hc
 simp only[ank]at cR
 refine v1 (ae nV) ?_
 rw[wrap64 (n:=(a.length:Int)+b.length) (by omega) (by omega),wrap64 (n:=(a.length:Int)+b.length+now.length) (by omega) (by omega)]
 refine ak.dec (fun Vb=>?_) (fun Vb=>?_)
 rotate_left
 ·refine vs ?_
  have SH:a=[]:=anL.1 (by omega)
  have Qh:b=[]:=anL.1 (by omega)
  have JW:now=[]:=anL.1 (by omega)
  subst SH Qh JW
  refine⟨out,mQ,l2,V2,kL,iZ,Cr,_,fo,rfl,h2.afq,Cv,fun z hz=>⟨by have:=iA z (.inr hz);omega,(iA z (.inr hz)).2.2⟩,f2,i2.ro,fun c hc=>i2.hg c (.inr (.inr (.inr hc))),Dl⟩
 have aV:∀z,(kL z).length≤w.cs.length:=fun z=>bU (f2.pr.nd z) fun c hc=>h2.m.FC z c hc
 have hk:k≤w.cs.length:=by
  by_cases SH:a=[]
  ·by_cases Qh:b=[]
   ·obtain⟨x,hx⟩:∃x,x∈now:=by
     cases now with
     |nil=>subst SH Qh;simp at Vb
     |cons x r=>exact⟨x,by simp⟩
    have:=i2.kn x hx
    have:=aV x
    omega
   ·obtain⟨x,r,rfl⟩:=aoz Qh
    have:=i2.kb x (by simp)
    have:=aV x
    omega
  ·obtain⟨x,r,rfl⟩:=aoz SH
   have:=i2.ka x (by simp)
   have:=aV x
   omega
 clear Vb aV cR fW
 rw[Q7,Th,Wp,Wq]
 refine IE (fun e h=>∃va vb vn vo,Q6 H ro nn fb tb c C w lt rows W0 g ch k (k+1) k k (fun n=>n≤2) h va vb vn vo∧Wn e fb nn H.size va vo vn k) ?_ ?_
 ·refine vs ?_
  refine ak.dec (fun ga=>?_) (fun ga=>?_)
  ·obtain⟨x,r,rfl⟩:∃x r,a=x::r:=aoz (fun h=>by rw[h]at ga;simp at ga)
   obtain⟨pb,po,pl,pc,hv,eG,Ox,bS,Z9⟩:=h2.ra.head
   injection hv with Cw AF hv3
   subst Cw hv3
   refine vs ?_
   refine⟨⟨by omega,by omega⟩,?_⟩
   refine v5 eG bS Int.toNat_zero anU Nat.add_zero ?_
   refine(cX h2.m x).mono ?_
   rintro _ H' ⟨rfl,e⟩
   obtain rfl:=e.symm
   refine vs ?_
   refine ak.dec (fun gd=>?_) (fun gd=>?_)
   ·refine vs ?_
    refine⟨⟨by omega,by omega⟩,?_⟩
    refine v5 eG bS Int.toNat_zero anU Nat.add_zero ?_
    refine Dk.push x (by omega) fun w' H3 Hn CC OV e3=>?_
    obtain⟨h3,BY,Mu,EY,BZ⟩:=h2.BW nV Cv iA oW e3 CC
    refine vs ?_
    have tm:(x::r).length=r.length+1:=anw
    refine⟨⟨by omega,by omega,by omega,by omega⟩,?_⟩
    refine vs ?_
    have fp:now++(x::r++(b++(out++W0)))=now++[x]++(r++(b++(out++W0))):=by simp
    rw[fp]at f2
    exact⟨_,_,_,_,⟨r,b,now++[x],out,Hn,fo,mQ,l2,V2,kL,iZ,Cr,h3.afr (h3.ra.tail _),f2,i2.Zf (by omega),by rw[ank,ant];omega,BY,Cu,OV,Mu,EY,BZ,Dl⟩,rfl,rfl,rfl,rfl,rfl,rfl,rfl⟩
   ·refine vs ?_
    exact⟨_,_,_,_,⟨x::r,b,now,out,nb,fo,mQ,l2,V2,kL,iZ,Cr,h2,f2,i2.T5 (fun c hc=>by injection hc with hc;rw[←hc];omega),by omega,nV,Cu,Dk,Cv,iA,oW,Dl⟩,rfl,rfl,rfl,rfl,rfl,rfl,rfl⟩
  ·refine vs ?_
   have SH:a=[]:=anL.1 (by omega)
   exact⟨_,_,_,_,⟨a,b,now,out,nb,fo,mQ,l2,V2,kL,iZ,Cr,h2,f2,i2.T5 (fun c hc=>by rw[SH]at hc;cases hc),by omega,nV,Cu,Dk,Cv,iA,oW,Dl⟩,rfl,rfl,rfl,rfl,rfl,rfl,rfl⟩
 clear R6 h2 f2 i2 OU nV Cu Dk Cv iA oW Dl Mt Ym Fv OH
 rintro e2 H2 ⟨va,vb,vn,vo,R6,hv⟩
 obtain⟨a,b,now,out,nb,fo,mQ,l2,V2,kL,iZ,Cr,h2,f2,i2,OU,nV,Cu,Dk,Cv,iA,oW,Dl⟩:=id R6
 obtain⟨ab,cb,rfl,Fv⟩:=h2.rb.cap
 obtain⟨an,cn,rfl,OH⟩:=Dk.cap
 have Mt:=az nV
 obtain⟨GJ,Cw,AF,GK,nM,nN,nO⟩:=hv
 refine IE (fun e h=>∃va vb vn vo,Q6 H ro nn fb tb c C w lt rows W0 g ch k (k+1) (k+1) k (fun n=>n≤3) h va vb vn vo∧Wn e fb nn H.size va vo vn k) ?_ ?_
 ·refine v8 GJ Cw AF GK nM nN nO (ae nV) ?_
  refine ak.dec (fun gb=>?_) (fun gb=>?_)
  ·obtain⟨x,r,rfl⟩:∃x r,b=x::r:=aoz (fun h=>by rw[h]at gb;simp at gb)
   obtain⟨pb,po,pl,pc,hv,eG,Ox,bS,Z9⟩:=h2.rb.head
   injection hv with Q8 aat Q9
   subst Q8 Q9
   refine v8 GJ Cw AF GK nM nN nO (ae nV) ?_
   refine⟨⟨by omega,by omega⟩,?_⟩
   refine v12 eG bS Int.toNat_zero anU Nat.add_zero GJ Cw AF GK nM nN nO ?_
   refine(cX h2.m x).mono ?_
   rintro _ H' ⟨rfl,e⟩
   obtain rfl:=e.symm
   refine v7 GJ Cw AF GK nM nN nO ?_
   have tm:(x::r).length=r.length+1:=anw
   have fp:(now++(a++(x::r++(out++W0)))).Perm (now++[x]++(a++(r++(out++W0)))):=by
    rw[aoS]
    intro z
    simp only[ao7,ao4,aop,List.count_nil]
    omega
   refine ak.dec (fun gd=>?_) (fun gd=>?_)
   ·refine vs ?_
    replace f2:=f2.perm fp
    refine jk.intro (fun _=>True) trivial ?_
    refine vs ?_
    refine Du.intro ?_ ?_
    ·refine v6 (ae nV) eG bS Int.toNat_zero anU Nat.add_zero ?_
     refine⟨⟨by omega,by omega⟩,?_⟩
     refine v6 (ae nV) eG bS Int.toNat_zero anU Nat.add_zero ?_
     refine Du.intro ?_ ?_
     ·refine v6 (ae nV) eG bS Int.toNat_zero anU Nat.add_zero ?_
      refine Du.intro ?_ ?_
      ·refine v6 (ae nV) eG bS Int.toNat_zero anU Nat.add_zero ?_
       refine Du.intro ?_ ?_
       ·refine vs ?_
        refine Dk.push x (by omega) fun w' H3 Hn CC OV e3=>?_
        obtain⟨h3,BY,Mu,EY,BZ⟩:=h2.BW nV Cv iA oW e3 CC
        refine v8 (ae BY) BY eG bS Int.toNat_zero anU Nat.add_zero am9 ?_
        refine⟨⟨by omega,by omega,by omega,by omega⟩,?_⟩
        refine v8 (ae BY) BY eG bS Int.toNat_zero anU Nat.add_zero am9 ?_
        have e4:∀v,ag (fun z=>z=H.size) H3 (H3.wr H.size [v]):=fun v=>(ag.refl (fun z=>z=H.size) _).wr (fun _=>rfl) _
        have Ti:∀v,(H3.wr H.size [v]).own H.size=some [v]:=fun v=>ai BY
        have h4:=fun v=>h3.Tg (e4 v) (fun z hz=>by rw[hz];exact⟨ano _,Cu⟩)
        exact⟨_,_,_,_,⟨a,r,now++[x],out,Hn,fo,mQ,l2,V2,kL,iZ,Cr,(h4 _).Q5 ((h4 _).rb.tail _),f2,i2.Jl (by omega),by rw[ank,ant];omega,Ti _,Cu,OV.ext (e4 _) (fun z hz e=>by have:=EY z (.inl hz);omega),Mu.ext (e4 _) (fun z hz e=>by have:=EY z (.inr hz);omega),fun z hz=>by rw[dT];exact EY z hz,BZ,Dl⟩,rfl,rfl,rfl,rfl,rfl,rfl,rfl⟩
       ·refine v6 (ae nV) eG bS Int.toNat_zero anU Nat.add_zero ?_
        refine⟨⟨by omega,by omega,by omega,by omega⟩,?_⟩
        refine v6 (ae nV) eG bS Int.toNat_zero anU Nat.add_zero ?_
        refine Dk.push x (by omega) fun w' H3 Hn CC OV e3=>?_
        obtain⟨h3,BY,Mu,EY,BZ⟩:=h2.BW nV Cv iA oW e3 CC
        refine v8 (ae BY) BY eG bS Int.toNat_zero anU Nat.add_zero am9 ?_
        have e4:∀v,ag (fun z=>z=H.size) H3 (H3.wr H.size [v]):=fun v=>(ag.refl (fun z=>z=H.size) _).wr (fun _=>rfl) _
        have Ti:∀v,(H3.wr H.size [v]).own H.size=some [v]:=fun v=>ai BY
        have h4:=fun v=>h3.Tg (e4 v) (fun z hz=>by rw[hz];exact⟨ano _,Cu⟩)
        exact⟨_,_,_,_,⟨a,r,now++[x],out,Hn,fo,mQ,l2,V2,kL,iZ,Cr,(h4 _).Q5 ((h4 _).rb.tail _),f2,i2.Jl (by omega),by rw[ank,ant];omega,Ti _,Cu,OV.ext (e4 _) (fun z hz e=>by have:=EY z (.inl hz);omega),Mu.ext (e4 _) (fun z hz e=>by have:=EY z (.inr hz);omega),fun z hz=>by rw[dT];exact EY z hz,BZ,Dl⟩,rfl,rfl,rfl,rfl,rfl,rfl,rfl⟩
      ·refine v6 (ae nV) eG bS Int.toNat_zero anU Nat.add_zero ?_
       refine⟨⟨by omega,by omega,by omega,by omega⟩,?_⟩
       refine v6 (ae nV) eG bS Int.toNat_zero anU Nat.add_zero ?_
       refine Dk.push x (by omega) fun w' H3 Hn CC OV e3=>?_
       obtain⟨h3,BY,Mu,EY,BZ⟩:=h2.BW nV Cv iA oW e3 CC
       refine v8 (ae BY) BY eG bS Int.toNat_zero anU Nat.add_zero am9 ?_
       have e4:∀v,ag (fun z=>z=H.size) H3 (H3.wr H.size [v]):=fun v=>(ag.refl (fun z=>z=H.size) _).wr (fun _=>rfl) _
       have Ti:∀v,(H3.wr H.size [v]).own H.size=some [v]:=fun v=>ai BY
       have h4:=fun v=>h3.Tg (e4 v) (fun z hz=>by rw[hz];exact⟨ano _,Cu⟩)
       exact⟨_,_,_,_,⟨a,r,now++[x],out,Hn,fo,mQ,l2,V2,kL,iZ,Cr,(h4 _).Q5 ((h4 _).rb.tail _),f2,i2.Jl (by omega),by rw[ank,ant];omega,Ti _,Cu,OV.ext (e4 _) (fun z hz e=>by have:=EY z (.inl hz);omega),Mu.ext (e4 _) (fun z hz e=>by have:=EY z (.inr hz);omega),fun z hz=>by rw[dT];exact EY z hz,BZ,Dl⟩,rfl,rfl,rfl,rfl,rfl,rfl,rfl⟩
     ·refine v6 (ae nV) eG bS Int.toNat_zero anU Nat.add_zero ?_
      refine⟨⟨by omega,by omega,by omega,by omega⟩,?_⟩
      refine v6 (ae nV) eG bS Int.toNat_zero anU Nat.add_zero ?_
      refine Dk.push x (by omega) fun w' H3 Hn CC OV e3=>?_
      obtain⟨h3,BY,Mu,EY,BZ⟩:=h2.BW nV Cv iA oW e3 CC
      refine v8 (ae BY) BY eG bS Int.toNat_zero anU Nat.add_zero am9 ?_
      have e4:∀v,ag (fun z=>z=H.size) H3 (H3.wr H.size [v]):=fun v=>(ag.refl (fun z=>z=H.size) _).wr (fun _=>rfl) _
      have Ti:∀v,(H3.wr H.size [v]).own H.size=some [v]:=fun v=>ai BY
      have h4:=fun v=>h3.Tg (e4 v) (fun z hz=>by rw[hz];exact⟨ano _,Cu⟩)
      exact⟨_,_,_,_,⟨a,r,now++[x],out,Hn,fo,mQ,l2,V2,kL,iZ,Cr,(h4 _).Q5 ((h4 _).rb.tail _),f2,i2.Jl (by omega),by rw[ank,ant];omega,Ti _,Cu,OV.ext (e4 _) (fun z hz e=>by have:=EY z (.inl hz);omega),Mu.ext (e4 _) (fun z hz e=>by have:=EY z (.inr hz);omega),fun z hz=>by rw[dT];exact EY z hz,BZ,Dl⟩,rfl,rfl,rfl,rfl,rfl,rfl,rfl⟩
    ·refine v6 (ae nV) eG bS Int.toNat_zero anU Nat.add_zero ?_
     refine⟨⟨by omega,by omega,by omega,by omega⟩,?_⟩
     refine v6 (ae nV) eG bS Int.toNat_zero anU Nat.add_zero ?_
     refine⟨⟨by omega,by omega⟩,?_⟩
     refine v6 (ae nV) eG bS Int.toNat_zero anU Nat.add_zero ?_
     refine Dk.push x (by omega) fun w' H3 Hn CC OV e3=>?_
     obtain⟨h3,BY,Mu,EY,BZ⟩:=h2.BW nV Cv iA oW e3 CC
     refine v8 (ae BY) BY eG bS Int.toNat_zero anU Nat.add_zero am9 ?_
     have e4:∀v,ag (fun z=>z=H.size) H3 (H3.wr H.size [v]):=fun v=>(ag.refl (fun z=>z=H.size) _).wr (fun _=>rfl) _
     have Ti:∀v,(H3.wr H.size [v]).own H.size=some [v]:=fun v=>ai BY
     have h4:=fun v=>h3.Tg (e4 v) (fun z hz=>by rw[hz];exact⟨ano _,Cu⟩)
     exact⟨_,_,_,_,⟨a,r,now++[x],out,Hn,fo,mQ,l2,V2,kL,iZ,Cr,(h4 _).Q5 ((h4 _).rb.tail _),f2,i2.Jl (by omega),by rw[ank,ant];omega,Ti _,Cu,OV.ext (e4 _) (fun z hz e=>by have:=EY z (.inl hz);omega),Mu.ext (e4 _) (fun z hz e=>by have:=EY z (.inr hz);omega),fun z hz=>by rw[dT];exact EY z hz,BZ,Dl⟩,rfl,rfl,rfl,rfl,rfl,rfl,rfl⟩
   ·refine vs ?_
    exact⟨_,_,_,_,⟨a,x::r,now,out,nb,fo,mQ,l2,V2,kL,iZ,Cr,h2,f2,i2.T6 (fun c hc=>by injection hc with hc;rw[←hc];omega),by omega,nV,Cu,Dk,Cv,iA,oW,Dl⟩,rfl,rfl,rfl,rfl,rfl,rfl,rfl⟩
  ·refine v7 GJ Cw AF GK nM nN nO ?_
   have Qh:b=[]:=anL.1 (by omega)
   exact⟨_,_,_,_,⟨a,b,now,out,nb,fo,mQ,l2,V2,kL,iZ,Cr,h2,f2,i2.T6 (fun c hc=>by rw[Qh]at hc;cases hc),by omega,nV,Cu,Dk,Cv,iA,oW,Dl⟩,rfl,rfl,rfl,rfl,rfl,rfl,rfl⟩
 clear R6 h2 f2 i2 OU nV Cu Dk Cv iA oW Dl Mt Fv OH GJ Cw AF GK nM nN nO
 rintro e3 H2 ⟨va,vb,vn,vo,R6,hv⟩
 obtain⟨a,b,now,out,nb,fo,mQ,l2,V2,kL,iZ,Cr,h2,f2,i2,OU,nV,Cu,Dk,Cv,iA,oW,Dl⟩:=id R6
 obtain⟨an,cn,rfl,OH⟩:=Dk.cap
 obtain⟨ao,co,rfl⟩:=Sl.shape Cv
 have Mt:=az nV
 have cR:=bU f2.wn fun c hc=>f2.QO (hm:=aD w) hc
 simp only[ank]at cR
 obtain⟨GJ,Cw,AF,GK,nM,nN,nO⟩:=hv
 refine IE (fun e h=>∃va vb vn vo,Q6 H ro nn fb tb c C w lt rows W0 g ch k (k+1) (k+1) (k+1) (fun n=>n=0∨n=2) h va vb vn vo∧Wn e fb nn H.size va vo vn k) ?_ ?_
 ·refine v8 GJ Cw AF GK nM nN nO (ae nV) ?_
  rw[if_neg (by decide:¬ (2:Int)=0),Int.tmod_eq_emod_of_nonneg (by omega)]
  refine v7 GJ Cw AF GK nM nN nO ?_
  refine ak.dec (fun gp=>?_) (fun gp=>?_)
  ·obtain⟨x,r,rfl⟩:∃x r,now=x::r:=aoz (fun h=>by rw[h]at gp;simp at gp)
   have tm:(x::r).length=r.length+1:=anw
   obtain⟨a',c',Nt,HJ,hn'⟩:=id Dk
   injection Nt with Q8 aat Q9
   subst Q8 Q9
   obtain⟨pb,po,pl,rfl,Yk,OO,Ns,hpt⟩:=hn'.resolve_left (by omega)
   have bS:pl[po]? =some (i64 x):=by
    have h7:((x::r).map i64)[0]? =some (i64 x):=rfl
    rw[←hpt,anP,if_pos (by simp),anQ]at h7
    exact h7
   have eG:=ae OO
   refine v7 GJ Cw AF GK nM nN nO ?_
   refine⟨⟨by omega,by omega⟩,?_⟩
   refine v5 eG bS Int.toNat_zero anU Nat.add_zero ?_
   refine Qv Cv x (by omega) fun w' H3 Qy Px Mu e3=>?_
   have h3:=h2.Tg e3 (fun z hz=>by have:=iA z (.inr hz);exact⟨by omega,this.2.2⟩)
   have BY:=e3.own nV (fun hz=>by have:=iA _ (.inr hz);omega)
   have OV:=Dk.ext e3 (fun z h1 h2=>oW z h1 h2)
   have Fy:=e3.size
   refine v7 GJ Cw AF GK nM nN nO ?_
   refine⟨⟨by omega,by omega,by omega,by omega⟩,?_⟩
   refine v7 GJ Cw AF GK nM nN nO ?_
   have fp:(x::r++(a++(b++(out++W0)))).Perm (r++(a++(b++(out++[x]++W0)))):=by
    rw[aoS]
    intro z
    simp only[ao7,ao4,aop,List.count_nil]
    omega
   have EY:∀z,nb=some z∨Qy=some z→H.size<z∧z<H3.size∧mQ z= .no:=fun z hz=>by
    rcases hz with hz|hz
    ·have:=iA z (.inl hz)
     exact⟨this.1,by omega,this.2.2⟩
    ·rcases Px with h1| ⟨y,h1,Qk,Lg⟩
     ·rw[h1]at hz
      have:=iA z (.inr hz)
      exact⟨this.1,by omega,this.2.2⟩
     ·rw[h1]at hz
      injection hz with hz
      subst hz
      exact⟨by omega,Lg,h2.hz _ Qk⟩
   have BZ:∀z,nb=some z→Qy=some z→False:=fun z h1 Qk=>by
    rcases Px with Lg| ⟨y,Lg,h4',h5'⟩
    ·exact oW z h1 (by rw[←Lg];exact Qk)
    ·rw[Lg]at Qk
     injection Qk with Qk
     have:=iA z (.inl h1)
     omega
   exact⟨_,_,_,_,⟨a,b,r,out++[x],nb,Qy,mQ,l2,V2,kL,iZ,Cr,h3,f2.perm fp,i2.ad5,by omega,BY,Cu,OV.tail _,Mu,EY,BZ,Dl⟩,rfl,rfl,rfl,rfl,rfl,rfl,rfl⟩
  ·refine v7 GJ Cw AF GK nM nN nO ?_
   exact⟨_,_,_,_,⟨a,b,now,out,nb,fo,mQ,l2,V2,kL,iZ,Cr,h2,f2,⟨i2.ra,i2.rb,i2.ro,i2.ka,i2.kb,i2.kn,fun c hc=>by have:=i2.ko c hc;omega,i2.hg⟩,by omega,nV,Cu,Dk,Cv,iA,oW,Dl⟩,rfl,rfl,rfl,rfl,rfl,rfl,rfl⟩
 clear R6 h2 f2 i2 OU nV Cu Dk Cv iA oW Dl Mt OH GJ Cw AF GK nM nN nO cR
 rintro e4 H2 ⟨va,vb,vn,vo,R6,hv⟩
 obtain⟨a,b,now,out,nb,fo,mQ,l2,V2,kL,iZ,Cr,h2,f2,i2,OU,nV,Cu,Dk,Cv,iA,oW,Dl⟩:=id R6
 obtain⟨an,cn,rfl,OH⟩:=Dk.cap
 have Mt:=az nV
 obtain⟨GJ,Cw,AF,GK,nM,nN,nO⟩:=hv
 refine v8 GJ Cw AF GK nM nN nO (ae nV) ?_
 refine ak.dec (fun gp=>?_) (fun gp=>?_)
 ·obtain⟨x,y,rfl⟩:∃x y,now=[x,y]:=by
   match now,gp with
   | [x,y],_=>exact⟨x,y,rfl⟩
   | [],gp=>simp at gp
   | [_],gp=>simp at gp
   |_::_::_::_,gp=>simp at gp;omega
  obtain⟨a',c',Nt,HJ,hn'⟩:=id Dk
  injection Nt with Q8 aat Q9
  subst Q8 Q9
  have nj:([x,y]:List Int).length=2:=rfl
  obtain⟨pb,po,pl,rfl,Yk,OO,Ns,hpt⟩:=hn'.resolve_left (by omega)
  have Wr:pl[po]? =some (i64 x):=by
   have h7:(([x,y]:List Int).map i64)[0]? =some (i64 x):=rfl
   rw[←hpt,anP,if_pos (by simp),anQ]at h7
   exact h7
  have Ws:pl[po+1]? =some (i64 y):=by
   have h7:(([x,y]:List Int).map i64)[1]? =some (i64 y):=rfl
   rw[←hpt,anP,if_pos (by simp),anQ]at h7
   exact h7
  have eG:=ae OO
  refine v7 GJ Cw AF GK nM nN nO ?_
  refine⟨⟨by omega,by omega⟩,?_⟩
  refine v12 eG Wr Int.toNat_zero anU Nat.add_zero GJ Cw AF GK nM nN nO ?_
  refine⟨⟨by omega,by omega⟩,?_⟩
  refine v11 eG Ws Int.toNat_one Nat.one_mul GJ Cw AF GK nM nN nO ?_
  have Cg:=i2.kn x (by simp)
  have hyn:=i2.kn y (by simp)
  have Np:=i2.hg x (.inr (.inr (.inl (by simp))))
  have hyg:=i2.hg y (.inr (.inr (.inl (by simp))))
  refine(Di h2.m h2.hz h2.own h2.cq h2.hC aK (W:=a++(b++(out++W0))) f2 (by omega) (by omega)).mono ?_
  rintro _ H3 ⟨p,q,OW,l3,V3,Wt,rfl,M4,m3,f3,c3,r3,Ld,e3⟩
  have aav:∀z,mQ z= .no→¬KC mQ z:=fun z h1 h2=>by
   rcases h2 with (h2| ⟨_,h2⟩)|h2<;>(rw[h1]at h2;cases h2)
  have Fy:=e3.size
  obtain⟨rest,ho⟩:=h2.own
  have afs:¬KC mQ nn:=fun h=>by
   have:=h2.hn
   rcases h with (h| ⟨_,h⟩)|h<;>(rw[this]at h;cases h)
  have h3:nL H ro nn fb tb c C w H3 OW l3 V3 (aw kL p (kL p++[q])) (aE iZ q p) Wt va vb a b:=by
   refine⟨m3,c3,fun z hz=>?_,⟨rest,e3.own ho afs⟩,?_,Ld,h2.rk.trans r3 h2.e.size,h2.ra.ext e3 (fun z _ h=>h) (fun z hz h=>r3.kcs hz h),h2.rb.ext e3 (fun z _ h=>h) (fun z hz h=>r3.kcs hz h),?_⟩
   ·have h5:=h2.hC z hz
    rw[r3.o z (h2.cq.slt z hz) (fun x e=>by rw[h5]at e;cases e),h5]
   ·rw[r3.o nn (az ho) (fun x e=>by rw[h2.hn]at e;cases e),h2.hn]
   ·exact⟨an8 h2.e.size e3.size,fun z hz hn=>by
     rw[e3.aI z (anB hz h2.e.size) (fun h=>hn (h2.rk.kcs hz h)),h2.e.aI z hz hn]⟩
  have BY:=e3.own nV (aav _ Cu)
  have Mu:=Cv.ext e3 (fun z hz=>aav z (iA z (.inr hz)).2.2)
  have f4:ah H3 (H3.new 3 [i64 p]):=(ag.refl _ _).new _ _
  have f4':ag (fun _=>False) H3 (H3.new 3 [i64 p]):=f4
  have h4:=h3.Tg f4' (fun z hz=>hz.elim)
  have nw4:GI (H3.new 3 [i64 p]) (.slice (some ⟨H3.size,0,none⟩) 1 1) [p] (some H3.size):=GI.lit p
  have Yk:=anu.1 f3.wn
  have uc:p∉a∧p∉b∧p∉out∧p∉W0:=by
   have:=Yk.1
   simp only[ann,not_or]at this
   exact⟨this.1,this.2.1,this.2.2.1,this.2.2.2⟩
  have i4:=i2.Zh (p:=p) (q:=q) (ano _) (M4.imp (fun h=>h.1) (fun h=>h.1)) ⟨uc.1,uc.2.1,uc.2.2.1⟩
  have VD:(H3.new 3 [i64 p]).size=H3.size+1:=am _ _ _
  have hd4:∀z,some H3.size=some z∨fo=some z→H.size<z∧z< (H3.new 3 [i64 p]).size∧OW z= .no:=fun z hz=>by
   rcases hz with hz|hz
   ·injection hz with hz
    subst hz
    exact⟨by omega,by omega,Ld _ (ano _)⟩
   ·have:=iA z (.inr hz)
    exact⟨this.1,by omega,r3.none this.2.1 this.2.2⟩
  have aft:∀z,some H3.size=some z→fo=some z→False:=fun z h1 Qk=>by
   injection h1 with h1
   have:=iA z (.inr Qk)
   omega
  refine v7 GJ Cw AF GK nM nN nO ?_
  rw[wrap64 (n:=(k:Int)+1) (by omega) (by omega)]
  refine⟨w.cs.length+1 - (k+1),by omega,k+1,va,vb,_,vo,rfl,⟨a,b,[p],out,some H3.size,fo,OW,l3,V3,_,_,Wt,h4,f3,i4,by simp,f4.own BY (fun h=>h),r3.none Mt Cu,nw4,Mu.ext f4 (fun _ _ h=>h),hd4,aft,fun z hz=>?_⟩,rfl⟩
  unfold aw
  rw[if_neg (fun e=>uc.2.2.2 (by rw[←e];exact hz))]
  exact Dl z hz
 ·refine v7 GJ Cw AF GK nM nN nO ?_
  have JW:now=[]:=anL.1 (by omega)
  subst JW
  rw[wrap64 (n:=(k:Int)+1) (by omega) (by omega)]
  exact⟨w.cs.length+1 - (k+1),by omega,k+1,va,vb,_,vo,rfl,⟨a,b,[],out,nb,fo,mQ,l2,V2,kL,iZ,Cr,h2,f2,i2.Zg (ano _),by simp,nV,Cu,Dk,Cv,iA,oW,Dl⟩,rfl⟩
end
end Go.Proofs.YtjlnnljohemifaaGreat

namespace Go.Proofs.YtjlnnljohemifaaGreat
open Go Go.Vc
structure Yn where
 n:Nat
 c:Nat
 fb:Nat
 tb:Nat
 rp:Nat
structure tI(H:Hp)(ro:Nat→Rl)(B:Yn)(C:Nat→Prop)(w:Nw)(l:List Value)(V:Int→Value)(ch:Int→List Int)(par:Int→Int)(kb:Int→Option Nat)(cN:List Value)(rows:Int→List Int)(rb:Int→Option Nat):Prop where
 own:∃tv,H.own B.n=some [ptr B.c,ptr B.fb,tv]∧Sl H 1 tv cN.length cN (some B.rp)
 row:∀g:Int,0≤g→g<cN.length→∃sv,cN[g.toNat]? =some sv∧Sl H 1 sv (rows g).length ((rows g).map i64) (rb g)
 cells:CQ H B.c C w
 fo:ForM H ro B.fb B.tb w.cs.length l V ch par kb
 hC:∀z,C z→ro z= .cell
 rn:ro B.n= .Qt
 rr:ro B.rp= .J4
 lL:∀ (g:Int) b,0≤g→g<cN.length→rb g=some b→ro b= .row g
 hz:∀z,H.size≤z→ro z= .no
def dw(ro:Nat→Rl)(z:Nat):Prop:=ro z≠ .no
section
variable {H H' : Hp} {ro ro' : Nat → Rl} {B : Yn} {C T : Nat → Prop} {w w' : Nw} {l l' : List Value} {V V' : Int → Value} {ch dH : Int → List Int} {par bB : Int → Int} {kb r9 : Int → Option Nat} {cN : List Value} {rows : Int → List Int} {rb : Int → Option Nat} {lt : Int → Int → Bool} {W W0 L : List Int}
theorem tI.slt(m:tI H ro B C w l V ch par kb cN rows rb):∀z,dw ro z→z<H.size:=fun z hz=>by
 apply anC
 intro h
 exact hz (m.hz z (by omega))
theorem eT{ro:Nat→Rl}{z:Nat}{r:Rl}(h:ro z=r)(hr:r≠ .no):dw ro z:=fun e=>hr (by rw[←h,e])
theorem tI.ext(m:tI H ro B C w l V ch par kb cN rows rb)(e:ag T H H')(hd:∀z,dw ro z→¬T z):tI H' ro B C w l V ch par kb cN rows rb:=by
 obtain⟨tv,h1,h2⟩:=m.own
 have hs:=e.size
 refine⟨⟨tv,e.own h1 (hd _ (eT m.rn nofun)),h2.ext e (fun b hb=>by injection hb with hb;subst hb;exact hd _ (eT m.rr nofun))⟩,fun g h0 h1=>?_,m.cells.ext e (fun z hz=>hd z (eT (m.hC z hz) nofun)),m.fo.ext e (fun z hz=>?_),m.hC,m.rn,m.rr,m.lL,fun z hz=>m.hz z (by omega)⟩
 ·obtain⟨sv,q1,q2⟩:=m.row g h0 h1
  exact⟨sv,q1,q2.ext e (fun b hb=>hd b (eT (m.lL g b h0 h1 hb) nofun))⟩
 ·rcases hz with h|h| ⟨x,h⟩<;>exact hd z (eT h nofun)
theorem tI.fresh(m:tI H ro B C w l V ch par kb cN rows rb)(e:ah H H'):tI H' ro B C w l V ch par kb cN rows rb:=m.ext e fun _ _ h=>h
theorem tI.aG(m:tI H ro B C w l V ch par kb cN rows rb)(c1:CQ H' B.c C w')(e:ag C H H')(hl:w'.cs.length=w.cs.length):tI H' ro B C w' l V ch par kb cN rows rb:=by
 obtain⟨tv,h1,h2⟩:=m.own
 have hs:=e.size
 have hd:∀z r,ro z=r→r≠ .cell→¬C z:=fun z r h1 h2 hc=>h2 (by rw[←h1,m.hC z hc])
 refine⟨⟨tv,e.own h1 (hd _ _ m.rn nofun),h2.ext e (fun b hb=>by injection hb with hb;subst hb;exact hd _ _ m.rr nofun)⟩,fun g h0 h1=>?_,c1,?_,m.hC,m.rn,m.rr,m.lL,fun z hz=>m.hz z (by omega)⟩
 ·obtain⟨sv,q1,q2⟩:=m.row g h0 h1
  exact⟨sv,q1,q2.ext e (fun b hb=>hd b _ (m.lL g b h0 h1 hb) nofun)⟩
 ·rw[hl]
  refine m.fo.ext e (fun z hz=>?_)
  rcases hz with h|h| ⟨x,h⟩<;>exact hd z _ h nofun
theorem tI.Ra(m:tI H ro B C w l V ch par kb cN rows rb)(f:ForM H' ro' B.fb B.tb w.cs.length l' V' dH bB r9)(c1:CQ H' B.c C w)(r:RK H.size ro ro')(hz:∀z,H'.size≤z→ro' z= .no)(e:ag (KC ro) H H'):tI H' ro' B C w l' V' dH bB r9 cN rows rb:=by
 obtain⟨tv,h1,h2⟩:=m.own
 have hd:∀z q,ro z=q→(∀x,q≠ .nS x)→q≠ .table→q≠ .cell→¬KC ro z:=fun z q h1 h2 h3 h4 hc=>by
  rcases hc with (hc| ⟨x,hc⟩)|hc
  ·exact h3 (by rw[←h1,hc])
  ·exact h2 x (by rw[←h1,hc])
  ·exact h4 (by rw[←h1,hc])
 have hk:∀z q,ro z=q→q≠ .no→(∀x,q≠ .nS x)→ro' z=q:=fun z q h1 h2 h3=>by
  rw[r.o z (m.slt z (eT h1 h2)) (fun x e=>h3 x (by rw[←h1,e])),h1]
 refine⟨⟨tv,e.own h1 (hd _ _ m.rn nofun nofun nofun),h2.ext e (fun b hb=>by injection hb with hb;subst hb;exact hd _ _ m.rr nofun nofun nofun)⟩,fun g h0 h1=>?_,c1,f,fun z hz=>hk z _ (m.hC z hz) nofun nofun,hk _ _ m.rn nofun nofun,hk _ _ m.rr nofun nofun,fun g b h0 h1 hb=>hk b _ (m.lL g b h0 h1 hb) nofun nofun,hz⟩
 obtain⟨sv,q1,q2⟩:=m.row g h0 h1
 exact⟨sv,q1,q2.ext e (fun b hb=>hd b _ (m.lL g b h0 h1 hb) nofun nofun nofun)⟩
theorem tI.Uw(m:tI H ro B C w l V ch par kb cN rows rb){g:Int}(hg:0≤g∧g<cN.length){H1:Hp}(e0:ag (fun z=>rb g=some z) H H1){lb:List Value}(Cm:H1.own B.rp=some lb){sv:Value}{L':List Int}{o:Option Nat}(s:Sl H1 1 sv L'.length (L'.map i64) o)(ho:∀b,o=some b→ro b= .no∨ro b= .row g):
  tI (H1.wr B.rp (lb.set g.toNat sv)) (fun z=>if o=some z then .row g else ro z) B C w l V ch par kb (cN.set g.toNat sv) (aw rows g L') (fun k=>if k=g then o else rb k)∧ag (dw ro) H (H1.wr B.rp (lb.set g.toNat sv))∧
   (∀z,dw (fun z=>if o=some z then .row g else ro z) z→dw ro z∨o=some z):=by
 obtain⟨tv,h1,h2⟩:=m.own
 have e:ag (fun z=>z=B.rp) H1 (H1.wr B.rp (lb.set g.toNat sv)):=(ag.refl (fun z=>z=B.rp) _).wr (fun _=>rfl) _
 have Of:(H1.wr B.rp (lb.set g.toNat sv)).size=H1.size:=dT _ _ _
 have hs0:=e0.size
 have I4:∀z q,ro z=q→q≠ .no→q≠ .row g→(if o=some z then Rl.row g else ro z)=q:=fun z q h1 h2 h3=>by
  rw[if_neg (fun e=>by rcases ho z e with h|h;exact h2 (by rw[←h1,h]);exact h3 (by rw[←h1,h])),h1]
 have ne:∀z q,ro z=q→q≠ .J4→z≠B.rp:=fun z q h1 h2 e=>h2 (by rw[←h1,e,m.rr])
 have n0:∀z q,ro z=q→q≠ .row g→¬rb g=some z:=fun z q h1 h2 h3=>h2 (by rw[←h1,m.lL g z hg.1 hg.2 h3])
 have hob:∀b,o=some b→b≠B.rp:=fun b hb e=>by rcases ho b hb with h|h<;>(rw[e,m.rr]at h;cases h)
 obtain⟨ta,tc,rfl⟩:=Sl.shape h2
 have hta:ta=some ⟨B.rp,0,none⟩:=by
  obtain⟨_,_,_,hh,_⟩:=h2
  injection hh with hh
 subst hta
 have h3:=h2.ext e0 (fun b hb=>by injection hb with hb;subst hb;exact n0 _ _ m.rr nofun)
 refine⟨⟨⟨_,e.own (e0.own h1 (n0 _ _ m.rn nofun)) (ne _ _ m.rn nofun),?_⟩,fun k h0 h1=>?_,(m.cells.ext e0 (fun z hz=>n0 z _ (m.hC z hz) nofun)).ext e (fun z hz=>ne z _ (m.hC z hz) nofun),?_,fun z hz=>I4 z _ (m.hC z hz) nofun nofun,I4 _ _ m.rn nofun nofun,I4 _ _ m.rr nofun nofun,fun k b h0 h1 hb=>?_,fun z hz=>?_⟩,
  (e0.mono fun z _ h=>eT (m.lL g z hg.1 hg.2 h) nofun).trans (e.mono fun z _ h=>by rw[h];exact eT m.rr nofun),fun z hz=>?_⟩
 ·rw[anb]
  exact h3.sW Cm g.toNat sv
 ·rw[anb]at h1
  by_cases hk:k=g
  ·subst hk
   refine⟨sv,by rw[ani (by omega)],?_⟩
   unfold aw
   rw[if_pos rfl,if_pos rfl]
   exact s.ext e (fun b hb=>hob b hb)
  ·obtain⟨Um,q1,q2⟩:=m.row k h0 h1
   refine⟨Um,by rw[anh (by omega)];exact q1,?_⟩
   unfold aw
   rw[if_neg hk,if_neg hk]
   exact(q2.ext e0 (fun b hb=>n0 b _ (m.lL k b h0 h1 hb) (fun e=>hk (by injection e)))).ext e (fun b hb=>ne b _ (m.lL k b h0 h1 hb) nofun)
 ·have f1:=(m.fo.ext e0 (fun z hz=>by rcases hz with h|h| ⟨x,h⟩<;>exact n0 z _ h nofun)).ext e (fun z hz=>by rcases hz with h|h| ⟨x,h⟩<;>exact ne z _ h nofun)
  exact⟨f1.t,f1.kd,I4 _ _ f1.rf nofun nofun,I4 _ _ f1.rt nofun nofun,fun x b h0 h1 hb=>I4 _ _ (f1.rk x b h0 h1 hb) nofun nofun,f1.FC,f1.no⟩
 ·rw[anb]at h1
  by_cases hk:k=g
  ·rw[if_pos hk]at hb
   rw[if_pos hb,hk]
  ·rw[if_neg hk]at hb
   have:=m.lL k b h0 h1 hb
   exact I4 b _ this nofun (fun e=>hk (by injection e))
 ·rw[Of]at hz
  rw[if_neg (fun e=>?_),m.hz z (by omega)]
  cases o with
  |none=>cases e
  |some b=>
   injection e with e
   have:=Sl.lt s
   omega
 ·by_cases h:o=some z
  ·exact .inr h
  ·refine .inl fun h2=>hz ?_
   simp only[if_neg h]
   exact h2
theorem tI.Ku(m:tI H ro B C w l V ch par kb cN rows rb){g:Int}(hg:0≤g∧g<cN.length):∃lb tc sv,H.own B.n=some [ptr B.c,ptr B.fb,.slice (some ⟨B.rp,0,none⟩) cN.length tc]∧H.own B.rp=some lb∧lb[g.toNat]? =some sv∧g.toNat<lb.length∧cN[g.toNat]? =some sv∧
  Sl H 1 sv (rows g).length ((rows g).map i64) (rb g):=by
 obtain⟨tv,h1,h2⟩:=m.own
 obtain⟨sv,q1,q2⟩:=m.row g hg.1 hg.2
 obtain⟨_,lb,tc,rfl,ho,hc,hl,ht⟩:=h2
 refine⟨lb,tc,sv,h1,ho,?_,by omega,q1,q2⟩
 have h7:=q1
 rw[←ht,anP]at h7
 split at h7
 ·exact h7
 ·cases h7
theorem Sl.rdB{sv:Value}{L:List Int}{fp:Option Nat}{Bd:Nat}(s:Sl H 1 sv L.length (L.map i64) fp)(hf:∀b,fp=some b→b<Bd∧¬KC ro b):EX H ro Bd sv L:=by
 cases fp with
 |none=>
  obtain⟨_,h2,rfl⟩:=s
  exact⟨none,0,by rw[h2],by omega,.inl (anL.1 h2)⟩
 |some b=>
  obtain⟨_,lb,c,rfl,ho,hc,hl,ht⟩:=s
  obtain⟨h1,h2⟩:=hf b rfl
  refine⟨_,c,rfl,hc,.inr ⟨b,0,lb,rfl,h1,h2,ae ho,by omega,?_⟩⟩
  rw[apa]
  rw[ane]at ht
  exact ht
theorem Ah(m:tI H ro B C w l V ch par kb cN rows rb){g:Int}{lv:Value}(R4:EX H ro H.size lv L)(aK:∀a b,aN w a b=true→lt a b=true)(f:jh (aD w) lt ch par rows (L++W0))(hL:DN ch L)(hg:∀c∈L,aD w c=g)(wO:0≤g∧g<cN.length):
  af Tryz.prog uO [ptr B.n,i64 g,lv] H fun v H'=>ar (∃ro' l' V' dH bB r9 Mq jw rb',tI H' ro' B C w l' V' dH bB r9 Mq jw rb'∧jh (aD w) lt dH bB jw W0∧Mq.length=cN.length∧(∀z∈W0,dH z=ch z)∧
   (∀z,dw ro' z→dw ro z∨H.size≤z)∧ag (dw ro) H H'):=by
 obtain⟨lb,tc,sv,o1,q1,q2,Cm,_,s2⟩:=m.Ku wO
 obtain⟨va,vc,rfl⟩:=Sl.shape s2
 obtain⟨aL,cL,rfl,hcL⟩:=R4.cap
 have hra:EX H ro H.size (.slice va (rows g).length vc) (rows g):=Sl.rdB s2 (fun b hb=>by
  have h5:=m.lL g b wO.1 wO.2 hb
  refine⟨m.slt b (eT h5 nofun),fun hc=>?_⟩
  rcases hc with (hc| ⟨x,hc⟩)|hc<;>(rw[h5]at hc;cases hc))
 have h0:nL H ro B.n B.fb B.tb B.c C w H ro l V ch par kb (.slice va (rows g).length vc) (.slice aL L.length cL) (rows g) L:=⟨m.fo,m.cells,m.hC,⟨_,o1⟩,m.rn,m.hz,RK.refl m.hz,hra,R4,ag.refl _ _⟩
 have f1:=f.loose g
 have rq:∀c∈rows g,aD w c=g:=fun c hc=>(f.rm g c hc).1
 refine aP vt ?_
 refine vs ?_
 refine jk.intro (fun H'=>H'.own B.n=some [ptr B.c,ptr B.fb,.slice (some ⟨B.rp,0,none⟩) cN.length tc]) o1 ?_
 refine vs ?_
 refine fk.intro (.slice (some ⟨B.rp,0,none⟩) cN.length tc) (fun H' hI=>by refine v1 (ae hI) ?_;trivial) ?_
 refine vs ?_
 have hgi:0≤g∧g< (cN.length:Int):=wO
 have key:∀K:Value→Hp→Prop,(∀out ro' l' V' dH bB r9 vo fo H',nL H ro B.n B.fb B.tb B.c C w H' ro' l' V' dH bB r9 (.slice none 0 0) (.slice none 0 0) [] []→Sl H' 1 vo out.length (out.map i64) fo→(∀z,fo=some z→H.size≤z∧ro' z= .no)→jh (aD w) lt dH bB (aw rows g []) (out++W0)→DN dH out→(∀c∈out,aD w c=g)→(∀z∈W0,dH z=ch z)→K (.tuple [vo,.bool true].toArray) H')→
   af Tryz.prog jW [ptr B.fb,.iface 198 (ptr B.n),.slice va (rows g).length vc,.slice aL L.length cL] H K:=fun K hK=>by
  refine(BX h0 aK f1 (f.rr g) hL (fun c hc=>by rcases hc with h|h;exact rq c h;exact hg c h)).mono ?_
  rintro _ H' ⟨out,ro',l',V',dH,bB,r9,vo,fo,rfl,h1,h2,h3,h4,h5,h6,h7⟩
  exact hK out ro' l' V' dH bB r9 vo fo H' h1 h2 h3 h4 h5 h6 h7
 refine Du.intro ?A ?B
 case' A=>
  refine v1 (ae o1) ?_
  refine And.intro o1 ?_
  refine v1 (ae o1) ?_
  refine And.intro o1 ?_
  refine vs ?_
  refine⟨⟨by omega,by omega⟩,?_⟩
  refine v4 (ae q1) am9 ane q2 ?_
  refine And.intro o1 ?_
  refine vs ?_
 case' B=>
  refine v1 (ae o1) ?_
  refine And.intro o1 ?_
  refine vs ?_
  refine⟨⟨by omega,by omega⟩,?_⟩
  refine vs ?_
  refine Du.intro ?C ?D
  case' C=>
   refine v1 (ae o1) ?_
   refine And.intro o1 ?_
   refine v4 (ae q1) am9 ane q2 ?_
   refine And.intro o1 ?_
   refine vs ?_
  case' D=>
   refine v4 (ae q1) am9 ane q2 ?_
   refine And.intro o1 ?_
   refine v1 (ae o1) ?_
   refine And.intro o1 ?_
   refine vs ?_
 all_goals
  refine key _ fun out mQ l2 V2 kL iZ Cr vo fo2 H2 h2 Cv Px f2 r2 g2 w2=>?_
  obtain⟨vb,vc2,rfl⟩:=Sl.shape Cv
  have m2:=m.Ra h2.m h2.cq h2.rk h2.hz h2.e
  obtain⟨lb2,tc2,sv2,o2,q3,q4,aky,_,_⟩:=m2.Ku wO
  have o2':H2.own B.n=some [ptr B.c,ptr B.fb,.slice (some ⟨B.rp,0,none⟩) cN.length tc]:=h2.e.own o1 (fun hc=>by
   rcases hc with (hc| ⟨x,hc⟩)|hc<;>(rw[m.rn]at hc;cases hc))
  refine And.intro o2' ?_
  refine vs ?_
  refine⟨⟨by omega,by omega⟩,?_⟩
  refine v3 q3 am9 ane ?_
  refine⟨by omega,?_⟩
  obtain⟨m3,e3,Sd⟩:=m2.Uw wO (ag.refl _ _) q3 Cv (fun b hb=>.inl (Px b hb).2)
  refine vs ?_
  have hnr:B.n≠B.rp:=fun e=>by have:=m2.rn;rw[e,m2.rr]at this;cases this
  refine And.intro (((ag.refl (fun z=>z=B.rp) _).wr (fun _=>rfl) _:ag (fun z=>z=B.rp) H2 _).own o2' hnr) ?_
  refine vs ?_
  have f3:=f2.row (g:=g) (by unfold aw;rw[if_pos rfl]) r2 g2
  rw[dY]at f3
  have Mv:∀z,dw mQ z→dw ro z∨H.size≤z:=fun z hz=>by
   by_cases Nd:z<H.size
   ·refine .inl fun h=>hz ?_
    exact h2.rk.none Nd h
   ·exact .inr (by omega)
  refine⟨_,l2,V2,kL,iZ,Cr,_,_,_,m3,f3,anb ..,w2,fun z hz=>?_,?_⟩
  ·rcases Sd z hz with h|h
   ·exact Mv z h
   ·exact .inr (Px z h).1
  ·have e2:ag (dw ro) H H2:=h2.e.mono fun z _ h=>by
    rcases h with (h| ⟨x,h⟩)|h<;>exact eT h nofun
   exact⟨an8 e2.size e3.size,fun z hz hn=>by
    rw[e3.aI z (anB hz e2.size) (fun h=>by
     rcases Mv z h with h|h
     ·exact hn h
     ·omega),e2.aI z hz hn]⟩
end
end Go.Proofs.YtjlnnljohemifaaGreat

namespace Go.Proofs.YtjlnnljohemifaaGreat
open Go Go.Vc
def gf(n:Nat)(H:Hp)(S:Nat→Prop)(w:Nw):Prop:=∃ (B:Yn) (ro:Nat→Rl) (C:Nat→Prop) (l:List Value) (V:Int→Value) (ch:Int→List Int) (par:Int→Int) (kb:Int→Option Nat) (cN:List Value) (rows:Int→List Int) (rb:Int→Option Nat),
 B.n=n∧tI H ro B C w l V ch par kb cN rows rb∧jh (aD w) (aN w) ch par rows []∧cN.length=w.hs.length∧∀z,S z↔dw ro z
theorem gf.slt{n:Nat}{H:Hp}{S:Nat→Prop}{w:Nw}(h:gf n H S w):∀z,S z→z<H.size:=by
 obtain⟨B,ro,C,l,V,ch,par,kb,cN,rows,rb,rfl,m,f,hl,hS⟩:=h
 exact fun z hz=>m.slt z ((hS z).1 hz)
theorem gf.ext{n:Nat}{H H':Hp}{S T:Nat→Prop}{w:Nw}(h:gf n H S w)(e:ag T H H')(hd:∀z,S z→¬T z):gf n H' S w:=by
 obtain⟨B,ro,C,l,V,ch,par,kb,cN,rows,rb,rfl,m,f,hl,hS⟩:=h
 exact⟨B,ro,C,l,V,ch,par,kb,cN,rows,rb,rfl,m.ext e (fun z hz=>hd z ((hS z).2 hz)),f,hl,hS⟩
section
variable {H H' : Hp} {ro ro' : Nat → Rl} {B : Yn} {C T : Nat → Prop} {w w' : Nw} {l l' : List Value} {V V' : Int → Value} {ch dH : Int → List Int} {par bB : Int → Int} {kb r9 : Int → Option Nat} {cN : List Value} {rows : Int → List Int} {rb : Int → Option Nat} {lt : Int → Int → Bool} {W W0 L : List Int}
theorem tI.Rb(m:tI H ro B C w l V ch par kb cN rows rb)(hl:cN.length=w.hs.length){g:Int}(h:w.has g):0≤g∧g<cN.length:=by
 have h1:=h.1
 have:=(ana.1 h.2).1
 omega
theorem IF(m:tI H ro B C w l V ch par kb cN rows rb)(f:jh (aD w) lt ch par rows W)(hl:cN.length=w.hs.length)(g:Int):af Tryz.prog uP [ptr B.n,i64 g] H fun v H'=>ar ((∃o,Sl H 1 v (rows g).length ((rows g).map i64) o∧∀b,o=some b→b<H.size∧¬KC ro b)∧H'=H):=by
 obtain⟨tv,ho,_⟩:=m.own
 refine aP vu ?_
 refine v1 (ae ho) ?_
 refine(iq m.cells g).mono ?_
 rintro _ _ ⟨rfl,rfl⟩
 refine vs ?_
 by_cases hg:w.has g
 ·rw[anp hg]
  have wO:=m.Rb hl hg
  obtain⟨lb,tc,sv,o1,q1,q2,Cm,_,s2⟩:=m.Ku wO
  refine v1 (ae o1) ?_
  refine⟨⟨by omega,by omega⟩,?_⟩
  refine v4 (ae q1) am9 ane q2 ?_
  refine⟨⟨rb g,s2,fun b hb=>?_⟩,rfl⟩
  have h5:=m.lL g b wO.1 wO.2 hb
  refine⟨m.slt b (eT h5 nofun),fun hc=>?_⟩
  rcases hc with (hc| ⟨x,hc⟩)|hc<;>(rw[h5]at hc;cases hc)
 ·rw[anD hg]
  refine vs ?_
  have hr:rows g=[]:=by
   cases hc:rows g with
   |nil=>rfl
   |cons c r=>
    obtain⟨h1,_,h2,_⟩:=f.rm g c (by rw[hc];simp)
    have:=((m.cells.hm c).2 (by omega)).1
    rw[h1]at this
    exact absurd this hg
  rw[hr]
  exact⟨⟨none,Sl.nil _ _,nofun⟩,rfl⟩
theorem jh.root(f:jh (aD w) (aN w) ch par rows []){y g:Int}(hg:0<g)(hy:aD w y=g):∃r∈rows g,r=y∨aN w r y=true:=by
 obtain⟨r,h1,h2,h3⟩:=f.pr.root (aq w) (n:=w.cs.length) (fun x h=>tA x h) _ (ano _) (x:=y) (by omega)
 rcases f.jg r (by omega) h2 with h|h
 ·rw[h1,hy]at h
  exact⟨r,h,h3⟩
 ·cases h
theorem Ai{n:Nat}{H:Hp}{S:Nat→Prop}{w:Nw}(h:gf n H S w)(g:Int):af Tryz.prog k8 [ptr n,i64 g] H fun v H'=>ar (
  (w.len g=0∧v= .tuple [i64 0,.bool false].toArray∧gf n H' S w∧ag S H H')∨(∃x,w.first g x∧v= .tuple [i64 x,.bool true].toArray∧gf n H' S w∧ag S H H')):=by
 obtain⟨B,ro,C,l,V,ch,par,kb,cN,rows,rb,rfl,m,f,hl,hS⟩:=id h
 have vM:=m.cells.CY
 refine aP vq ?_
 refine vs ?_
 refine(IF m f hl g).mono ?_
 rintro _ H' ⟨⟨o,s,hso⟩,e⟩
 obtain rfl:=e.symm
 obtain⟨va,vc,rfl⟩:=Sl.shape s
 refine vs ?_
 refine ak.dec (fun h0=>?_) (fun h0=>?_)<;>refine vs ?_
 ·refine .inl ⟨?_,rfl,h,ag.refl _ _⟩
  have hr:rows g=[]:=anL.1 (by omega)
  by_cases hg:0<g
  ·rw[s8 hg]
   intro x hx
   obtain⟨r,uC,_⟩:=f.root hg hx
   rw[hr]at uC
   cases uC
  ·exact Nw.Gr.2 (.inl (by omega))
 obtain⟨x,R,hr⟩:∃x R,rows g=x::R:=aoz (fun e=>h0 (by rw[e];rfl))
 have R2:∀c∈rows g,aD w c=g∧0<g:=fun c hc=>by
  obtain⟨h1,_,h2,_⟩:=f.rm g c hc
  exact⟨h1,h2⟩
 have QA:=(R2 x (by rw[hr];simp)).2
 rw[hr]at s R2
 have Yf:(rows g).length=(x::R).length:=by rw[hr]
 rw[Yf]
 have ny:(x::R).length=R.length+1:=anw
 have hsB:=s
 have aV:=bU (f.rr g).nodup fun c hc=>tA (w:=w) c (by have:=R2 c (by rw[←hr];exact hc);omega)
 rw[hr]at aV
 obtain⟨b,lb,c,wF,rfl,qb,qc,_,Cm,_⟩:=Sl.Tf s (i:=0) (x:=x) rfl
 injection wF with h1 h2 h3
 subst h1 h3
 have eG:=ae qb
 obtain⟨_,Uj,c',et,q2,Fy,Vz,OC⟩:=id s
 injection et with _ _ et
 subst et
 rw[qb]at q2
 injection q2 with q2
 subst q2
 rw[ane]at Vz OC
 refine⟨⟨by omega,by omega⟩,?_⟩
 refine v5 eG qc Int.toNat_zero anU Nat.add_zero ?_
 refine⟨⟨by omega,by omega,by omega,by omega⟩,?_⟩
 refine vs ?_
 have wO:=m.Rb hl ((m.cells.hm x).2 (by have:=R2 x (by simp);omega)).1
 rw[(R2 x (by simp)).1]at wO
 have hrB:EX H ro H.size (.slice (some ⟨b,0,none⟩) (x::R).length vc) (x::R):=Sl.rdB s hso
 obtain⟨a',hv,_,_,_⟩:=oV s.rd (lo:=1) (hi:=R.length+1) (lo':=1) (hi':=((R.length+1:Nat):Int)) rfl rfl (by omega) (by omega) (by omega)
 have hB:EX H ro H.size (.slice a' R.length (vc - 1)) R:=by
  rw[show R.length=R.length+1 - 1 by omega,←hv]
  exact hrB.tail _
 rw[hv,show((R.length+1:Nat):Int).toNat - Int.toNat 1=R.length by simp,Nat.add_sub_cancel]
 refine aT.intro (fun mm env H'=>∃ (j:Nat) (bQ:Int),mm=R.length - j∧j≤R.length∧CQ H' B.c C w∧ag C H H'∧bQ∈x::R.take j∧(∀c∈x::R.take j,c≠bQ→aN w bQ c=true)∧
  env=[(0,ptr B.n),(7,i64 bQ),(20,.slice a' R.length (vc - 1)),(21,i64 R.length),(22,i64 j)]) R.length ⟨0,x,rfl,by omega,m.cells,ag.refl _ _,by simp,by simp,rfl⟩ ?_
 rintro mm env H1 ⟨j,bQ,rfl,hj,c1,e1,JV,nA,rfl⟩
 have m1:=m.aG c1 e1 rfl
 obtain⟨BB,o1,_⟩:=m1.own
 refine vs ?_
 refine ak.dec (fun aK=>?_) (fun aK=>?_)<;>refine vs ?_
 ·have fF:j<R.length:=by omega
  obtain⟨y,hy⟩:∃y,R[j]? =some y:=⟨_,am8 fF⟩
  have hB1:=hB.ext e1 (fun z _ hk hc=>hk (.inr (m.hC z hc))) (ro':=ro) (fun _ _ h=>h)
  obtain⟨_,b2,o2,lb2,rfl,q2,q3⟩:=cI.num hB1.rd hy
  refine⟨⟨by omega,by omega⟩,?_⟩
  refine v5 q2 ane Int.toNat_natCast q3 (ae o1) ?_
  refine(cA c1 y bQ).mono ?_
  rintro _ H2 ⟨rfl,c2,e2⟩
  have hym:y∈x::R:=anK _ (ang hy)
  have DG:bQ∈x::R:=by
   rcases anm.1 JV with h|h
   ·rw[h];simp
   ·exact anK _ (List.mem_of_mem_take h)
  have CB:=R2 y hym
  have Ux:=R2 bQ DG
  rw[gF (w:=w) (a:=y) (b:=bQ) (by omega) (by omega)]
  have tk:R.take (j+1)=R.take j++[y]:=by rw[anN,hy];rfl
  cases hyb:aN w y bQ
  ·refine vs ?_
   rw[wrap64 (n:=(j:Int)+1) (by omega) (by omega)]
   refine⟨R.length - (j+1),by omega,j+1,bQ,rfl,by omega,c2,e1.trans e2,?_,fun c hc aM=>?_,rfl⟩
   ·rw[tk,←aop];exact anr _ JV
   ·rw[tk,←aop]at hc
    rcases ann.1 hc with hc|hc
    ·exact nA c hc aM
    ·rw[anj.1 hc]at aM ⊢
     exact((aq w).M8 bQ y (Ne.symm aM)).resolve_right (by rw[hyb];simp)
  ·refine vs ?_
   rw[wrap64 (n:=(j:Int)+1) (by omega) (by omega)]
   refine⟨R.length - (j+1),by omega,j+1,y,rfl,by omega,c2,e1.trans e2,?_,fun c hc aM=>?_,rfl⟩
   ·rw[tk];simp
   ·rw[tk,←aop]at hc
    rcases ann.1 hc with hc|hc
    ·by_cases e:c=bQ
     ·rw[e];exact hyb
     ·exact(aq w).tr _ _ _ hyb (nA c hc e)
    ·exact absurd (anj.1 hc) aM
 ·obtain rfl:j=R.length:=by omega
  rw[anJ]at JV nA
  refine .inr ⟨bQ,?_,rfl,⟨B,ro,C,l,V,ch,par,kb,cN,rows,rb,rfl,m1,f,hl,hS⟩,e1.mono fun z _ hz=>(hS z).2 (eT (m.hC z hz) nofun)⟩
  rw[bH]
  refine⟨QA,(R2 bQ JV).1,fun y hy aM=>?_⟩
  obtain⟨r,GC,uC⟩:=f.root QA hy
  rw[hr]at GC
  by_cases e:r=bQ
  ·rw[e]at uC
   exact uC.resolve_left (fun e2=>aM e2.symm)
  ·have h5:=nA r GC e
   rcases uC with h6|h6
   ·rw[←h6];exact h5
   ·exact(aq w).tr _ _ _ h5 h6
end
end Go.Proofs.YtjlnnljohemifaaGreat

namespace Go.Proofs.YtjlnnljohemifaaGreat
open Go Go.Vc
section
variable {H H' : Hp} {ro ro' : Nat → Rl} {B : Yn} {C T : Nat → Prop} {w w' : Nw} {l l' : List Value} {V V' : Int → Value} {ch dH : Int → List Int} {par bB : Int → Int} {kb r9 : Int → Option Nat} {cN : List Value} {rows : Int → List Int} {rb : Int → Option Nat} {lt : Int → Int → Bool} {W W0 L : List Int}
theorem Dm{n:Nat}{H:Hp}{S:Nat→Prop}{w:Nw}(h:gf n H S w)(g x k s:Int):af Tryz.prog iJ [ptr n,i64 g,i64 x,rZ k s] H fun v H'=>ar (
  (¬w.kT g x∧v= .bool false∧cr (gf n) S H H' w)∨(w.kT g x∧v= .bool true∧cr (gf n) S H H' (w.put x (g,k,s)))):=by
 obtain⟨B,ro,C,l,V,ch,par,kb,cN,rows,rb,rfl,m,f,hl,hS⟩:=h
 have hC:∀z,C z→S z:=fun z h=>(hS z).2 (eT (m.hC z h) nofun)
 refine aP pM ?_
 refine vs ?_
 have f0:ah H (H.new 224 [i64 k,u64 s]):=(ag.refl _ _).new _ _
 have b0:(H.new 224 [i64 k,u64 s]).own H.size=some [i64 k,u64 s]:=ax _ _ _
 have m0:=m.fresh f0
 generalize H.new 224 [i64 k,u64 s]=H0 at*
 have ff:ag S H H0:=f0.mono fun _ _ h=>h.elim
 obtain⟨tv,Gv,_⟩:=m0.own
 refine v2 (ae Gv) (ae b0) ?_
 refine(j9 m0.cells g x k s).mono ?_
 rintro _ H1 (⟨bJ,rfl,c1,e1⟩| ⟨oO,rfl,c1,e1⟩)
 ·refine vs ?_
  exact .inl ⟨bJ,rfl,cr.same ⟨B,ro,C,l,V,ch,par,kb,cN,rows,rb,rfl,m0.aG c1 e1 rfl,f,hl,hS⟩ (ff.trans (e1.mono fun z _ hz=>hC z hz))⟩
 obtain⟨hh,hx,bE⟩:=id oO
 have m1:=m0.aG c1 e1 (by simp[Nw.put])
 have hg:=hh.1
 have da:=m.Rb hl hh
 have cH:=fun y=>dK hx (g,k,s) y
 have fO:aD w x≤0:=Int.not_lt.1 fun h=>bE (bk.1 h)
 have el:∀a b,0<aD w a→0<aD w b→a≠x→b≠x→aN (w.put x (g,k,s)) a b=aN w a b:=fun a b ha hb sj lm=>di hx _ ha hb sj lm
 obtain⟨f1,_⟩:=f.put (hm':=aD (w.put x (g,k,s))) (lt':=aN (w.put x (g,k,s))) (g:=g) rfl fO (by omega) (by omega) (by rw[cH,if_pos rfl]) (fun y hy=>by rw[cH,if_neg hy]) el
 refine vs ?_
 have f2:ah H1 (H1.new 3 [i64 x]):=(ag.refl _ _).new _ _
 have m2:=m1.fresh f2
 have s2:Sl (H1.new 3 [i64 x]) 1 (.slice (some ⟨H1.size,0,none⟩) 1 1) [x].length ([x].map i64) (some H1.size):=Sl.bP (size:=1) (n:=1) (xs:=[i64 x]) rfl rfl
 have z2:(H1.new 3 [i64 x]).size=H1.size+1:=am _ _ _
 have R4:EX (H1.new 3 [i64 x]) ro (H1.new 3 [i64 x]).size (.slice (some ⟨H1.size,0,none⟩) 1 1) [x]:=Sl.rdB s2 fun b hb=>by
  injection hb with hb
  subst hb
  refine⟨by omega,fun hc=>?_⟩
  have:=m1.hz H1.size (ano _)
  rcases hc with (hc| ⟨x,hc⟩)|hc<;>(rw[this]at hc;cases hc)
 generalize H1.new 3 [i64 x]=H2 at*
 refine(Ah m2 R4 (fun _ _ h=>h) (W0:=[]) f1 (List.pairwise_singleton _ _) (fun c hc=>by rw[anj.1 hc,cH,if_pos rfl]) da).mono ?_
 rintro _ H3 ⟨OW,l3,V3,Lf,nJ,Wt,afw,Aj,rb3,m3,f3,Qw,_,Sd,e3⟩
 refine vs ?_
 have eS:ag S H H2:=(ff.trans (e1.mono fun z _ h=>hC z h)).trans (f2.mono fun _ _ h=>h.elim)
 have z1:=eS.size
 refine .inr ⟨oO,rfl,dw OW,⟨B,OW,C,l3,V3,Lf,nJ,Wt,afw,Aj,rb3,rfl,m3,f3,by rw[Qw,hl];rfl,fun z=>Iff.rfl⟩,eS.trans (e3.mono fun z _ h=>(hS z).2 h),fun z hz=>?_⟩
 rcases Sd z hz with h|h
 ·exact .inl ((hS z).2 h)
 ·exact .inr (by omega)
theorem jh.Tj{hm:Int→Int}(f:jh hm lt ch par rows W)(x:Int):DN ch (ch x):=by
 unfold DN
 rw[List.pairwise_iff_getElem]
 intro i j hi hj I5
 rw[f.dg x i _ (am8 hi),f.dg x j _ (am8 hj)]
 exact I5
theorem jh.Tk{hm:Int→Int}(f:jh hm lt ch par rows []){x g:Int}(hx:x∈rows g):jh hm lt ch par (aw rows g ((rows g).filter fun y=> !decide (x=y))) [x]:=by
 have hn:=(f.rr g).nodup
 have hp:(rows g++[]).Perm (((rows g).filter fun y=> !decide (x=y))++[x]):=by
  rw[an7]
  refine(List.perm_ext_iff_of_nodup hn ?_).2 fun y=>?_
  ·rw[anW]
   refine⟨hn.filter _,by simp,fun u hu v hv e=>?_⟩
   rw[an6]at hu
   rw[anj.1 hv]at e
   simp[e]at hu
  ·rw[ann,an6,anj]
   by_cases h:x=y
   ·simp[←h,hx]
   ·simp[h,Ne.symm h]
 have f2:=((f.loose g).perm hp).row (g:=g) (by unfold aw;rw[if_pos rfl]) ((f.rr g).sub List.filter_sublist) (fun c hc=>(f.rm g c (an6.1 hc).1).1)
 rwa[dY]at f2
theorem Dn{H:Hp}{bx:Nat}{x:Int}(hb:H.own bx=some [i64 x])(y:Int):af Tryz.prog iK [i64 y,ptr bx] H fun v H'=>ar (v= .bool (decide (x=y))∧H'=H):=by
 refine ud mixed (an:=pO) (by conv=>lhs;cbv) (nt:=7) (by kernel_rfl) (by simp) ?_
 refine v1 (ae hb) ?_
 exact⟨rfl,rfl⟩
theorem GL(m:tI H ro B C w l V ch par kb cN rows rb)(aK:∀a b,aN w a b=true→lt a b=true)(f:jh (aD w) lt ch par rows []){x g:Int}(tm:x∈rows g)(wO:0≤g∧g<cN.length)(aaw:∀a b,0<aD w a→0<aD w b→a≠x→b≠x→lt a b=true→aN (w.put x (0,0,0)) a b=true):
  af Tryz.prog sA [ptr B.n,i64 g,i64 x] H fun v H'=>ar (v= .bool true∧∃ro' l' V' dH bB r9 Mq jw rb',tI H' ro' B C (w.put x (0,0,0)) l' V' dH bB r9 Mq jw rb'∧jh (aD (w.put x (0,0,0))) (aN (w.put x (0,0,0))) dH bB jw []∧Mq.length=cN.length∧
   (∀z,dw ro' z→dw ro z∨H.size≤z)∧ag (dw ro) H H'):=by
 obtain⟨Np,Ja,QA,_⟩:=f.rm g x tm
 have fO:=tA (w:=w) x (by omega)
 have vM:=m.cells.CY
 have aV:=bU (f.rr g).nodup fun c hc=>tA (w:=w) c (by have:=f.rm g c hc;omega)
 refine aP sK ?_
 refine vs ?_
 have f0:ah H (H.new 3 [i64 x]):=(ag.refl _ _).new _ _
 have b0:(H.new 3 [i64 x]).own H.size=some [i64 x]:=ax _ _ _
 have z0:(H.new 3 [i64 x]).size=H.size+1:=am _ _ _
 have m0:=m.fresh f0
 generalize H.new 3 [i64 x]=H0 at*
 obtain⟨lb,tc,sv,o1,q1,q2,Cm,_,s2⟩:=m0.Ku wO
 obtain⟨va,vc,rfl⟩:=Sl.shape s2
 refine jk.intro (fun H'=>H'.own B.n=some [ptr B.c,ptr B.fb,.slice (some ⟨B.rp,0,none⟩) cN.length tc]) o1 ?_
 refine vs ?_
 refine fk.intro (.slice (some ⟨B.rp,0,none⟩) cN.length tc) (fun H' hI=>by refine v1 (ae hI) ?_;trivial) ?_
 refine v1 (ae o1) ?_
 refine And.intro o1 ?_
 refine vs ?_
 refine⟨⟨by omega,by omega⟩,?_⟩
 refine v4 (ae q1) am9 ane q2 ?_
 refine And.intro o1 ?_
 refine vs ?_
 have IG:∀b,rb g=some b→ro b= .row g:=fun b hb=>m.lL g b wO.1 wO.2 hb
 refine(BD s2 iK [ptr H.size] (fun y=>decide (x=y)) (by kernel_rfl) (fun H' e' y=>Dn (e'.own b0 (fun hh=>by have:=m.slt _ (eT (IG _ hh) nofun);omega)) y) (by omega)).mono ?_
 rintro _ H1 ⟨s3,e1⟩
 obtain⟨va',Us,rfl⟩:=Sl.shape s3
 have aax:∀z q,ro z=q→q≠ .row g→¬rb g=some z:=fun z q h1 h2 h3=>h2 (by rw[←h1,IG z h3])
 have o2:=e1.own o1 (aax _ _ m.rn nofun)
 have q3:=e1.own q1 (aax _ _ m.rr nofun)
 refine And.intro o2 ?_
 refine vs ?_
 refine⟨⟨by omega,by omega⟩,?_⟩
 refine v3 q3 am9 ane ?_
 refine⟨by omega,?_⟩
 obtain⟨m2,e2,uC⟩:=m0.Uw wO e1 q3 s3 (fun b hb=>.inr (IG b hb))
 have hnr:B.n≠B.rp:=fun e=>by have:=m.rn;rw[e,m.rr]at this;cases this
 refine vs ?_
 refine And.intro o2 ?_
 have Wu:¬dw ro H.size:=fun h=>by have:=m.slt _ h;omega
 have b2:=e2.own b0 Wu
 have z2:=e2.size
 have f2:=f.Tk tm
 generalize H1.wr B.rp (lb.set g.toNat (Value.slice va' ((rows g).filter fun y=> !decide (x=y)).length Us))=H2 at*
 obtain⟨mQ,afx⟩:∃mQ:Nat→Rl,mQ=fun z=>if rb g=some z then Rl.row g else ro z:=⟨_,rfl⟩
 rw[←afx]at m2 uC
 have Wv:∀z,dw mQ z→dw ro z:=fun z hz=>(uC z hz).elim id fun h=>eT (IG z h) nofun
 obtain⟨LW,o3,_⟩:=m2.own
 refine v2 (ae o3) (ae b2) ?_
 have mK:(ch x).length≤w.cs.length:=bU (f.pr.nd x) fun c hc=>m.fo.FC x c hc
 refine(BV m2.fo m2.hz fO Ja (by omega)).mono ?_
 rintro sv H3 ⟨OW,l3,V3,Wt,fp3,fo3,r3,Ld,e3,s4,fN⟩
 have z3:=e3.size
 have m3:=m2.Ra fo3 (m2.cells.ext e3 (fun z hz hk=>by
  have:=m2.hC z hz
  rcases hk with hk| ⟨_,hk⟩<;>(rw[this]at hk;cases hk))) r3 Ld (e3.mono fun z _ h=>.inl h)
 have f3:=f2.split.perm (show(x::(ch x++[])).Perm (ch x++[x]) by
  rw[an7]
  exact aoc (l₁:=[x]) (l₂:=ch x))
 have I6:x∉ch x:=fun h=>by have:=f.less h;omega
 have R4:EX H3 OW H3.size sv (ch x):=Sl.rdB s4 fun b hb=>by
  rw[hb]at s4
  refine⟨Sl.lt s4,fun hc=>?_⟩
  have:=(fN b hb).2
  rcases hc with (hc| ⟨x,hc⟩)|hc<;>(rw[this]at hc;cases hc)
 have afz:0≤g∧g< ((cN.set g.toNat (Value.slice va' ((rows g).filter fun y=> !decide (x=y)).length Us)).length:Int):=by rw[anb];exact wO
 refine(Ah m3 R4 aK f3 ((f.Tj x).frame fun c hc=>by unfold aw;rw[if_neg (fun e=>I6 (by have h7:=hc;rw[e]at h7;exact h7))]) (fun c hc=>by
  have:=(f.pr.dn x c hc).2.2.1
  omega) afz).mono ?_
 rintro _ H4 ⟨ro4,l4,V4,Te,IA,kb4,afB,aay,rb4,m4,f4,SY,w4,Y1,e4⟩
 have Ww:∀z,dw OW z→dw ro z∨H.size+1≤z:=fun z hz=>by
  by_cases Nd:z<H2.size
  ·refine .inl (Wv z fun h=>hz ?_)
   exact r3.none Nd h
  ·exact .inr (by omega)
 have SI:¬dw OW H.size:=fun h=>by
  rcases Ww _ h with h|h
  ·exact Wu h
  ·omega
 have afC:¬KB mQ H.size:=fun h=>Wu (Wv _ (by rcases h with h| ⟨_,h⟩<;>exact eT h nofun))
 have b4:=e4.own (e3.own b2 afC) SI
 obtain⟨ZQ,o5,_⟩:=m4.own
 refine v2 (ae o5) (ae b4) ?_
 refine(bY m4.cells x).mono ?_
 have bE:cS w.cs x:=bk.1 (by omega)
 rintro _ H5 (⟨bJ,_,_⟩| ⟨_,rfl,c5,e5⟩)
 ·exact absurd bE bJ
 have m5:=m4.aG c5 e5 (by simp[Nw.put])
 refine vs ?_
 have cH:=fun y=>dK (w:=w) fO (0,0,0) y
 have f5:=f4.drop (hm':=aD (w.put x (0,0,0))) (lt':=aN (w.put x (0,0,0))) (by
  rw[w4 x (by simp)]
  unfold aw
  rw[if_pos rfl]) rfl (by rw[cH,if_pos rfl]) (fun y hy=>by rw[cH,if_neg hy]) aaw
 have z4:=e4.size
 have aaz:∀z,dw ro4 z→dw ro z∨H.size+1≤z:=fun z hz=>by
  rcases Y1 z hz with h|h
  ·exact Ww z h
  ·exact .inr (by omega)
 refine⟨rfl,ro4,l4,V4,Te,IA,kb4,afB,aay,rb4,m5,f5,by rw[SY,anb],fun z hz=>?_,?_⟩
 ·rcases aaz z hz with h|h
  ·exact .inl h
  ·exact .inr (by omega)
 ·refine⟨by have:=e5.size;omega,fun z hz hn=>?_⟩
  rw[e5.aI z (by omega) (fun h=>by
   rcases aaz z (eT (m4.hC z h) nofun)with h|h
   ·exact hn h
   ·omega),e4.aI z (by omega) (fun h=>by
   rcases Ww z h with h|h
   ·exact hn h
   ·omega),e3.aI z (by omega) (fun h=>hn (Wv z (by rcases h with h| ⟨_,h⟩<;>exact eT h nofun))),e2.aI z (by omega) (fun h=>hn h),f0.aI z hz (fun h=>h)]
theorem B0{n:Nat}{H:Hp}{S:Nat→Prop}{w:Nw}(h:gf n H S w)(g:Int):af Tryz.prog gY [ptr n,i64 g] H fun v H'=>ar (
  (w.len g=0∧v= .tuple [i64 0,.bool false].toArray∧cr (gf n) S H H' w)∨(∃x,w.first g x∧v= .tuple [i64 x,.bool true].toArray∧cr (gf n) S H H' (w.put x (0,0,0)))):=by
 refine aP oz ?_
 refine vs ?_
 refine(Ai h g).mono ?_
 rintro _ H1 (⟨h0,rfl,h1,e1⟩| ⟨x,hx,rfl,h1,e1⟩)
 ·refine vs ?_
  exact .inl ⟨h0,rfl,cr.same h1 e1⟩
 refine vs ?_
 obtain⟨B,ro,C,l,V,ch,par,kb,cN,rows,rb,rfl,m,f,hl,hS⟩:=h1
 obtain⟨hg,Np,lG⟩:=bH.1 hx
 have tm:x∈rows g:=by
  obtain⟨r,GC,uC⟩:=f.root hg Np
  rcases uC with h|h
  ·rw[←h];exact GC
  ·by_cases e:r=x
   ·rw[←e];exact GC
   ·have h2:=lG r (f.rm g r GC).1 e
    rw[(aq w).asym h2]at h
    cases h
 have fO:=tA (w:=w) x (by omega)
 have wO:=m.Rb hl ((m.cells.hm x).2 (by omega)).1
 rw[Np]at wO
 refine(GL m (fun _ _ h=>h) f tm wO (fun a b ha hb sj lm h=>by rw[di fO _ ha hb sj lm];exact h)).mono ?_
 rintro _ H2 ⟨rfl,mQ,l2,V2,kL,iZ,Cr,afD,aaA,rb2,m2,f2,nj,uC,e2⟩
 refine vs ?_
 have z1:=e1.size
 refine .inr ⟨x,hx,rfl,dw mQ,⟨B,mQ,C,l2,V2,kL,iZ,Cr,afD,aaA,rb2,rfl,m2,f2,by rw[nj,hl];rfl,fun z=>Iff.rfl⟩,e1.trans (e2.mono fun z _ h=>(hS z).2 h),fun z hz=>?_⟩
 rcases uC z hz with h|h
 ·exact .inl ((hS z).2 h)
 ·exact .inr (by omega)
end
end Go.Proofs.YtjlnnljohemifaaGreat

namespace Go.Proofs.YtjlnnljohemifaaGreat
open Go Go.Vc
section
variable {H H' : Hp} {ro ro' : Nat → Rl} {B : Yn} {C T : Nat → Prop} {w w' : Nw} {l l' : List Value} {V V' : Int → Value} {ch dH : Int → List Int} {par bB : Int → Int} {kb r9 : Int → Option Nat} {cN : List Value} {rows : Int → List Int} {rb : Int → Option Nat} {lt : Int → Int → Bool} {W W0 L : List Int}
theorem tI.aaB(m:tI H ro B C w l V ch par kb cN rows rb){g:Int}(hg:0≤g∧g<cN.length){H1:Hp}(e:ag (fun z=>rb g=some z) H H1){sv:Value}(wF:cN[g.toNat]? =some sv){L':List Int}(s:Sl H1 1 sv L'.length (L'.map i64) (rb g)):
  tI H1 ro B C w l V ch par kb cN (aw rows g L') rb:=by
 obtain⟨tv,h1,h2⟩:=m.own
 have hs:=e.size
 have n0:∀z q,ro z=q→q≠ .row g→¬rb g=some z:=fun z q h1 h2 h3=>h2 (by rw[←h1,m.lL g z hg.1 hg.2 h3])
 refine⟨⟨tv,e.own h1 (n0 _ _ m.rn nofun),h2.ext e (fun b hb=>by injection hb with hb;subst hb;exact n0 _ _ m.rr nofun)⟩,fun k h0 h1=>?_,m.cells.ext e (fun z hz=>n0 z _ (m.hC z hz) nofun),m.fo.ext e (fun z hz=>by rcases hz with h|h| ⟨x,h⟩<;>exact n0 z _ h nofun),m.hC,m.rn,m.rr,m.lL,fun z hz=>m.hz z (by omega)⟩
 by_cases hk:k=g
 ·subst hk
  refine⟨sv,wF,?_⟩
  unfold aw
  rw[if_pos rfl]
  exact s
 ·obtain⟨Um,q1,q2⟩:=m.row k h0 h1
  refine⟨Um,q1,?_⟩
  unfold aw
  rw[if_neg hk]
  exact q2.ext e (fun b hb=>n0 b _ (m.lL k b h0 h1 hb) (fun e=>hk (by injection e)))
theorem GM(m:tI H ro B C w l V ch par kb cN rows rb){x g:Int}(f:K8 (aD w) (aN w) ch par rows [] x)(Np:aD w x=g)(QA:0<g)(wO:0≤g∧g<cN.length)(fid:FuncId)(oN:List Value)(q:Int→Bool)(J:Hp→Prop)(E:(Int→List Int)→Prop)(hJ:J H)
  (sY:∀H' Fx,J H'→ag (fun z=>dw ro z∧z≠B.n) H' Fx→J Fx)(C5:ee Tryz.prog fid=true)
  (hq:∀H' p,J H'→CQ H' B.c C w→0<aD w p→af Tryz.prog fid (i64 p::oN) H' fun v Fx=>ar (v= .bool (q p)∧CQ Fx B.c C w∧ag C H' Fx))(hE:E ch)
  (hEs:∀ (ch:Int→List Int) (par:Int→Int) (rows:Int→List Int) p,K8 (aD w) (aN w) ch par rows [] x→x∈ch p→q p=true→E ch→E (Fw ch x p)):
  af Tryz.prog sz [ptr B.n,i64 g,i64 x,.func (.func fid) #[] oN.toArray] H fun v H'=>ar (∃ro' l' V' dH bB r9 jw,tI H' ro' B C w l' V' dH bB r9 cN jw rb∧K8 (aD w) (aN w) dH bB jw [] x∧E dH∧(bB x= -1∨q (bB x)=false)∧
   (∀z,dw ro' z→dw ro z)∧ag (dw ro) H H'):=by
 have ls:=aq w
 have fO:=tA (w:=w) x (by omega)
 have vM:=m.cells.CY
 refine aP sJ ?_
 refine vs ?_
 refine aT.intro (fun mm env H'=>∃ (ro':Nat→Rl) (l':List Value) (V':Int→Value) (dH:Int→List Int) (bB:Int→Int) (r9:Int→Option Nat) (jw:Int→List Int),mm=w.cs.length - (dH x).length∧tI H' ro' B C w l' V' dH bB r9 cN jw rb∧K8 (aD w) (aN w) dH bB jw [] x∧E dH∧J H'∧
  (∀z,dw ro' z→dw ro z)∧ag (dw ro) H H'∧env=[(0,ptr B.n),(1,i64 g),(2,i64 x),(3,.func (.func fid) #[] oN.toArray)]) _ ⟨ro,l,V,ch,par,kb,rows,rfl,m,f,hE,hJ,fun _ h=>h,ag.refl _ _,rfl⟩ ?_
 clear m f hE hJ
 rintro mm env H1 ⟨Wi,l1,V1,Nz,vT,Yj,mW,rfl,m1,f1,hE1,hJ1,GC,e1,rfl⟩
 obtain⟨BB,o1,_⟩:=m1.own
 refine v1 (ae o1) ?_
 refine(nE m1.fo.t fO).mono ?_
 rintro _ H' ⟨⟨hp,rfl⟩| ⟨hp,rfl⟩,e⟩
 ·obtain rfl:=e.symm
  refine vs ?_
  exact⟨Wi,l1,V1,Nz,vT,Yj,mW,m1,f1,hE1,.inl hp,GC,e1⟩
 obtain rfl:=e.symm
 obtain⟨p,Wx⟩:∃p,p=vT x:=⟨_,rfl⟩
 rw[←Wx]at hp ⊢
 have Ja:=f1.w.pr.up x p Wx.symm hp
 obtain⟨_,_,hpg,AD,_⟩:=f1.w.pr.dn p x Ja
 have eY:=f1.w.less Ja
 have hp0:=tA (w:=w) p (by omega)
 have aV:∀z,(Nz z).length≤w.cs.length:=fun z=>bU (f1.w.pr.nd z) fun c hc=>m1.fo.FC z c hc
 refine vs ?_
 refine⟨C5,?_⟩
 refine af.mono (by simpa using hq H1 p hJ1 m1.cells (by omega)) ?_
 rintro _ H2 ⟨rfl,c2,e2⟩
 have m2:=m1.aG c2 e2 rfl
 have e2':ag (dw ro) H1 H2:=e2.mono fun z _ h=>GC z (eT (m1.hC z h) nofun)
 have hJ2:=sY _ _ hJ1 (e2.mono fun z _ h=>⟨GC z (eT (m1.hC z h) nofun),fun e=>by have:=m1.hC z h;rw[e,m1.rn]at this;cases this⟩)
 have nT:=e1.trans e2'
 cases hqp:q p
 ·refine vs ?_
  exact⟨Wi,l1,V1,Nz,vT,Yj,mW,m2,f1,hE1,.inr (by rw[←Wx];exact hqp),GC,nT⟩
 obtain⟨LW,o2,_⟩:=m2.own
 refine v1 (ae o2) ?_
 refine(nE m2.fo.t hp0).mono ?_
 have Wy:∀h,x∉mW h:=fun h hh=>hp (by rw[Wx];exact(f1.w.rm h x hh).2.1)
 have PU:vT p≠ -1→0≤vT p∧vT p<w.cs.length:=fun h=>by
  have:=(f1.w.pr.dn _ _ (f1.w.pr.up p _ rfl h)).2.2
  exact tA (w:=w) _ (by omega)
 have fin:∀ (H3:Hp) (Aj:Int→List Int),tI H3 Wi B C w l1 V1 Nz vT Yj cN Aj rb→(∀h,Aj h=(mW h).map (gI x p))→J H3→ag (dw ro) H H3→∀ (K:Value→Hp→Prop),(∀H4,(∃m',m'<w.cs.length - (Nz x).length∧∃ (ro':Nat→Rl) (l':List Value) (V':Int→Value) (dH:Int→List Int) (bB:Int→Int) (r9:Int→Option Nat) (jw:Int→List Int),m'=w.cs.length - (dH x).length∧tI H4 ro' B C w l' V' dH bB r9 cN jw rb∧K8 (aD w) (aN w) dH bB jw [] x∧E dH∧J H4∧
  (∀z,dw ro' z→dw ro z)∧ag (dw ro) H H4)→K (.bool true) H4)→af Tryz.prog k9 [ptr B.fb,i64 x] H3 K:=fun H3 Aj m3 Ck hJ3 e3 K hK=>by
  refine(Dh m3.fo m3.hz f1.w fO hp0 Ja PU vM).mono ?_
  rintro _ H4 ⟨rfl,ro4,l4,V4,kb4,fo4,r4,VD,e4,afF⟩
  have m4:=m3.Ra fo4 (m3.cells.ext e4 (fun z hz hk=>by
   have:=m3.hC z hz
   rcases hk with hk| ⟨_,hk⟩<;>(rw[this]at hk;cases hk))) r4 VD (e4.mono fun z _ h=>.inl h)
  have e4':ag (dw ro) H3 H4:=e4.mono fun z _ h=>GC z (by rcases h with h| ⟨_,h⟩<;>exact eT h nofun)
  have f4:=f1.up ls Ja
  have Wz:(fun h=>(mW h).map (gI x p))=Aj:=by funext h;exact(Ck h).symm
  rw[Wz,List.map_nil]at f4
  have SY:(Fw Nz x p x).length=(Nz p).length:=by unfold Fw;rw[jR,anz]
  have:=aV p
  have akK:=e4.size
  refine hK H4 ⟨w.cs.length - (Fw Nz x p x).length,by omega,ro4,l4,V4,_,_,kb4,Aj,rfl,m4,f4,hEs _ _ _ p f1 Ja hqp hE1,sY _ _ hJ3 (e4.mono fun z _ h=>⟨GC z (by rcases h with h| ⟨_,h⟩<;>exact eT h nofun),fun e=>by rw[e]at h;rcases h with h| ⟨_,h⟩<;>(rw[m3.rn]at h;cases h)⟩),fun z hz=>?_,e3.trans e4'⟩
  exact GC z fun h=>hz (afF z h)
 rintro _ H' ⟨⟨NY,rfl⟩| ⟨NY,rfl⟩,e⟩
 ·obtain rfl:=e.symm
  have hpr:p∈mW g:=by
   rcases f1.w.jg p (by omega) NY with h|h
   ·rw[hpg,Np]at h;exact h
   ·cases h
  obtain⟨lb,tc,sv,o3,q1,q2,Cm,wF,s3⟩:=m2.Ku wO
  obtain⟨k0,Yo,ek0⟩:=ao8.1 hpr
  obtain⟨b,lr,rc,rfl,Wo,qb,qk0,akL,Ve,_⟩:=Sl.Tf s3 (i:=k0) (x:=p) (by rw[am8 Yo,ek0])
  have Yf:=bU (f1.w.rr g).nodup fun c hc=>tA (w:=w) c (by have:=f1.w.rm g c hc;omega)
  refine v1 (ae o3) ?_
  refine⟨⟨by omega,by omega⟩,?_⟩
  refine v5 (ae q1) am9 ane q2 (ae o3) ?_
  refine⟨⟨by omega,by omega⟩,?_⟩
  refine v4 (ae q1) am9 ane q2 ?_
  have fW:=(f1.w.rr g).nodup
  have aaC:(mW g)[k0]? =some p:=by rw[am8 Yo,ek0]
  refine⟨i64 (k0:Int),(fg s3.rd p (by omega)).mono ?_,?_⟩
  ·rintro _ H' ⟨⟨j,rfl,hj⟩,e⟩
   obtain⟨hj0,hj⟩:=hj.resolve_left (fun h=>h.2 hpr)
   have XS:=(ana.1 hj).1
   have:=(List.getElem?_inj XS fW).1 (hj.trans aaC.symm)
   exact⟨by rw[show j=(k0:Int) by omega],e⟩
  refine vs ?_
  refine⟨⟨by omega,by omega⟩,?_⟩
  refine v4 qb am9 ane Int.toNat_natCast ?_
  refine⟨by omega,?_⟩
  rw[Wo]at s3
  have s4:=s3.sW qb k0 (i64 x)
  have e3:ag (fun z=>rb g=some z) H2 (H2.wr b (lr.set k0 (i64 x))):=(ag.refl (fun z=>rb g=some z) _).wr (fun _=>Wo) _
  have Q3:(mW g).map (gI p x)=(mW g).map (gI x p):=apb fun c _=>by
   unfold gI
   by_cases e1:c=x
   ·by_cases e2:c=p
    ·rw[if_pos e2,if_pos e1];exact e1▸e2▸rfl
    ·rw[if_neg e2,if_pos e1,if_pos e1]
   ·by_cases e2:c=p
    ·rw[if_pos e2,if_neg e1,if_pos e2]
    ·rw[if_neg e2,if_neg e1,if_neg e1,if_neg e2]
  rw[←anY,IC fW (Wy g) aaC,Q3]at s4
  have VV:((mW g).map (gI x p)).length=(mW g).length:=anz ..
  have m3:=m2.aaB wO e3 wF (L':=(mW g).map (gI x p)) (by rw[Wo,VV];exact s4)
  have X2:ag (dw ro) H2 (H2.wr b (lr.set k0 (i64 x))):=e3.mono fun z _ h=>GC z (eT (m2.lL g z wO.1 wO.2 h) nofun)
  obtain⟨XZ,o4,_⟩:=m3.own
  refine v1 (ae o4) ?_
  refine fin _ _ m3 (fun h=>?_) (sY _ _ hJ2 (e3.mono fun z _ h=>⟨GC z (eT (m2.lL g z wO.1 wO.2 h) nofun),fun e=>by have:=m2.lL g z wO.1 wO.2 h;rw[e,m2.rn]at this;cases this⟩)) (nT.trans X2) _ fun H4 hh=>?_
  ·unfold aw
   split
   ·rename_i e;rw[e]
   ·rename_i e
    exact(yL (Wy h) (fun hh=>e (by rw[← (f1.w.rm h p hh).1,hpg,Np]))).symm
  obtain⟨m',hm',ro',l',V',dH,bB,r9,jw,h1,h2,h3,h4,h5,h6,h7⟩:=hh
  refine vs ?_
  exact⟨m',hm',ro',l',V',dH,bB,r9,jw,h1,h2,h3,h4,h5,h6,h7,trivial⟩
 ·obtain rfl:=e.symm
  have afG:∀h,p∉mW h:=fun h hh=>NY (f1.w.rm h p hh).2.1
  refine v1 (ae o2) ?_
  refine fin H2 mW m2 (fun h=>(yL (Wy h) (afG h)).symm) hJ2 nT _ fun H4 hh=>?_
  obtain⟨m',hm',ro',l',V',dH,bB,r9,jw,h1,h2,h3,h4,h5,h6,h7⟩:=hh
  refine vs ?_
  exact⟨m',hm',ro',l',V',dH,bB,r9,jw,h1,h2,h3,h4,h5,h6,h7,trivial⟩
end
end Go.Proofs.YtjlnnljohemifaaGreat

namespace Go.Proofs.YtjlnnljohemifaaGreat
open Go Go.Vc
theorem we{H:Hp}{C:Nat→Prop}{w:Nw}{b3 b4 n c:Nat}{x:Int}{rest:List Value}(h3:H.own b3=some [ptr n])(h4:H.own b4=some [i64 x])(hn:H.own n=some (ptr c::rest))(cq:CQ H c C w){p:Int}(hx:0<aD w x)(hp:0<aD w p):
  af Tryz.prog fx [i64 p,ptr b3,ptr b4] H fun v H'=>ar (v= .bool (aN w x p)∧CQ H' c C w∧ag C H H'):=by
 refine ud mixed (an:=mc) (by conv=>lhs;cbv) (nt:=12) (by kernel_rfl) (by simp) ?_
 refine v3 (ae h3) (ae h4) (ae hn) ?_
 refine(cA cq x p).mono ?_
 rintro _ H1 ⟨rfl,c1,e1⟩
 rw[gF (w:=w) (a:=x) (b:=p) hx hp]
 refine vs ?_
 exact⟨rfl,c1,e1⟩
theorem Ak{n:Nat}{H:Hp}{S:Nat→Prop}{w:Nw}(h:gf n H S w)(x k s:Int):af Tryz.prog gA [ptr n,i64 x,rZ k s] H fun v H'=>ar (
  (¬w.cW x k s∧v= .bool false∧cr (gf n) S H H' w)∨(w.cW x k s∧v= .bool true∧∃y,w.cs[x.toNat]? =some y∧cr (gf n) S H H' (w.put x (y.1,k,s)))):=by
 obtain⟨B,ro,C,l,V,ch,par,kb,cN,rows,rb,rfl,m,f,hl,hS⟩:=h
 have hC:∀z,C z→S z:=fun z h=>(hS z).2 (eT (m.hC z h) nofun)
 have hSR:∀z,S z→z<H.size:=fun z hz=>m.slt z ((hS z).1 hz)
 refine aP nq ?_
 refine vs ?_
 have f0:ah H (((H.new 198 [ptr B.n]).new 3 [i64 x]).new 224 [i64 k,u64 s]):=(((ag.refl _ _).new _ _).new _ _).new _ _
 have b3:(((H.new 198 [ptr B.n]).new 3 [i64 x]).new 224 [i64 k,u64 s]).own H.size=some [ptr B.n]:=by
  rw[ce (by simp only[am];omega),ce (by simp only[am];omega),ax]
 have b4:(((H.new 198 [ptr B.n]).new 3 [i64 x]).new 224 [i64 k,u64 s]).own (H.size+1)=some [i64 x]:=by
  rw[ce (by simp only[am];omega)]
  exact aQ (by simp only[am])
 have b5:(((H.new 198 [ptr B.n]).new 3 [i64 x]).new 224 [i64 k,u64 s]).own (H.size+1+1)=some [i64 k,u64 s]:=aQ (by simp only[am])
 have m0:=m.fresh f0
 generalize ((H.new 198 [ptr B.n]).new 3 [i64 x]).new 224 [i64 k,u64 s]=H0 at*
 have ff:ag S H H0:=f0.mono fun _ _ h=>h.elim
 obtain⟨tv,Gv,_⟩:=m0.own
 refine v4 (ae b3) (ae b4) (ae Gv) (ae b5) ?_
 refine(gE m0.cells x k s).mono ?_
 rintro _ H1 (⟨bJ,rfl,c1,e1⟩| ⟨bE,rfl,y,hy,eY,c1,e1⟩)
 ·refine vs ?_
  exact .inl ⟨bJ,rfl,cr.same ⟨B,ro,C,l,V,ch,par,kb,cN,rows,rb,rfl,m0.ext e1 (fun _ _ h=>h),f,hl,hS⟩ (ff.trans (e1.mono fun _ _ h=>h.elim))⟩
 have lG:(w.put x (y.1,k,s)).cs.length=w.cs.length:=by simp[Nw.put]
 have m1:=m0.aG c1 e1 lG
 have zU:w.cW x k s:=⟨bE,fun z hz=>by rw[hy]at hz;injection hz with hz;rw[←hz];exact eY⟩
 have hx:0≤x∧x<w.cs.length:=⟨bE.1,by have:=(ana.1 hy).1;have:=bE.1;omega⟩
 have Nk:aD w x=y.1:=jE bE.1 hy
 have dA:=bk.2 bE
 have hw:aD (w.put x (y.1,k,s))=aD w:=by
  funext z
  rw[dK hx]
  split
  ·rename_i e;rw[e,Nk]
  ·rfl
 have Dc:cS (w.put x (y.1,k,s)).cs x:=bk.1 (by rw[hw];exact dA)
 have el:∀a b,0<aD w a→0<aD w b→a≠x→b≠x→aN (w.put x (y.1,k,s)) a b=aN w a b:=fun a b ha hb sj lm=>di hx _ ha hb sj lm
 have ex:∀b,0<aD w b→b≠x→aN w x b=true→aN (w.put x (y.1,k,s)) x b=true:=fun b hb lm h=>zM bE hy eY hb lm h
 have ls:=aq w
 have R3:=aq (w.put x (y.1,k,s))
 have nC:∀z,H.size≤z→¬C z:=fun z hz hc=>by have:=hSR z (hC z hc);omega
 have b31:=e1.own b3 (nC _ (ano _))
 have b41:=e1.own b4 (nC _ (by omega))
 obtain⟨BB,o1,_⟩:=m1.own
 have wO:=m.Rb hl ((m.cells.hm x).2 dA).1
 have Z8:(w.put x (y.1,k,s)).hs.length=w.hs.length:=by simp[Nw.put]
 refine v3 (ae b31) (ae b41) (ae o1) ?_
 refine(c9 m1.cells x).mono ?_
 rintro _ H2 (⟨bJ,_,_⟩| ⟨_,rfl,c2,e2⟩)
 ·exact absurd Dc bJ
 have m2:=m1.aG c2 e2 rfl
 have nT:ag S H H2:=(ff.trans (e1.mono fun z _ h=>hC z h)).trans (e2.mono fun z _ h=>hC z h)
 have b32:=e2.own b31 (nC _ (ano _))
 have b42:=e2.own b41 (nC _ (by omega))
 rw[hw]
 refine v2 (ae b32) (ae b42) ?_
 have f2:K8 (aD (w.put x (y.1,k,s))) (aN (w.put x (y.1,k,s))) ch par rows [] x:=by
  rw[hw]
  exact K8.start ls f el
 have hE0:∀d∈ch x,aN (w.put x (y.1,k,s)) x d=true:=fun d hd=>by
  obtain⟨_,_,_,h4,h5⟩:=f.pr.dn x d hd
  exact ex d h4 (fun e=>by have:=f.less hd;rw[e]at this;omega) h5
 have hsR:∀z,dw ro z→z<H.size:=m.slt
 refine(GM m2 f2 (g:=aD w x) (by rw[hw]) dA wO fx [ptr H.size,ptr (H.size+1)] (fun p=>aN (w.put x (y.1,k,s)) x p) (fun H'=>H'.own H.size=some [ptr B.n]∧H'.own (H.size+1)=some [i64 x]∧∃tv,H'.own B.n=some [ptr B.c,ptr B.fb,tv])
  (fun ch=>∀d∈ch x,aN (w.put x (y.1,k,s)) x d=true) ?_ (fun H' Fx hJ e=>?_) (by kernel_rfl) (fun H' p hJ cq hp=>?_) hE0 (fun ch par rows p cx Ja hq _=>cx.low R3 Ja hq)).mono ?_
 ·obtain⟨LW,o2,_⟩:=m2.own
  exact⟨b32,b42,LW,o2⟩
 ·obtain⟨j1,j2,LW,o2⟩:=hJ
  exact⟨e.own j1 (fun h=>by have:=hsR _ h.1;omega),e.own j2 (fun h=>by have:=hsR _ h.1;omega),LW,e.own o2 (fun h=>h.2 rfl)⟩
 ·obtain⟨j1,j2,LW,o2⟩:=hJ
  exact we j1 j2 o2 cq (by rw[hw];exact dA) hp
 rintro _ H3 ⟨OW,l3,V3,Lf,nJ,Wt,Aj,m3,f3,hE3,hq3,Sd,e3⟩
 refine vs ?_
 have f4:=f3.done hE3 (fun hp=>by
  rcases hq3 with h|h
  ·exact absurd h hp
  ·have hxc:=f3.w.pr.up x _ rfl hp
   have WA:=f3.w.less hxc
   exact(R3.M8 (nJ x) x (fun e=>by rw[e]at WA;omega)).resolve_right (by rw[h];simp))
 have z2:=nT.size
 refine .inr ⟨zU,rfl,y,hy,dw OW,⟨B,OW,C,l3,V3,Lf,nJ,Wt,cN,Aj,rb,rfl,m3,f4,by rw[hl,Z8],fun z=>Iff.rfl⟩,nT.trans (e3.mono fun z _ h=>(hS z).2 h),fun z hz=>.inl ((hS z).2 (Sd z hz))⟩
theorem IH(cap:Int)(H:Hp):af Tryz.prog DT [i64 cap] H fun v H'=>ar (
  ah H H'∧((¬ (0≤cap∧cap≤65536)∧v= .tuple [.pointer none,i64 31].toArray)∨
   ((0≤cap∧cap≤65536)∧∃n S,v= .tuple [ptr n,i64 0].toArray∧gf n H' S (xZ cap)∧∀x,S x→H.size≤x))):=by
 refine aP DZ ?_
 refine vs ?_
 refine(ke cap H).mono ?_
 rintro _ H1 ⟨f1,⟨hb,rfl⟩| ⟨hb,c,C,rfl,c1,hC⟩⟩
 ·refine vs ?_
  exact⟨f1,.inl ⟨hb,rfl⟩⟩
 refine vs ?_
 refine(EW H1 hb).mono ?_
 rintro _ H2 ⟨fb,tb,l,rfl,t2,f2,hfb,Ua⟩
 have c2:=c1.fresh f2
 refine vs ?_
 have wA:=c1.slt
 have z1:=f1.size
 have z2:=f2.size
 have hts:=t2.Qu
 have aM:=t2.ne
 have f3:ah H2 ((H2.new 24 [.slice none 0 0]).new 260 [ptr c,ptr fb,.slice (some ⟨H2.size,0,none⟩) 1 1]):=((ag.refl _ _).new _ _).new _ _
 have e2:ag (fun _=>False) (H2.new 24 [.slice none 0 0]) ((H2.new 24 [.slice none 0 0]).new 260 [ptr c,ptr fb,.slice (some ⟨H2.size,0,none⟩) 1 1]):=(ag.refl _ _).new _ _
 have z3:((H2.new 24 [.slice none 0 0]).new 260 [ptr c,ptr fb,.slice (some ⟨H2.size,0,none⟩) 1 1]).size=H2.size+1+1:=by simp only[am]
 obtain⟨ro,Mv⟩:∃ro:Nat→Rl,ro=fun z=>if z=H2.size+1 then Rl.Qt else if z=H2.size then Rl.J4 else if z=fb then Rl.Es else if z=tb then Rl.table else @ite _ (C z) (Classical.propDecidable _) Rl.cell Rl.no:=⟨_,rfl⟩
 have r1:ro (H2.size+1)= .Qt:=by rw[Mv];simp
 have r2:ro H2.size= .J4:=by rw[Mv];simp
 have r3:ro fb= .Es:=by rw[Mv];show(if fb=H2.size+1 then _ else _)=_;rw[if_neg (by omega),if_neg (by omega),if_pos rfl]
 have r4:ro tb= .table:=by rw[Mv];show(if tb=H2.size+1 then _ else _)=_;rw[if_neg (by omega),if_neg (by omega),if_neg (by omega),if_pos rfl]
 have r5:∀z,C z→ro z= .cell:=fun z hz=>by
  have:=wA z hz
  rw[Mv];show(if z=H2.size+1 then _ else _)=_;rw[if_neg (by omega),if_neg (by omega),if_neg (by omega),if_neg (by omega),if_pos hz]
 have r6:∀z,ro z≠ .no→H.size≤z∧z<H2.size+1+1:=fun z hz=>by
  rw[Mv]at hz
  simp only at hz
  split at hz
  ·omega
  ·split at hz
   ·omega
   ·split at hz
    ·omega
    ·split at hz
     ·omega
     ·split at hz
      ·rename_i h
       have:=hC z h
       have:=wA z h
       omega
      ·exact absurd rfl hz
 have mK:(xZ cap).cs.length=cap.toNat:=by simp[xZ]
 refine⟨(f1.trans f2).trans f3,.inr ⟨hb,H2.size+1,dw ro,rfl,⟨⟨H2.size+1,c,fb,tb,H2.size⟩,ro,C,l,fun _=>.slice none 0 0,fun _=>[],fun _=> -1,fun _=>none,[.slice none 0 0],fun _=>[],fun _=>none,rfl,⟨⟨.slice (some ⟨H2.size,0,none⟩) 1 1,aQ (by simp only[am]),?_⟩,fun g h0 h1=>?_,c2.fresh f3,?_,r5,r1,r2,fun g b _ _ h=>(by cases h),fun z hz=>?_⟩,
  ⟨⟨rfl,fun x c hc=>absurd hc (by simp),fun c x h hx=>absurd (Eq.symm h) hx,fun x=>aoo⟩,fun x i c hc=>by simp at hc,fun h=>List.Pairwise.nil,fun h c hc=>absurd hc (by simp),aoo,fun c hc=>absurd hc (by simp),fun c hc=>absurd hc (kw cap c)⟩,rfl,fun z=>Iff.rfl⟩,fun z hz=>(r6 z hz).1⟩⟩
 ·exact(Sl.bP (size:=1) (n:=1) (xs:=[.slice none 0 0]) rfl rfl).ext e2 (fun _ _ h=>h)
 ·have h1:g<1:=h1
  have hg:g=0:=by omega
  subst hg
  exact⟨.slice none 0 0,rfl,Sl.nil _ _⟩
 ·rw[mK]
  exact⟨t2.ext f3 (fun h=>h) (fun h=>h),fun x h0 h1=>Sl.nil _ _,r3,r4,fun x b _ _ h=>(by cases h),fun x c hc=>absurd hc (by simp),fun _ _=>rfl⟩
 ·apply anC
  intro h
  have:=(r6 z h).2
  have hz':H2.size+1+1≤z:=by rw[←z3];exact hz
  omega
theorem GN{n:Nat}{H:Hp}{S:Nat→Prop}{w:Nw}(h:gf n H S w):af Tryz.prog jV [ptr n] H fun v H'=>ar (
  (w.hs.length=65537∧v=i64 0∧cr (gf n) S H H' w)∨(w.hs.length≠65537∧v=i64 w.hs.length∧cr (gf n) S H H' w.make)):=by
 obtain⟨B,ro,C,l,V,ch,par,kb,cN,rows,rb,rfl,m,f,hl,hS⟩:=id h
 obtain⟨tv,ho,yD⟩:=m.own
 refine aP sI ?_
 refine v1 (ae ho) ?_
 refine(iW m.cells).mono ?_
 rintro _ H1 (⟨h1,rfl,rfl⟩| ⟨h1,rfl,C',c1,e1,ya⟩)
 ·refine vs ?_
  exact .inl ⟨h1,rfl,cr.same h (ag.refl _ _)⟩
 have fP:=m.cells.pos
 have hhs:=m.cells.yD
 have slt:=m.slt
 have Kc:=c1.slt
 have z1:=e1.size
 have nc:∀z q,ro z=q→q≠ .cell→¬C z:=fun z q h1 h2 hc=>h2 (by rw[←h1,m.hC z hc])
 have o1:=e1.own ho (nc _ _ m.rn nofun)
 refine vs ?_
 refine ak.cK (anp (by omega)) ?_
 refine v1 (ae o1) ?_
 have s1:=yD.ext e1 (fun b hb=>by injection hb with hb;subst hb;exact nc _ _ m.rr nofun)
 have fl:ah H1 (H1.new 24 [.slice none 0 0]):=(ag.refl _ _).new _ _
 have zl:(H1.new 24 [.slice none 0 0]).size=H1.size+1:=am _ _ _
 refine Sl.append (s1.ext fl (fun _ _ h=>h)) (Sl.bP (size:=1) (n:=1) (xs:=[.slice none 0 0]) rfl rfl).rd rfl (fun v hv=>by rw[anj.1 hv];rfl) (by omega) ?_
 intro w' H2 cJ s2 e2' fN
 have e2:ag (fun z=>z=B.rp) H1 H2:=⟨an8 fl.size e2'.size,fun z hz hn=>by
  rw[e2'.aI z (anB hz fl.size) (fun h=>hn (by injection h with h;exact h.symm)),fl.aI z hz (fun h=>h)]⟩
 obtain⟨b',rfl,jz⟩:∃b',cJ=some b'∧(b'=B.rp∨H1.size≤b'∧b'<H2.size):=by
  rcases fN with rfl| ⟨b',rfl,h2,h3⟩
  ·exact⟨_,rfl,.inl rfl⟩
  ·exact⟨b',rfl,.inr ⟨by omega,h3⟩⟩
 have hnr:B.n≠B.rp:=fun e=>by have:=m.rn;rw[e,m.rr]at this;cases this
 have o2:=e2.own o1 hnr
 obtain⟨wa,wc,Nr⟩:=Sl.shape s2
 subst Nr
 refine v1 o2 ?_
 have hln:B.n<H.size:=slt _ (eT m.rn nofun)
 have Yf:B.rp<H.size:=slt _ (eT m.rr nofun)
 have e3:∀v,ag (fun z=>z=B.n) H2 (H2.wr B.n [ptr B.c,ptr B.fb,v]):=fun v=>(ag.refl (fun z=>z=B.n) _).wr (fun _=>rfl) _
 obtain⟨mQ,Mv⟩:∃mQ:Nat→Rl,mQ=fun z=>if z=b' then Rl.J4 else if z<H.size then ro z else @ite _ (C' z) (Classical.propDecidable _) Rl.cell Rl.no:=⟨_,rfl⟩
 have r1:mQ b'= .J4:=by rw[Mv];show(if b'=b' then _ else _)=_;rw[if_pos rfl]
 have r2:∀z q,ro z=q→q≠ .no→q≠ .J4→mQ z=q:=fun z q h1 h2 h3=>by
  have hz:=slt z (eT h1 h2)
  rw[Mv]
  show(if z=b' then _ else _)=_
  rw[if_neg (fun e=>?_),if_pos hz,h1]
  rcases jz with h|h
  ·exact h3 (by rw[←h1,e,h,m.rr])
  ·omega
 have r3:∀z,C' z→mQ z= .cell:=fun z hz=>by
  have Y7:=Kc z hz
  by_cases dE:z<H.size
  ·rcases ya z hz with h|h
   ·exact r2 z _ (m.hC z h) nofun nofun
   ·omega
  ·rw[Mv]
   show(if z=b' then _ else _)=_
   rw[if_neg (by omega),if_neg dE,if_pos hz]
 have r4:∀z,dw mQ z→dw ro z∨H.size≤z:=fun z hz=>by
  by_cases dE:z<H.size
  ·refine .inl fun h=>hz ?_
   rw[Mv]
   show(if z=b' then _ else _)=_
   rw[if_neg (fun e=>?_),if_pos dE,h]
   rcases jz with h'|h'
   ·rw[e,h',m.rr]at h;cases h
   ·omega
  ·exact .inr (by omega)
 have r5:∀z,H2.size≤z→mQ z= .no:=fun z hz=>by
  have h2:=e2.size
  rw[Mv]
  show(if z=b' then _ else _)=_
  rw[if_neg (by omega),if_neg (by omega),if_neg (fun h=>by have:=Kc z h;omega)]
 have afH:∀v,(H2.wr B.n [ptr B.c,ptr B.fb,v]).size=H2.size:=fun v=>dT _ _ _
 have WB:∀z q,ro z=q→q≠ .J4→z≠B.rp:=fun z q h1 h2 e=>h2 (by rw[←h1,e,m.rr])
 have Io:∀z q,ro z=q→q≠ .Qt→z≠B.n:=fun z q h1 h2 e=>h2 (by rw[←h1,e,m.rn])
 have akQ:b'≠B.n:=by rcases jz with h|h<;>omega
 refine .inr ⟨h1,rfl,dw mQ,⟨⟨B.n,B.c,B.fb,B.tb,b'⟩,mQ,C',l,V,ch,par,kb,cN++[.slice none 0 0],rows,(fun k=>if k< (cN.length:Int)then rb k else none),rfl,⟨⟨_,ai o2,?_⟩,fun g h0 hg=>?_,?_,?_,r3,r2 _ _ m.rn nofun nofun,r1,fun g b h0 hg hb=>?_,fun z hz=>r5 z (by rw[afH]at hz;exact hz)⟩,f,by rw[ank,hl];simp[Nw.make],fun z=>Iff.rfl⟩,?_,fun z hz=>(r4 z hz).imp_left fun h=>(hS z).2 h⟩
 ·rw[ank]
  exact s2.ext (e3 _) (fun b hb=>by injection hb with hb;omega)
 ·rw[ank,ant]at hg
  by_cases da:g<cN.length
  ·obtain⟨sv,q1,q2⟩:=m.row g h0 da
   refine⟨sv,by rw[anq (by omega)];exact q1,?_⟩
   rw[if_pos da]
   exact((q2.ext e1 (fun b hb=>nc b _ (m.lL g b h0 da hb) nofun)).ext e2 (fun b hb=>WB b _ (m.lL g b h0 da hb) nofun)).ext (e3 _) (fun b hb=>Io b _ (m.lL g b h0 da hb) nofun)
  ·have M7:g=(cN.length:Int):=by omega
   have Zx:rows g=[]:=by
    cases hc:rows g with
    |nil=>rfl
    |cons c r=>
     obtain⟨h5,_,h6,_⟩:=f.rm g c (by rw[hc];simp)
     have:=((m.cells.hm c).2 (by omega)).2
     omega
   refine⟨.slice none 0 0,by rw[M7,Int.toNat_natCast,anE (ano _)];simp,?_⟩
   rw[Zx,if_neg da]
   exact Sl.nil _ _
 ·exact(c1.ext e2 (fun z hz e=>by
   rcases ya z hz with h|h
   ·exact WB z _ (m.hC z h) nofun e
   ·omega)).ext (e3 _) (fun z hz e=>by
   rcases ya z hz with h|h
   ·exact Io z _ (m.hC z h) nofun e
   ·omega)
 ·have WC:∀z,(ro z= .Es∨KB ro z)→(¬C z∧z≠B.rp)∧z≠B.n:=fun z hz=>by
   rcases hz with h|h| ⟨x,h⟩<;>exact⟨⟨nc z _ h nofun,WB z _ h nofun⟩,Io z _ h nofun⟩
  have f1:=((m.fo.ext e1 (fun z hz=>(WC z hz).1.1)).ext e2 (fun z hz=>(WC z hz).1.2)).ext (e3 (.slice wa (cN.length+1) wc)) (fun z hz=>(WC z hz).2)
  exact⟨f1.t,f1.kd,r2 _ _ f1.rf nofun nofun,r2 _ _ f1.rt nofun nofun,fun x b h0 h1 hb=>r2 _ _ (f1.rk x b h0 h1 hb) nofun nofun,f1.FC,f1.no⟩
 ·rw[ank,ant]at hg
  by_cases da:g<cN.length
  ·rw[if_pos da]at hb
   exact r2 _ _ (m.lL g b h0 da hb) nofun nofun
  ·rw[if_neg da]at hb
   cases hb
 ·refine(((e1.mono fun z _ h=>?_).trans (e2.mono fun z _ h=>?_)).trans ((e3 _).mono fun z _ h=>?_):ag S H _)
  ·exact(hS z).2 (eT (m.hC z h) nofun)
  ·exact(hS z).2 (by rw[h];exact eT m.rr nofun)
  ·exact(hS z).2 (by rw[h];exact eT m.rn nofun)
theorem Rc(n:Nat):wG (.iface 198 (ptr n)) (gf n) where
 slt h:=h.slt
 ext h e hd:=h.ext e hd
 cells:=by
  rintro H S w ⟨B,ro,C,l,V,ch,par,kb,cN,rows,rb,rfl,m,f,hl,hS⟩
  exact⟨B.c,C,m.cells⟩
 has:=by
  rintro H S w g ⟨B,ro,C,l,V,ch,par,kb,cN,rows,rb,rfl,m,f,hl,hS⟩
  obtain⟨tv,ho,_⟩:=m.own
  exact⟨_,_,bz,ptr B.c,rfl,fI (off:=0) (by kernel_rfl) (ae ho) rfl,(iq m.cells g).mono fun v H' hp=>hp⟩
 make:=by
  intro H S w h
  exact⟨_,_,jV,ptr n,rfl,bv (by kernel_rfl),(GN h).mono fun v H' hp=>hp⟩
 insert:=by
  intro H S w g x k s h
  exact⟨_,_,iJ,ptr n,rfl,bv (by kernel_rfl),(Dm h g x k s).mono fun v H' hp=>hp⟩
 min:=by
  intro H S w g h
  refine⟨_,_,k8,ptr n,rfl,bv (by kernel_rfl),(Ai h g).mono ?_⟩
  rintro v H' (⟨h1,rfl,h2,h3⟩| ⟨x,h1,rfl,h2,h3⟩)
  ·exact .inl ⟨h1,rfl,cr.same h2 h3⟩
  ·exact .inr ⟨x,h1,rfl,cr.same h2 h3⟩
 extract:=by
  intro H S w g h
  exact⟨_,_,gY,ptr n,rfl,bv (by kernel_rfl),(B0 h g).mono fun v H' hp=>hp⟩
 kq:=by
  intro H S w x k s h
  exact⟨_,_,gA,ptr n,rfl,bv (by kernel_rfl),(Ak h x k s).mono fun v H' hp=>hp⟩
 entry:=by
  rintro H S w x ⟨B,ro,C,l,V,ch,par,kb,cN,rows,rb,rfl,m,f,hl,hS⟩
  obtain⟨tv,ho,_⟩:=m.own
  refine⟨_,_,aZ,ptr B.c,rfl,fI (off:=0) (by kernel_rfl) (ae ho) rfl,(gD m.cells x).mono ?_⟩
  rintro v H' ⟨c1,f1,hv⟩
  exact⟨⟨B,ro,C,l,V,ch,par,kb,cN,rows,rb,rfl,m.fresh f1,f,hl,hS⟩,f1,hv⟩
theorem yp(n:Nat)(H:Hp):af Tryz.prog n9 [ptr n,i64 0] H fun v H'=>ar (v= .tuple [.iface 198 (ptr n),i64 0].toArray∧H'=H):=by
 refine aP ou ?_
 refine v1 anT ?_
 exact⟨rfl,rfl⟩
theorem Al(n:Nat)(H:Hp):af Tryz.prog pC [ptr n,i64 0] H fun v H'=>ar (v= .tuple [.iface 202 (ptr n),i64 0].toArray∧H'=H):=by
 refine aP pJ ?_
 refine v1 anT ?_
 exact⟨rfl,rfl⟩
theorem Am(n:Nat)(H:Hp):af Tryz.prog pD [ptr n,i64 0] H fun v H'=>ar (v= .tuple [.iface 210 (ptr n),i64 0].toArray∧H'=H):=by
 refine aP pK ?_
 refine v1 anT ?_
 exact⟨rfl,rfl⟩
theorem EZ(n:Nat)(H:Hp):af Tryz.prog uK [ptr n,i64 0] H fun v H'=>ar (v= .tuple [.iface 214 (ptr n),i64 0].toArray∧H'=H):=by
 refine aP vh ?_
 refine v1 anT ?_
 exact⟨rfl,rfl⟩
theorem E0(n:Nat)(H:Hp):af Tryz.prog uL [ptr n,i64 0] H fun v H'=>ar (v= .tuple [.iface 218 (ptr n),i64 0].toArray∧H'=H):=by
 refine aP vi ?_
 refine v1 anT ?_
 exact⟨rfl,rfl⟩
theorem II{kd dd cap:Int}(hf:fZ kd dd)(hc:0≤cap∧cap≤65536)(H:Hp):af Tryz.prog G3 [LZ kd dd,i64 cap] H fun v H'=>ar (∃t vv I Sn,v= .tuple [.iface t vv,i64 0].toArray∧wG (.iface t vv) I∧I H' Sn (xZ cap)∧ah H H'∧∀z,Sn z→H.size≤z):=by
 refine aP N9 ?_
 refine vs ?_
 have f0:ah H (H.new 23 [i64 kd,i64 dd]):=(ag.refl _ _).new _ _
 have o0:(H.new 23 [i64 kd,i64 dd]).own H.size=some [i64 kd,i64 dd]:=ax _ _ _
 have z0:(H.new 23 [i64 kd,i64 dd]).size=H.size+1:=am _ _ _
 generalize H.new 23 [i64 kd,i64 dd]=H0 at*
 obtain rfl|rfl|rfl|rfl|rfl|rfl|rfl|rfl:kd=1∨kd=2∨kd=3∨kd=4∨kd=5∨kd=6∨kd=7∨kd=8:=by have:=hf.1;omega
 ·refine ak.cK (by decide) ?_
  refine v1 (ae o0) ?_
  refine ak.cK (by decide) ?_
  refine v1 (ae o0) ?_
  refine(mT hf (by decide) H0).mono ?_
  rintro _ H1 ⟨rfl,f1⟩
  refine vs ?_
  refine(wJ cap _ H1).mono ?_
  rintro _ H2 ⟨f2,⟨hb,rfl⟩| ⟨_,hd,rfl⟩| ⟨_,hd,n,Sn,rfl,h2,Mw⟩⟩
  ·exact absurd hc hb
  ·refine absurd ?_ hd
   obtain⟨_,h|h⟩:=hf
   ·first|exact⟨h.2.1,h.2.2⟩|exact absurd h.1 (by decide)
   ·first|exact⟨by decide,by decide⟩|exact absurd rfl h.1
  ·refine vs ?_
   refine(tC n H2).mono ?_
   rintro _ _ ⟨rfl,rfl⟩
   have z1:=f1.size
   refine vs ?_
   exact⟨_,_,_,Sn,rfl,EJ n _,⟨0,h2⟩,(f0.trans f1).trans f2,fun z hz=>by have:=Mw z hz;omega⟩
 ·refine ak.aU (by decide) ?_
  refine vs ?_
  refine ak.cK (by decide) ?_
  refine v1 (ae o0) ?_
  refine(mT hf (by decide) H0).mono ?_
  rintro _ H1 ⟨rfl,f1⟩
  refine vs ?_
  refine(wJ cap _ H1).mono ?_
  rintro _ H2 ⟨f2,⟨hb,rfl⟩| ⟨_,hd,rfl⟩| ⟨_,hd,n,Sn,rfl,h2,Mw⟩⟩
  ·exact absurd hc hb
  ·refine absurd ?_ hd
   obtain⟨_,h|h⟩:=hf
   ·first|exact⟨h.2.1,h.2.2⟩|exact absurd h.1 (by decide)
   ·first|exact⟨by decide,by decide⟩|exact absurd rfl h.1
  ·refine vs ?_
   refine(tC n H2).mono ?_
   rintro _ _ ⟨rfl,rfl⟩
   have z1:=f1.size
   refine vs ?_
   exact⟨_,_,_,Sn,rfl,EJ n _,⟨0,h2⟩,(f0.trans f1).trans f2,fun z hz=>by have:=Mw z hz;omega⟩
 ·refine ak.aU (by decide) ?_
  refine vs ?_
  refine ak.aU (by decide) ?_
  refine vs ?_
  refine ak.cK (by decide) ?_
  refine vs ?_
  refine(IH cap H0).mono ?_
  rintro _ H2 ⟨f2,⟨hb,rfl⟩| ⟨_,n,Sn,rfl,h2,Mw⟩⟩
  ·exact absurd hc hb
  ·refine vs ?_
   refine(yp n H2).mono ?_
   rintro _ _ ⟨rfl,rfl⟩
   refine vs ?_
   exact⟨_,_,_,Sn,rfl,Rc n,h2,f0.trans f2,fun z hz=>by have:=Mw z hz;omega⟩
 ·refine ak.aU (by decide) ?_
  refine vs ?_
  refine ak.aU (by decide) ?_
  refine vs ?_
  refine ak.aU (by decide) ?_
  refine vs ?_
  refine ak.cK (by decide) ?_
  refine vs ?_
  refine(BU cap H0).mono ?_
  rintro _ H2 ⟨f2,⟨hb,rfl⟩| ⟨_,n,Sn,rfl,h2,Mw⟩⟩
  ·exact absurd hc hb
  ·refine vs ?_
   refine(Al n H2).mono ?_
   rintro _ _ ⟨rfl,rfl⟩
   refine vs ?_
   exact⟨_,_,_,Sn,rfl,IB n,h2,f0.trans f2,fun z hz=>by have:=Mw z hz;omega⟩
 ·refine ak.aU (by decide) ?_
  refine vs ?_
  refine ak.aU (by decide) ?_
  refine vs ?_
  refine ak.aU (by decide) ?_
  refine vs ?_
  refine ak.aU (by decide) ?_
  refine vs ?_
  refine ak.cK (by decide) ?_
  refine vs ?_
  refine(Iw cap H0).mono ?_
  rintro _ H2 ⟨f2,⟨hb,rfl⟩| ⟨_,n,Sn,rfl,h2,Mw⟩⟩
  ·exact absurd hc hb
  ·refine vs ?_
   refine(vU n H2).mono ?_
   rintro _ _ ⟨rfl,rfl⟩
   refine vs ?_
   exact⟨_,_,_,Sn,rfl,QS n,h2,f0.trans f2,fun z hz=>by have:=Mw z hz;omega⟩
 ·refine ak.aU (by decide) ?_
  refine vs ?_
  refine ak.aU (by decide) ?_
  refine vs ?_
  refine ak.aU (by decide) ?_
  refine vs ?_
  refine ak.aU (by decide) ?_
  refine vs ?_
  refine ak.aU (by decide) ?_
  refine vs ?_
  refine ak.cK (by decide) ?_
  refine vs ?_
  refine(BG cap H0).mono ?_
  rintro _ H2 ⟨f2,⟨hb,rfl⟩| ⟨_,n,Sn,rfl,h2,Mw⟩⟩
  ·exact absurd hc hb
  ·refine vs ?_
   refine(Am n H2).mono ?_
   rintro _ _ ⟨rfl,rfl⟩
   refine vs ?_
   exact⟨_,_,_,Sn,rfl,Ip n,h2,f0.trans f2,fun z hz=>by have:=Mw z hz;omega⟩
 ·refine ak.aU (by decide) ?_
  refine vs ?_
  refine ak.aU (by decide) ?_
  refine vs ?_
  refine ak.aU (by decide) ?_
  refine vs ?_
  refine ak.aU (by decide) ?_
  refine vs ?_
  refine ak.aU (by decide) ?_
  refine vs ?_
  refine ak.aU (by decide) ?_
  refine vs ?_
  refine ak.cK (by decide) ?_
  refine vs ?_
  refine(GH cap H0).mono ?_
  rintro _ H2 ⟨f2,⟨hb,rfl⟩| ⟨_,n,Sn,rfl,h2,Mw⟩⟩
  ·exact absurd hc hb
  ·refine vs ?_
   refine(EZ n H2).mono ?_
   rintro _ _ ⟨rfl,rfl⟩
   refine vs ?_
   exact⟨_,_,_,Sn,rfl,OQ n,h2,f0.trans f2,fun z hz=>by have:=Mw z hz;omega⟩
 ·refine ak.aU (by decide) ?_
  refine vs ?_
  refine ak.aU (by decide) ?_
  refine vs ?_
  refine ak.aU (by decide) ?_
  refine vs ?_
  refine ak.aU (by decide) ?_
  refine vs ?_
  refine ak.aU (by decide) ?_
  refine vs ?_
  refine ak.aU (by decide) ?_
  refine vs ?_
  refine ak.aU (by decide) ?_
  refine vs ?_
  refine(Gz cap H0).mono ?_
  rintro _ H2 ⟨f2,⟨hb,rfl⟩| ⟨_,n,Sn,rfl,h2,Mw⟩⟩
  ·exact absurd hc hb
  ·refine vs ?_
   refine(E0 n H2).mono ?_
   rintro _ _ ⟨rfl,rfl⟩
   refine vs ?_
   exact⟨_,_,_,Sn,rfl,Mh n,⟨0,h2⟩,f0.trans f2,fun z hz=>by have:=Mw z hz;omega⟩
theorem Kv{kd dd:Int}(hf:fZ kd dd):QT kd dd:=fun _ hc H=>II hf hc H
theorem Do{H:Hp}{a:Option Addr}{c:Nat}{xs:List Int}(h:cI H 1 (.slice a xs.length c) xs.length (xs.map i64))(p q:Int)(hl:xs.length≤1000000000):
  af Tryz.prog HR [.slice a xs.length c,i64 p,i64 q] H fun v H'=>ar (ah H H'∧∃b,H.size≤b∧Sl H' 1 v xs.length ((xs.map fun x=>if x=q then p else x).map i64) (some b)):=by
 refine aP HY ?_
 refine vs ?_
 have s0:Sl (H.new 3 []) 1 (.slice (some ⟨H.size,0,none⟩) 0 0) (([]:List Int)).length (([]:List Int).map i64) (some H.size):=Sl.bP (size:=1) (n:=0) (xs:=[]) rfl rfl
 have f0:ah H (H.new 3 []):=(ag.refl _ _).new _ _
 generalize H.new 3 []=H0 at*
 refine aT.intro (fun m env H'=>ah H H'∧∃ (j:Nat) (w:Value) (b:Nat),m=xs.length - j∧j≤xs.length∧H.size≤b∧Sl H' 1 w ((xs.take j).map fun x=>if x=q then p else x).length (((xs.take j).map fun x=>if x=q then p else x).map i64) (some b)∧
  env=[(1,i64 p),(2,i64 q),(7,w),(11,.slice a xs.length c),(12,i64 xs.length),(13,i64 j)]) xs.length ⟨f0,0,_,H.size,by omega,by omega,by omega,s0,rfl⟩ ?_
 rintro m env H1 ⟨f1,j,w,b,hm,hj,hb,s1,rfl⟩
 have h1:=h.fresh f1
 refine vs ?_
 refine ak.dec (fun aK=>?_) (fun aK=>?_)<;>refine vs ?_
 ·obtain⟨x,hx⟩:∃x,xs[j]? =some x:=⟨_,am8 (by omega)⟩
  obtain⟨_,bx,o,lb,rfl,eG,bS⟩:=cI.num h1 hx
  refine⟨⟨by omega,by omega⟩,?_⟩
  refine v4 eG Int.toNat_natCast ane bS ?_
  have Kq:(xs.take (j+1)).map (fun x=>if x=q then p else x)=(xs.take j).map (fun x=>if x=q then p else x)++[if x=q then p else x]:=by rw[anN,hx,anH];rfl
  refine ak.dec (fun hq=>?_) (fun hq=>?_)<;>refine vs ?_
  ·rw[if_pos hq]at Kq
   refine G7 (B:=H.size) hb (f1.size) s1 _ (by simp;omega) ?_
   intro w' H' b' jz s' e'
   refine vs ?_
   rw[wrap64 (n:=(j:Int)+1) (by omega) (by omega)]
   exact⟨xs.length - (j+1),by omega,f1.then e' (fun z hz=>hz),j+1,w',b',rfl,by omega,jz,by rw[Kq];exact s',rfl⟩
  ·rw[if_neg hq]at Kq
   refine G7 (B:=H.size) hb (f1.size) s1 _ (by simp;omega) ?_
   intro w' H' b' jz s' e'
   refine vs ?_
   rw[wrap64 (n:=(j:Int)+1) (by omega) (by omega)]
   exact⟨xs.length - (j+1),by omega,f1.then e' (fun z hz=>hz),j+1,w',b',rfl,by omega,jz,by rw[Kq];exact s',rfl⟩
 ·have fF:j=xs.length:=by omega
  subst fF
  rw[anJ,anz]at s1
  exact⟨f1,b,hb,s1⟩
theorem fS{H:Hp}{n:Int}{a a':Option Addr}{c c':Nat}{es:List Ed}{ks:List Int}(h:cI H 3 (.slice a es.length c) es.length (dM es))(h':cI H 1 (.slice a' ks.length c') ks.length (ks.map i64))
  (hr:eR n es)(hk:∀i∈ks,Km es i)(hl:ks.length≤1000000000):
  af Tryz.prog FM [yg n (.slice a es.length c),.slice a' ks.length c'] H fun v H'=>ar (ah H H'∧∃b,H.size≤b∧Sl H' 1 v n.toNat ((dR n.toNat (ks.map (fE es))).map i64) (some b)):=by
 refine aP F1 ?_
 have f0:ah H (H.new 52 [i64 n,.slice a es.length c]):=(ag.refl _ _).new _ _
 have b0:=ax H 52 [i64 n,.slice a es.length c]
 have Cp:(H.new 52 [i64 n,.slice a es.length c]).size=H.size+1:=by rw[am]
 simp(disch:=(first|omega| (simp only[Zs]<;>omega)|fail)) only[go_sem, ↓reduceIte,Zv,yg]
 generalize H.new 52 [i64 n,.slice a es.length c]=H0 at*
 have fo:ah H0 (H0.new 3 []):=(ag.refl _ _).new _ _
 have s0:Sl (H0.new 3 []) 1 (.slice (some ⟨H.size+1,0,none⟩) 0 0) (allI 0).length ((allI 0).map i64) (some (H.size+1)):=Sl.bP (size:=1) (n:=0) (xs:=[]) rfl Cp.symm
 have b1:=fo.own b0 (fun h=>h)
 generalize H0.new 3 []=H1 at*
 have JW:=hr.n0
 have uF:=hr.n1
 refine aT.intro (fun m env H'=>ah H H'∧H'.own H.size=some [i64 n,.slice a es.length c]∧∃ (j:Nat) (w:Value) (b:Nat),m=n.toNat - j∧j≤n.toNat∧H.size+1≤b∧Sl H' 1 w (allI j).length ((allI j).map i64) (some b)∧
  env=[(1,.slice a' ks.length c'),(2,ptr H.size),(5,w),(6,i64 j)]) n.toNat ⟨f0.trans fo,b1,0,_,H.size+1,by omega,by omega,by omega,s0,rfl⟩ ?_
 clear s0 b1 fo b0 f0
 rintro m env H2 ⟨f2,b2,j,w,b,hm,hj,hb,s2,rfl⟩
 have dE:=az b2
 refine v1 (ae b2) ?_
 refine ak.dec (fun aK=>?_) (fun aK=>?_)<;>refine vs ?_
 ·refine G7 (B:=H.size+1) hb (by omega) s2 _ (by rw[tE];omega) ?_
  intro w' H' b' jz s' e'
  rw[←uo]at s'
  refine vs ?_
  rw[wrap64 (n:=(j:Int)+1) (by omega) (by omega)]
  exact⟨n.toNat - (j+1),by omega,f2.then e' (fun z hz=>by omega),e'.own b2 (fun h=>by omega),j+1,w',b',rfl,by omega,jz,s',rfl⟩
 ·have fF:j=n.toNat:=by omega
  subst fF
  rw[←OL]at s2
  clear hj aK hm
  refine aT.intro (fun m env H'=>ah H H'∧H'.own H.size=some [i64 n,.slice a es.length c]∧∃ (k:Nat) (w:Value) (b:Nat),m=ks.length - k∧k≤ks.length∧H.size+1≤b∧Sl H' 1 w (dR n.toNat ((ks.take k).map (fE es))).length ((dR n.toNat ((ks.take k).map (fE es))).map i64) (some b)∧
   env=[(2,ptr H.size),(5,w),(22,.slice a' ks.length c'),(23,i64 ks.length),(24,i64 k)]) ks.length ⟨f2,b2,0,w,b,by omega,by omega,hb,s2,rfl⟩ ?_
  clear s2 b2 f2 hb dE
  rintro m env H3 ⟨f3,b3,k,w,b,hm,ST,hb,s3,rfl⟩
  have Ld:=az b3
  have h3:=h.fresh f3
  have Lg:=h'.fresh f3
  refine vs ?_
  refine ak.dec (fun aK=>?_) (fun aK=>?_)<;>refine vs ?_
  ·obtain⟨i,hi⟩:∃x,ks[k]? =some x:=⟨_,am8 (by omega)⟩
   obtain⟨_,bx,o,lb,rfl,eG,bS⟩:=cI.num Lg hi
   obtain⟨ik,e,rfl,he,hik⟩:=(hk i (ang hi)).get
   obtain⟨ef0,ef1,et0,et1⟩:=hr.ends e (ang he)
   obtain⟨_,be,oe,le,rfl,WD,mJ,ef,jQ,ue,qJ⟩:=cI.nF h3 he
   obtain⟨wa,wc,rfl,_⟩:=cE s3
   obtain⟨_,rfl,lw,R7,Yp⟩:=Sl.num s3 (it ((ks.take k).map (fE es)) (v:=e.f.toNat) (by omega))
   obtain⟨_,_,lw',IJ,Dl⟩:=Sl.num s3 (it ((ks.take k).map (fE es)) (v:=e.t.toNat) (by omega))
   rw[R7]at IJ
   injection IJ with IJ
   subst IJ
   have Ns:=oQ n.toNat ((ks.take k).map (fE es))
   have Kq:dR n.toNat ((ks.take (k+1)).map (fE es))=(dR n.toNat ((ks.take k).map (fE es))).map fun x=>if x=((max (aB ((ks.take k).map (fE es)) e.f.toNat) (aB ((ks.take k).map (fE es)) e.t.toNat):Nat):Int)then((min (aB ((ks.take k).map (fE es)) e.f.toNat) (aB ((ks.take k).map (fE es)) e.t.toNat):Nat):Int)else x:=by
    have:=Mo n.toNat ((ks.take k).map (fE es)) (fE es ik)
    rw[Ab he]at this
    rw[←this,anN,hi,anH]
    congr 2
    simp[Ab he]
   refine⟨⟨by omega,by omega⟩,?_⟩
   refine v5 eG Int.toNat_natCast ane bS (ae b3) ?_
   refine⟨⟨by omega,by omega⟩,?_⟩
   refine v4 WD Int.toNat_natCast Nat.add_zero jQ ?_
   refine⟨⟨by omega,by omega⟩,?_⟩
   refine v5 (ae R7) ane am9 Yp (ae b3) ?_
   refine⟨⟨by omega,by omega⟩,?_⟩
   refine v3 WD Int.toNat_natCast ue ?_
   refine⟨⟨by omega,by omega⟩,?_⟩
   refine v4 (ae R7) ane am9 Dl ?_
   generalize aB ((ks.take k).map (fE es)) e.f.toNat=pf at*
   generalize aB ((ks.take k).map (fE es)) e.t.toNat=pt at*
   have afI:(if(pt:Int)< (pf:Int)then(pt:Int)else(pf:Int))=((min pf pt:Nat):Int):=by split<;>omega
   have afJ:(if(pt:Int)> (pf:Int)then(pt:Int)else(pf:Int))=((max pf pt:Nat):Int):=by split<;>omega
   rw[afI,afJ]
   refine(Do s3.rd _ _ (by omega)).mono ?_
   rintro u H4 ⟨f4,b',jz,s4⟩
   rw[←Kq]at s4
   refine vs ?_
   rw[wrap64 (n:=(k:Int)+1) (by omega) (by omega)]
   exact⟨ks.length - (k+1),by omega,f3.trans f4,f4.own b3 (fun h=>h),k+1,u,b',rfl,by omega,by omega,by rw[oQ];rw[Ns]at s4;exact s4,rfl⟩
  ·have yC:k=ks.length:=by omega
   subst yC
   rw[anJ,oQ]at s3
   exact⟨f3,b,by omega,s3⟩
def yq(n:Int):Nat:=(n%18446744073709551616).toNat
theorem Re(n:Int):IntKind.u64.wrap n=(yq n:Int):=by
 have e:(2^IntKind.u64.bits:Int)=18446744073709551616:=rfl
 unfold IntKind.wrap yq
 simp only[e,IntKind.signed,aoX]
 rw[if_neg (by simp)];omega
theorem Tl(n:Int):yq n<18446744073709551616:=by unfold yq;omega
def GO(s:Int×Nat)(n:Int):Int×Nat:=
 (IntKind.i64.wrap (s.1+(if n<0 then -1 else 0)+((s.2+yq n) / 18446744073709551616:Nat)),(s.2+yq n)%18446744073709551616)
def B1(l:List Int):Int×Nat:=l.foldl GO (0,0)
def GP(s:Int×Nat):Value:=.agg [i64 s.1,u64 s.2].toArray
theorem OX(l:List Int)(x:Int):B1 (l++[x])=GO (B1 l) x:=by
 unfold B1
 rw[List.foldl_append]
 rfl
theorem aaD(x:Nat):Int.tmod (x:Int) 4294967296=((x%4294967296:Nat):Int):=rfl
theorem aaE(x:Nat):Int.tdiv (x:Int) 4294967296=((x / 4294967296:Nat):Int):=rfl
theorem IK{a b:Nat}(h:a+b<18446744073709551616):IntKind.u64.wrap ((a:Int)+(b:Int))=((a+b:Nat):Int):=by rw[qn (by omega) (by omega)];rfl
theorem E1(x:Int):IntKind.i64.wrap (IntKind.u64.wrap x)=IntKind.i64.wrap x:=by
 have e:(2^IntKind.i64.bits:Int)=18446744073709551616:=rfl
 have e2:(2^IntKind.u64.bits:Int)=18446744073709551616:=rfl
 have e':(2^ (IntKind.i64.bits - 1):Int)=9223372036854775808:=rfl
 unfold IntKind.wrap
 simp only[e,e',e2,IntKind.signed,aov,aoX,anF]
 rw[if_neg (by simp:¬ (false=true))]
 split<;>split<;>omega
theorem us(a b:Int):IntKind.u64.wrap (IntKind.u64.wrap a+b)=IntKind.u64.wrap (a+b):=by
 have e2:(2^IntKind.u64.bits:Int)=18446744073709551616:=rfl
 unfold IntKind.wrap
 simp only[e2,IntKind.signed,aoX]
 rw[if_neg (by simp:¬ (false=true)),if_neg (by simp:¬ (false=true)),if_neg (by simp:¬ (false=true))]
 omega
theorem Ho{a b:Int}(h:a%18446744073709551616=b%18446744073709551616):IntKind.i64.wrap a=IntKind.i64.wrap b:=by
 have e:(2^IntKind.i64.bits:Int)=18446744073709551616:=rfl
 unfold IntKind.wrap
 simp only[e,h]
theorem E3(H:Hp)(s:Int×Nat)(n:Int)(h0: -9223372036854775808≤n)(h1:n≤9223372036854775807)(hs0: -9223372036854775808≤s.1)(et:s.1≤9223372036854775807)(I3:s.2<18446744073709551616):
  af Tryz.prog Jt [GP s,i64 n] H fun v H'=>ar (v=GP (GO s n)∧ah H H'):=by
 refine aP JB ?_
 simp(disch:=(first|omega| (simp only[Zs]<;>omega)|fail)) only[go_sem, ↓reduceIte,Zv,GP]
 have f0:ah H ((H.new 39 [i64 s.1,u64 s.2]).new 39 [i64 0,u64 0]):=((ag.refl _ _).new _ _).new _ _
 have b0:((H.new 39 [i64 s.1,u64 s.2]).new 39 [i64 0,u64 0]).own H.size=some [i64 s.1,u64 s.2]:=ag.own (((ag.refl (fun _=>False) _).new _ _):ah (H.new 39 [i64 s.1,u64 s.2]) _) (ax _ _ _) (fun h=>h)
 have d0:((H.new 39 [i64 s.1,u64 s.2]).new 39 [i64 0,u64 0]).own (H.size+1)=some [i64 0,u64 0]:=aQ (by simp only[am])
 generalize (H.new 39 [i64 s.1,u64 s.2]).new 39 [i64 0,u64 0]=H0 at*
 have hl:=Tl n
 have z:¬ ((4294967296:Int)=0):=by omega
 have wn:=Re n
 obtain⟨lo,If⟩:∃lo:Nat,s.2%4294967296+yq n%4294967296=lo:=⟨_,rfl⟩
 obtain⟨h3,hh3⟩:∃h3:Nat,s.2 / 4294967296+yq n / 4294967296=h3:=⟨_,rfl⟩
 obtain⟨hi,Tm⟩:∃hi:Nat,h3+lo / 4294967296=hi:=⟨_,rfl⟩
 have w1:IntKind.u64.wrap (((s.2%4294967296:Nat):Int)+((yq n%4294967296:Nat):Int))=(lo:Int):=by rw[IK (by omega),If]
 have w3:IntKind.u64.wrap (((s.2 / 4294967296:Nat):Int)+((yq n / 4294967296:Nat):Int))=(h3:Int):=by rw[IK (by omega),hh3]
 have w5:IntKind.u64.wrap ((h3:Int)+((lo / 4294967296:Nat):Int))=(hi:Int):=by rw[IK (by omega),Tm]
 have Ym:(s.2+yq n) / 18446744073709551616=hi / 4294967296:=by omega
 have Uk:(s.2+yq n)%18446744073709551616=hi%4294967296*4294967296+lo%4294967296:=by omega
 have w6:IntKind.u64.wrap (((hi%4294967296:Nat):Int)*4294967296)=((hi%4294967296*4294967296:Nat):Int):=by rw[qn (by omega) (by omega)];rfl
 have w7:IntKind.u64.wrap (((hi%4294967296*4294967296:Nat):Int)+((lo%4294967296:Nat):Int))=((hi%4294967296*4294967296+lo%4294967296:Nat):Int):=IK (by omega)
 have q1:IntKind.u64.wrap ((s.2 / 4294967296:Nat):Int)=((s.2 / 4294967296:Nat):Int):=qn (by omega) (by omega)
 have q2:IntKind.u64.wrap ((yq n / 4294967296:Nat):Int)=((yq n / 4294967296:Nat):Int):=qn (by omega) (by omega)
 have q3:IntKind.u64.wrap ((lo / 4294967296:Nat):Int)=((lo / 4294967296:Nat):Int):=qn (by omega) (by omega)
 have q4:IntKind.u64.wrap ((hi / 4294967296:Nat):Int)=((hi / 4294967296:Nat):Int):=qn (by omega) (by omega)
 have ea:GO s n=(IntKind.i64.wrap (s.1+(if n<0 then -1 else 0)+((hi / 4294967296:Nat):Int)),hi%4294967296*4294967296+lo%4294967296):=by rw[←Ym,←Uk];rfl
 rw[ea]
 clear ea Ym Uk
 have fin:∀v:Value,ah H (H0.wr (H.size+1) [v,u64 ((hi%4294967296*4294967296+lo%4294967296:Nat):Int)]):=fun v=>f0.then ((ag.refl (fun z=>z=H.size+1) _).wr (fun _=>rfl) _) (fun z hz=>by omega)
 refine ak.dec (fun hn=>?_) (fun hn=>?_)<;>simp(disch:=(first|omega| (simp only[Zs]<;>omega)|fail)) only[go_sem, ↓reduceIte,Zv,ae b0,wn,if_neg z,aaD,aaE,w1,w3,w5,w6,w7,d0,q1,q2,q3,q4]
 ·have e9:IntKind.i64.wrap (IntKind.u64.wrap (IntKind.u64.wrap (IntKind.u64.wrap s.1+18446744073709551615)+((hi / 4294967296:Nat):Int)))=IntKind.i64.wrap (s.1+(if n<0 then -1 else 0)+((hi / 4294967296:Nat):Int)):=by
   rw[us,Int.add_assoc,us,E1,if_pos hn]
   exact Ho (by omega)
  refine v1 e9 ?_
  have d1:=ai (l:=[i64 (IntKind.i64.wrap (s.1+(if n<0 then -1 else 0)+((hi / 4294967296:Nat):Int))),u64 ((hi%4294967296*4294967296+lo%4294967296:Nat):Int)]) d0
  refine v1 (ae d1) ?_
  exact⟨rfl,fin _⟩
 ·have e9:IntKind.i64.wrap (IntKind.u64.wrap (IntKind.u64.wrap (IntKind.u64.wrap s.1+0)+((hi / 4294967296:Nat):Int)))=IntKind.i64.wrap (s.1+(if n<0 then -1 else 0)+((hi / 4294967296:Nat):Int)):=by
   rw[us,Int.add_assoc,us,E1,if_neg hn]
   exact Ho (by omega)
  refine v1 e9 ?_
  have d1:=ai (l:=[i64 (IntKind.i64.wrap (s.1+(if n<0 then -1 else 0)+((hi / 4294967296:Nat):Int))),u64 ((hi%4294967296*4294967296+lo%4294967296:Nat):Int)]) d0
  refine v1 (ae d1) ?_
  exact⟨rfl,fin _⟩
theorem E4(x:Int): -9223372036854775808≤IntKind.i64.wrap x∧IntKind.i64.wrap x≤9223372036854775807:=by
 have e:(2^IntKind.i64.bits:Int)=18446744073709551616:=rfl
 have e':(2^ (IntKind.i64.bits - 1):Int)=9223372036854775808:=rfl
 unfold IntKind.wrap
 simp only[e,e',IntKind.signed,aov,anF]
 split<;>omega
def InS(s:Int×Nat):Prop:= -9223372036854775808≤s.1∧s.1≤9223372036854775807∧s.2<18446744073709551616
theorem Tn(s:Int×Nat)(n:Int):InS (GO s n):=⟨(E4 _).1,(E4 _).2,Nat.mod_lt _ (by omega)⟩
theorem Rf(l:List Int):∀s,InS s→InS (l.foldl GO s):=by
 induction l with
 |nil=>exact fun _ h=>h
 |cons x l ih=>exact fun s h=>ih _ (Tn s x)
theorem To(l:List Int):InS (B1 l):=Rf l _ ⟨by decide,by decide,by decide⟩
theorem B3{H:Hp}{a:Option Addr}{n c:Nat}{l:List Int}(h:cI H 1 (.slice a n c) n (l.map i64))(hn:n≤1000000)(hl:∀x∈l, -9223372036854775808≤x∧x≤9223372036854775807):
  af Tryz.prog FO [.slice a n c] H fun v H'=>ar (v=GP (B1 l)∧ah H H'):=by
 have aV:l.length=n:=by have:=h.1;simpa using this
 refine aP F3 ?_
 have f0:ah H ((H.new 39 [i64 0,u64 0]).new 39 [i64 0,u64 0]):=((ag.refl _ _).new _ _).new _ _
 have b0:((H.new 39 [i64 0,u64 0]).new 39 [i64 0,u64 0]).own H.size=some [i64 0,u64 0]:=ag.own (((ag.refl (fun _=>False) _).new _ _):ah (H.new 39 [i64 0,u64 0]) _) (ax _ _ _) (fun h=>h)
 have d0:((H.new 39 [i64 0,u64 0]).new 39 [i64 0,u64 0]).own (H.size+1)=some [i64 0,u64 0]:=aQ (by simp only[am])
 refine v1 d0 ?_
 have f0':ah H (((H.new 39 [i64 0,u64 0]).new 39 [i64 0,u64 0]).wr (H.size+1) [i64 0,u64 0]):=f0.then ((ag.refl (fun z=>z=H.size+1) _).wr (fun _=>rfl) _) (fun z hz=>by omega)
 have NE:(((H.new 39 [i64 0,u64 0]).new 39 [i64 0,u64 0]).wr (H.size+1) [i64 0,u64 0]).own H.size=some [i64 0,u64 0]:=by rw[jB (by omega)];exact b0
 have d0':(((H.new 39 [i64 0,u64 0]).new 39 [i64 0,u64 0]).wr (H.size+1) [i64 0,u64 0]).own (H.size+1)=some [i64 0,u64 0]:=ai d0
 generalize ((H.new 39 [i64 0,u64 0]).new 39 [i64 0,u64 0]).wr (H.size+1) [i64 0,u64 0]=H0 at*
 clear f0 b0 d0
 refine aT.intro (fun m env H'=>ah H H'∧H'.own H.size=some [i64 0,u64 0]∧∃ (j:Nat),m=n - j∧j≤n∧H'.own (H.size+1)=some [i64 (B1 (l.take j)).1,u64 (B1 (l.take j)).2]∧
  env=[(2,ptr H.size),(3,ptr (H.size+1)),(7,.slice a n c),(8,i64 n),(9,i64 j)]) n ⟨f0',NE,0,by omega,by omega,d0',rfl⟩ ?_
 rintro m env H1 ⟨f1,b1,j,hm,hj,d1,rfl⟩
 have h1:=h.fresh f1
 refine vs ?_
 refine ak.dec (fun aK=>?_) (fun aK=>?_)<;>refine vs ?_
 ·have fF:j<n:=by omega
  obtain⟨y,hy⟩:∃y,l[j]? =some y:=⟨_,am8 (by omega)⟩
  obtain⟨b,o,c',lb,yD,eG,Yq,Cm⟩:=cI.get h1 (i:=j) (j:=0) (x:=i64 y) (by omega) (by rw[ane,Nat.add_zero,anA,hy];rfl)
  injection yD with yD _ _
  subst yD
  obtain⟨Vn,Ln⟩:=hl y (ang hy)
  refine⟨⟨by omega,by omega⟩,?_⟩
  rw[Nat.add_zero,ane]at Cm
  refine v5 eG Int.toNat_natCast ane Cm (ae d1) ?_
  obtain⟨g1,g2,g3⟩:=To (l.take j)
  refine(E3 H1 (B1 (l.take j)) y Vn Ln g1 g2 g3).mono ?_
  rintro _ H2 ⟨rfl,f2⟩
  have d2:=f2.own d1 (fun h=>h)
  have b2:=f2.own b1 (fun h=>h)
  simp(disch:=(first|omega| (simp only[Zs]<;>omega)|fail)) only[go_sem, ↓reduceIte,Zv,d2,GP]
  rw[wrap64 (n:=(j:Int)+1) (by omega) (by omega)]
  have afK:B1 (l.take (j+1))=GO (B1 (l.take j)) y:=by
   rw[anN,hy]
   exact OX _ _
  refine⟨n - (j+1),by omega,(f1.trans f2).then ((ag.refl (fun z=>z=H.size+1) _).wr (fun _=>rfl) _) (fun z hz=>by omega),(by first|exact b2| (rw[jB (by omega)];exact b2)),j+1,rfl,by omega,?_,rfl⟩
  rw[afK];exact ai d2
 ·have fF:j=n:=by omega
  subst fF
  rw[ao0 (by omega)]at d1
  have b2:=ai (l:=[i64 (B1 l).1,u64 (B1 l).2]) b1
  refine v3 (ae d1) b1 (ae b2) ?_
  exact⟨rfl,f1.then ((ag.refl (fun z=>z=H.size) _).wr (fun _=>rfl) _) (fun z hz=>by omega)⟩
def IL(S:Int):Int×Nat:=(S / 18446744073709551616,(S%18446744073709551616).toNat)
theorem Rg{S n:Int}(h0: -9223372036854775808≤n)(h1:n≤9223372036854775807)(hS: -9223372036854775808*1000000000000≤S∧S≤9223372036854775808*1000000000000):GO (IL S) n=IL (S+n):=by
 unfold GO IL yq
 have hw:∀z:Int, -9223372036854775808≤z→z≤9223372036854775807→IntKind.i64.wrap z=z:=fun z=>wrap64
 simp only
 refine Prod.ext ?_ ?_
 ·simp only
  rw[hw _ (by split<;>omega) (by split<;>omega)]
  split<;>omega
 ·simp only
  omega
theorem OY:∀ (l:List Int) (S:Int),(∀x∈l, -9223372036854775808≤x∧x≤9223372036854775807)→(-9223372036854775808*(1000000000000 - (l.length:Int))≤S∧S≤9223372036854775808*(1000000000000 - (l.length:Int)))→
  l.foldl GO (IL S)=IL (S+l.sum):=by
 intro l
 induction l with
 |nil=>intro S _ _;simp
 |cons x l ih=>
  intro S h hS
  obtain⟨h0,h1⟩:=h x (anZ ..)
  rw[anw]at hS
  rw[List.foldl_cons,Rg h0 h1 (by omega),ih (S+x) (fun y hy=>h y (anK _ hy)) (by omega),ao5,Int.add_assoc]
theorem Rh{l:List Int}(h:∀x∈l, -9223372036854775808≤x∧x≤9223372036854775807)(hl:l.length≤1000000000):B1 l=IL l.sum:=by
 have:=OY l 0 h (by omega)
 rw[Int.zero_add]at this
 exact this
theorem Hq{n:Nat}:∀ks:List E2,(∀e∈ks,e.1<n∧e.2<n)→∀v,n≤v→aB ks v=v:=by
 refine jJ (fun _ v _=>rfl) fun ks e ih hb v hv=>?_
 have h1:=ih fun x hx=>hb x (anr _ hx)
 obtain⟨h2,h3⟩:=hb e (by simp)
 rw[lS]
 unfold Cc
 have:=iB ks e.1
 have:=iB ks e.2
 rw[h1 v hv,if_neg (by omega)]
theorem Mx{n:Int}{es:List Ed}{ks:List Int}(hr:eR n es)(hk:∀i∈ks,Km es i)(ha:gh (ks.map (fE es))):
  jv n es ks↔∀v,v<n.toNat→aB (ks.map (fE es)) v=aB ((allI es.length).map (fE es)) v:=by
 constructor
 ·intro h v _
  rw[nZ h.iff]
 ·intro h
  refine⟨hk,ha,fun u v=>?_⟩
  have JV:∀e∈ks.map (fE es),e.1<n.toNat∧e.2<n.toNat:=fun e he=>by
   obtain⟨i,hi,rfl⟩:=anv.1 he
   exact qu hr (hk i hi)
  have nA:∀e∈(allI es.length).map (fE es),e.1<n.toNat∧e.2<n.toNat:=fun e he=>by
   obtain⟨i,hi,rfl⟩:=anv.1 he
   exact qu hr (ja.1 hi)
  have he:∀x,aB (ks.map (fE es)) x=aB ((allI es.length).map (fE es)) x:=fun x=>by
   by_cases hx:x<n.toNat
   ·exact h x hx
   ·rw[Hq _ JV x (by omega),Hq _ nA x (by omega)]
  unfold bA
  rw[he u,he v]
  exact id
theorem E5{H:Hp}{n:Int}{a:Option Addr}{c k:Nat}(hl:k≤1000000000):
  af Tryz.prog Jq [yg n (.slice a k c)] H fun v H'=>ar (ah H H'∧∃b,H.size≤b∧Sl H' 1 v (allI k).length ((allI k).map i64) (some b)):=by
 refine aP Jy ?_
 have f0:ah H (H.new 52 [i64 n,.slice a k c]):=(ag.refl _ _).new _ _
 have Cp:(H.new 52 [i64 n,.slice a k c]).size=H.size+1:=by rw[am]
 simp(disch:=(first|omega| (simp only[Zs]<;>omega)|fail)) only[go_sem, ↓reduceIte,Zv,yg]
 generalize H.new 52 [i64 n,.slice a k c]=H0 at*
 have fo:ah H0 (H0.new 3 []):=(ag.refl _ _).new _ _
 have s0:Sl (H0.new 3 []) 1 (.slice (some ⟨H.size+1,0,none⟩) 0 0) (allI 0).length ((allI 0).map i64) (some (H.size+1)):=Sl.bP (size:=1) (n:=0) (xs:=[]) rfl Cp.symm
 generalize H0.new 3 []=H1 at*
 refine aT.intro (fun m env H'=>ah H H'∧∃ (j:Nat) (w:Value) (b:Nat),m=k - j∧j≤k∧H.size≤b∧Sl H' 1 w (allI j).length ((allI j).map i64) (some b)∧
  env=[(3,w),(8,i64 k),(9,i64 j)]) k ⟨f0.trans fo,0,_,H.size+1,by omega,by omega,by omega,s0,rfl⟩ ?_
 rintro m env H2 ⟨f2,j,w,b,hm,hj,hb,s2,rfl⟩
 refine vs ?_
 refine ak.dec (fun aK=>?_) (fun aK=>?_)<;>refine vs ?_
 ·refine G7 (B:=H.size) hb f2.size s2 _ (by rw[tE];omega) ?_
  intro w' H' b' jz s' e'
  rw[←uo]at s'
  refine vs ?_
  rw[wrap64 (n:=(j:Int)+1) (by omega) (by omega)]
  exact⟨k - (j+1),by omega,f2.then e' (fun z hz=>hz),j+1,w',b',rfl,by omega,jz,s',rfl⟩
 ·have fF:j=k:=by omega
  subst fF
  exact⟨f2,b,hb,s2⟩
theorem An{H:Hp}{n:Int}{a a':Option Addr}{c c':Nat}{es:List Ed}{ks:List Int}(h:cI H 3 (.slice a es.length c) es.length (dM es))(h':cI H 1 (.slice a' ks.length c') ks.length (ks.map i64))(HJ:ks.length≤c')
  (hr:eR n es)(hl:ks.length≤1000000000):
  af Tryz.prog DP [yg n (.slice a es.length c),.slice a' ks.length c'] H fun v H'=>ar (ah H H'∧∃b,v= .bool b∧(b=true↔jv n es ks)):=by
 refine aP DV ?_
 have f0:ah H (H.new 52 [i64 n,.slice a es.length c]):=(ag.refl _ _).new _ _
 have b0:=ax H 52 [i64 n,.slice a es.length c]
 have Cp:(H.new 52 [i64 n,.slice a es.length c]).size=H.size+1:=by rw[am]
 simp(disch:=(first|omega| (simp only[Zs]<;>omega)|fail)) only[go_sem, ↓reduceIte,Zv,yg]
 generalize H.new 52 [i64 n,.slice a es.length c]=H0 at*
 have T7:=hr.len
 refine aT.intro (fun m env H'=>ah H H'∧H'.own H.size=some [i64 n,.slice a es.length c]∧∃ (k:Nat),m=ks.length - k∧k≤ks.length∧(∀i∈ks.take k,Km es i)∧gh ((ks.take k).map (fE es))∧
  env=[(1,.slice a' ks.length c'),(2,ptr H.size),(12,.slice a' ks.length c'),(13,i64 ks.length),(14,i64 k)]) ks.length ⟨f0,b0,0,by omega,by omega,by simp,.nil,rfl⟩ ?_
 rintro m env H3 ⟨f3,b3,k,hm,ST,bE,RR,rfl⟩
 have Ld:=az b3
 have h3:=h.fresh f3
 have Lg:=h'.fresh f3
 refine vs ?_
 refine ak.dec (fun aK=>?_) (fun aK=>?_)<;>refine vs ?_
 ·obtain⟨i,hi⟩:∃x,ks[k]? =some x:=⟨_,am8 (by omega)⟩
  obtain⟨_,bx,o,lb,rfl,eG,bS⟩:=cI.num Lg hi
  have bF:=ang hi
  refine⟨⟨by omega,by omega⟩,?_⟩
  refine v4 eG Int.toNat_natCast ane bS ?_
  refine ak.dec (fun g1=>?_) (fun g1=>?_)<;>refine v1 (ae b3) ?_
  ·exact⟨f3,false,rfl,iff_of_false (by simp) fun hs=>by have:=(hs.ins i bF).1;omega⟩
  refine ak.dec (fun g2=>?_) (fun g2=>?_)<;>refine v1 (ae b3) ?_
  ·exact⟨f3,false,rfl,iff_of_false (by simp) fun hs=>by have:=(hs.ins i bF).2;omega⟩
  have hIn:Km es i:=⟨by omega,by omega⟩
  obtain⟨ik,e,rfl,he,hik⟩:=hIn.get
  obtain⟨ef0,ef1,et0,et1⟩:=hr.ends e (ang he)
  obtain⟨_,be,oe,le,rfl,WD,mJ,ef,jQ,ue,qJ⟩:=cI.nF h3 he
  obtain⟨a2,AF,uC,akV,nj⟩:=oV Lg (lo:=0) (hi:=k) (lo':=((0:Nat):Int)) (hi':=(k:Int)) rfl rfl (by omega) (by omega) HJ
  rw[apa,Nat.sub_zero]at uC nj
  refine⟨⟨by omega,by omega,by omega,by omega⟩,?_⟩
  refine vs ?_
  rw[AF]
  have AE:=fS (ks:=ks.take k) (a':=a2) (c':=c' - 0) h3 (by rw[nj];exact uC) hr bE (by omega)
  rw[nj]at AE
  refine AE.mono ?_
  rintro u H4 ⟨f4,bu,hbu,s4⟩
  have b4:=f4.own b3 (fun h=>h)
  have h4:=h3.fresh f4
  obtain⟨_,be4,oe4,le4,Ri,aaF,akW,NF,hd0,NU,iA⟩:=cI.nF h4 he
  injection Ri with Ri
  injection Ri with Ri afL
  subst Ri;subst afL
  obtain⟨wa,wc,rfl,_⟩:=cE s4
  obtain⟨_,rfl,lw,R7,Yp⟩:=Sl.num s4 (it ((ks.take k).map (fE es)) (v:=e.f.toNat) (by omega))
  obtain⟨_,_,lw',IJ,Dl⟩:=Sl.num s4 (it ((ks.take k).map (fE es)) (v:=e.t.toNat) (by omega))
  rw[R7]at IJ
  injection IJ with IJ
  subst IJ
  refine v1 (ae b4) ?_
  refine⟨⟨by omega,by omega⟩,?_⟩
  simp(disch:=(first|omega| (simp only[Zs]<;>omega)|fail)) only[go_sem, ↓reduceIte,Zv,aaF,Int.toNat_natCast,NF,ed]
  refine⟨by omega,?_⟩
  have q2:=ax H4 61 [i64 0,i64 0,i64 0]
  simp(disch:=(first|omega| (simp only[Zs]<;>omega)|fail)) only[go_sem, ↓reduceIte,Zv,NF,ed,q2]
  have q3:=ai (l:=[i64 e.f,i64 e.t,i64 e.w]) q2
  have f5:ah H4 ((H4.new 61 [i64 0,i64 0,i64 0]).wr H4.size [i64 e.f,i64 e.t,i64 e.w]):=((ag.refl _ _).new _ _:ah H4 _).then ((ag.refl (fun z=>z=H4.size) _).wr (fun _=>rfl) _) (fun z hz=>by omega)
  generalize (H4.new 61 [i64 0,i64 0,i64 0]).wr H4.size [i64 e.f,i64 e.t,i64 e.w]=H5 at*
  have aaH:=f5.own R7 (fun h=>h)
  refine v1 (ae q3) ?_
  refine⟨⟨by omega,by omega⟩,?_⟩
  refine v5 (ae aaH) ane am9 Yp (ae q3) ?_
  refine⟨⟨by omega,by omega⟩,?_⟩
  refine v4 (ae aaH) ane am9 Dl ?_
  have WE:ks.take (k+1)=ks.take k++[(ik:Int)]:=by rw[anN,hi];rfl
  have f35:=f3.trans (f4.trans f5)
  refine ak.dec (fun g3=>?_) (fun g3=>?_)<;>refine vs ?_
  ·refine⟨f35,false,rfl,iff_of_false (by simp) fun hs=>?_⟩
   have aaI:gh ((ks.take (k+1)).map (fE es)):=Je hs.uD ((List.take_sublist _ _).map _)
   rw[WE,anH,aoC,tX,Ab he]at aaI
   exact aaI.2 (by show aB _ _=aB _ _;simp only;omega)
  ·rw[wrap64 (n:=(k:Int)+1) (by omega) (by omega)]
   refine⟨ks.length - (k+1),by omega,f35,f5.own b4 (fun h=>h),k+1,rfl,by omega,fun i hi'=>?_,?_,rfl⟩
   ·rw[WE]at hi'
    rcases ann.1 hi' with hi'|hi'
    ·exact bE i hi'
    ·rw[anj.1 hi'];exact hIn
   ·rw[WE,anH,aoC,tX]
    refine⟨RR,fun hh=>g3 ?_⟩
    rw[Ab he]at hh
    have:aB ((ks.take k).map (fE es)) e.f.toNat=aB ((ks.take k).map (fE es)) e.t.toNat:=hh
    rw[this]
 ·have yC:k=ks.length:=by omega
  subst yC
  rw[anJ]at bE RR
  have AE:=Mx hr bE RR
  refine v1 (ae b3) ?_
  refine(fS h3 Lg hr bE hl).mono ?_
  rintro u H4 ⟨f4,bu,hbu,s4⟩
  have b4:=f4.own b3 (fun h=>h)
  obtain⟨wa,wc,rfl,_⟩:=cE s4
  refine vs ?_
  refine jk.intro (fun H'=>H'.own H.size=some [i64 n,.slice a es.length c]) b4 ?_
  refine vs ?_
  refine fk.intro (yg n (.slice a es.length c)) (fun H' hI=>by refine v1 (ae hI) ?_;exact⟨rfl,trivial⟩) ?_
  refine v1 (ae b4) ?_
  refine And.intro b4 ?_
  refine vs ?_
  refine(E5 (n:=n) (a:=a) (c:=c) (k:=es.length) (by omega)).mono ?_
  rintro v5 H5 ⟨f5,b5',hb5,s5⟩
  have b5:=f5.own b4 (fun h=>h)
  obtain⟨va,Us,rfl,_⟩:=cE s5
  refine And.intro b5 ?_
  refine vs ?_
  refine(fS ((h3.fresh f4).fresh f5) s5.rd hr (fun i hi=>ja.1 hi) (by rw[tE];omega)).mono ?_
  rintro v6 H6 ⟨f6,b6',hb6,s6⟩
  obtain⟨xa,xc,rfl,_⟩:=cE s6
  refine And.intro (f6.own b5 (fun h=>h)) ?_
  refine vs ?_
  have s46:=s4.ext (f5.trans f6) (fun _ _ h=>h)
  have f36:=f3.trans (f4.trans (f5.trans f6))
  have AD:=oQ n.toNat (ks.map (fE es))
  have o8:=oQ n.toNat ((allI es.length).map (fE es))
  have JW:=hr.n0
  have uF:=hr.n1
  refine aT.intro (fun m env H'=>H'=H6∧∃ (j:Nat),m=n.toNat - j∧j≤n.toNat∧(∀v,v<j→aB (ks.map (fE es)) v=aB ((allI es.length).map (fE es)) v)∧
   env=[(9,.slice wa n.toNat wc),(56,.slice xa n.toNat xc),(57,i64 n.toNat),(58,i64 j)]) n.toNat ⟨rfl,0,by omega,by omega,by omega,rfl⟩ ?_
  rintro m env _ ⟨rfl,j,SO,hj,cR,rfl⟩
  refine vs ?_
  refine ak.dec (fun yf=>?_) (fun yf=>?_)<;>refine vs ?_
  ·have Yq:j<n.toNat:=by omega
   obtain⟨_,rfl,l1,L0,jA⟩:=Sl.num s46 (it (ks.map (fE es)) Yq)
   obtain⟨_,rfl,l2,X5,FA⟩:=Sl.num s6 (it ((allI es.length).map (fE es)) Yq)
   refine⟨⟨by omega,by omega⟩,?_⟩
   refine v5 (ae X5) Int.toNat_natCast ane am9 FA ?_
   refine⟨⟨by omega,by omega⟩,?_⟩
   refine v5 (ae L0) Int.toNat_natCast ane am9 jA ?_
   refine ak.dec (fun g3=>?_) (fun g3=>?_)<;>refine vs ?_
   ·rw[wrap64 (n:=(j:Int)+1) (by omega) (by omega)]
    refine⟨n.toNat - (j+1),by omega,trivial,j+1,rfl,by omega,fun v hv=>?_,rfl⟩
    by_cases hvj:v=j
    ·rw[hvj];omega
    ·exact cR v (by omega)
   ·refine⟨f36,false,rfl,iff_of_false (by simp) fun hs=>?_⟩
    have:=AE.1 hs j Yq
    omega
  ·exact⟨f36,true,rfl,iff_of_true rfl (AE.2 fun v hv=>cR v (by omega))⟩
theorem wg{H:Hp}{n:Int}{a:Option Addr}{c:Nat}{es:List Ed}(h:cI H 3 (.slice a es.length c) es.length (dM es))(hl:es.length≤1000000000):
  af Tryz.prog AM [yg n (.slice a es.length c)] H fun v H'=>ar (ah H H'∧∃ (L:List Int) (b:Nat),L.Perm (allI es.length)∧L.Pairwise (fun i j=>wE es i≤wE es j)∧H.size≤b∧Sl H' 1 v L.length (L.map i64) (some b)):=by
 refine aP AX ?_
 have f0:ah H (H.new 52 [i64 n,.slice a es.length c]):=(ag.refl _ _).new _ _
 have b0:=ax H 52 [i64 n,.slice a es.length c]
 have Cp:(H.new 52 [i64 n,.slice a es.length c]).size=H.size+1:=by rw[am]
 simp(disch:=(first|omega| (simp only[Zs]<;>omega)|fail)) only[go_sem, ↓reduceIte,Zv,yg]
 generalize H.new 52 [i64 n,.slice a es.length c]=H0 at*
 have fo:ah H0 (H0.new 3 []):=(ag.refl _ _).new _ _
 have s0:Sl (H0.new 3 []) 1 (.slice (some ⟨H.size+1,0,none⟩) 0 0) ([]:List Int).length (([]:List Int).map i64) (some (H.size+1)):=Sl.bP (size:=1) (n:=0) (xs:=[]) rfl Cp.symm
 have b1:=fo.own b0 (fun h=>h)
 generalize H0.new 3 []=H1 at*
 refine aT.intro (fun m env H'=>ah H H'∧H'.own H.size=some [i64 n,.slice a es.length c]∧∃ (j:Nat) (w:Value) (b:Nat) (L:List Int),m=es.length - j∧j≤es.length∧H.size+1≤b∧L.Perm (allI j)∧L.Pairwise (fun i j=>wE es i≤wE es j)∧Sl H' 1 w L.length (L.map i64) (some b)∧
  env=[(1,ptr H.size),(3,w),(10,.slice a es.length c),(11,i64 es.length),(12,i64 j)]) es.length ⟨f0.trans fo,b1,0,_,H.size+1,[],by omega,by omega,by omega,.refl _,.nil,s0,rfl⟩ ?_
 clear s0 b1 fo b0 f0
 rintro m env H2 ⟨f2,b2,j,w,b,L,hm,hj,hb,qN,R9,s2,rfl⟩
 have dE:=az b2
 have h2:=h.fresh f2
 have hLl:L.length=j:=by rw[qN.length_eq,tE]
 refine vs ?_
 refine ak.dec (fun aK=>?_) (fun aK=>?_)<;>refine vs ?_
 rotate_left
 ·have fF:j=es.length:=by omega
  subst fF
  exact⟨f2,L,b,qN,R9,by omega,s2⟩
 obtain⟨e,he⟩:∃e,es[j]? =some e:=⟨_,am8 (by omega)⟩
 obtain⟨_,be,o,lb,rfl,eG,mJ,ef,jQ,ue,qJ⟩:=cI.nF h2 he
 refine⟨⟨by omega,by omega⟩,?_⟩
 simp(disch:=(first|omega| (simp only[Zs]<;>omega)|fail)) only[go_sem, ↓reduceIte,Zv,eG,Int.toNat_natCast,ef,ed]
 refine⟨by omega,?_⟩
 have q2:=ax H2 61 [i64 0,i64 0,i64 0]
 simp(disch:=(first|omega| (simp only[Zs]<;>omega)|fail)) only[go_sem, ↓reduceIte,Zv,ef,ed,q2]
 have q3:=ai (l:=[i64 e.f,i64 e.t,i64 e.w]) q2
 have f3:ah H2 ((H2.new 61 [i64 0,i64 0,i64 0]).wr H2.size [i64 e.f,i64 e.t,i64 e.w]):=((ag.refl _ _).new _ _:ah H2 _).then ((ag.refl (fun z=>z=H2.size) _).wr (fun _=>rfl) _) (fun z hz=>by omega)
 generalize (H2.new 61 [i64 0,i64 0,i64 0]).wr H2.size [i64 e.f,i64 e.t,i64 e.w]=H3 at*
 have b3:=f3.own b2 (fun h=>h)
 have h3:=h2.fresh f3
 have s3:=s2.ext f3 (fun _ _ h=>h)
 obtain⟨wa,wc,rfl,hwc⟩:=cE s3
 refine aT.intro (fun m env H'=>H'=H3∧∃k:Nat,m=L.length - k∧k≤L.length∧(∀x∈L.take k,wE es x≤e.w)∧
  env=[(1,ptr H.size),(3,.slice wa L.length wc),(4,i64 j),(5,ptr H2.size),(6,i64 k),(10,.slice (some ⟨be,o,none⟩) es.length c),(11,i64 es.length),(12,i64 j)]) L.length ⟨rfl,0,by omega,by omega,by simp,rfl⟩ ?_
 rintro m2 env H3 ⟨rfl,k,hm2,hk,If,rfl⟩
 refine vs ?_
 refine ak.dec (fun ST=>?_) (fun ST=>?_)<;>refine vs ?_
 ·obtain⟨x,hx⟩:∃x,L[k]? =some x:=⟨_,am8 (by omega)⟩
  have QJ:Km es x:=by
   have:=ES.1 (qN.mem_iff.1 (ang hx))
   exact⟨this.1,by omega⟩
  obtain⟨ix,ex,rfl,hex,aaJ⟩:=QJ.get
  obtain⟨_,rfl,lw,R7,Nk⟩:=Sl.num s3 hx
  obtain⟨_,be2,oe2,le2,Tp,zQ,aaK,NG,hd0,NU,iA⟩:=cI.nF h3 hex
  injection Tp with Tp
  injection Tp with Tp Zq
  subst Tp;subst Zq
  refine v1 (ae b3) ?_
  refine⟨⟨by omega,by omega⟩,?_⟩
  refine v5 (ae R7) Int.toNat_natCast ane am9 Nk ?_
  refine⟨⟨by omega,by omega⟩,?_⟩
  refine v4 zQ Int.toNat_natCast iA (ae q3) ?_
  refine ak.dec (fun aaL=>?_) (fun aaL=>?_)<;>refine vs ?_
  ·rw[wrap64 (n:=(k:Int)+1) (by omega) (by omega)]
   refine⟨L.length - (k+1),by omega,trivial,k+1,rfl,by omega,fun y hy=>?_,rfl⟩
   rw[anN,hx]at hy
   rcases ann.1 hy with hy|hy
   ·exact If y hy
   ·have:y=(ix:Int):=by simpa using hy
    rw[this,tD hex];exact aaL
  have Tm:∀x∈L.drop k,e.w≤wE es x:=by
   intro y hy
   have Td:L.drop k=(ix:Int)::L.drop (k+1):=by
    rw[aom (by omega)]
    rw[am8 (by omega)]at hx
    injection hx with hx
    rw[hx]
   have Wx:=List.Pairwise.sublist (List.drop_sublist k L) R9
   rw[Td,aon]at Wx
   rw[Td]at hy
   rcases anm.1 hy with rfl|hy
   ·rw[tD hex];omega
   ·have:=Wx.1 y hy
    rw[tD hex]at this
    omega
  have Wj:=oV s3.rd (lo:=0) (hi:=k) (lo':=((0:Nat):Int)) (hi':=(k:Int)) rfl rfl (by omega) (by omega) hwc
  obtain⟨a5,hv5,hr5,hc5,RY⟩:=Wj
  rw[apa,Nat.sub_zero]at hr5 RY
  have sp2:=oV s3.rd (lo:=k) (hi:=L.length) (lo':=(k:Int)) (hi':=(L.length:Int)) rfl rfl (by omega) (by omega) hwc
  obtain⟨a6,hv6,WF,hc6,hl6⟩:=sp2
  rw[ao0 (by rw[aoW];omega)]at WF
  have Ld:=az b3
  have fl:ah H3 (H3.new 3 []):=(ag.refl _ _).new _ _
  have sl:Sl (H3.new 3 []) 1 (.slice (some ⟨H3.size,0,none⟩) 0 0) ([]:List Int).length (([]:List Int).map i64) (some H3.size):=Sl.bP (size:=1) (n:=0) (xs:=[]) rfl rfl
  have WG:=hr5.fresh fl
  have WH:=WF.fresh fl
  have b4:=fl.own b3 (fun h=>h)
  refine⟨⟨by omega,by omega,by omega,by omega⟩,?_⟩
  refine vs ?_
  rw[hv5]
  have VD:(H3.new 3 []).size=H3.size+1:=by rw[am]
  generalize H3.new 3 []=H4 at*
  refine Nj (B:=H3.size) (xs:=[]) (ys:=L.take k) (fun b hb=>by injection hb with hb;omega) (by omega) sl (by rw[RY];exact WG) (by simp;omega) ?_
  intro w5 H5 fp5 WI s5 e5
  rw[aoh]at s5
  refine vs ?_
  have f45:ah H2 H5:=(f3.trans fl).then e5 (fun z hz=>by have:=f3.size;omega)
  have b5:=e5.own b4 (fun h=>by omega)
  have aaN:=WH.ext e5
  refine wB (B:=H3.size) WI (by have:=e5.size;omega) s5 _ (by rw[anR];omega) ?_
  intro w6 H6 fp6 WJ s6 e6
  have b6:=e6.own b5 (fun h=>by omega)
  have f36:ah H3 H6:=(fl.then e5 (fun z hz=>hz)).then e6 (fun z hz=>hz)
  obtain⟨w6a,w6c,rfl,_⟩:=cE s6
  refine vs ?_
  refine⟨⟨by omega,by omega,by omega,by omega⟩,?_⟩
  refine vs ?_
  rw[hv6]
  refine Nj (B:=H3.size) (ys:=L.drop k) WJ (f36.size) s6 (by have:=WF.fresh f36;rw[aoW];exact this) (by simp;omega) ?_
  intro w7 H7 fp7 WK s7 e7
  have b7:=e7.own b6 (fun h=>by omega)
  have eL:L.take k++[(j:Int)]++L.drop k=L.take k++((j:Int)::L.drop k):=by simp
  have hp7:(L.take k++[(j:Int)]++L.drop k).Perm (allI (j+1)):=by
   rw[eL,uo]
   have h1:(L.take k++(j:Int)::L.drop k).Perm ((j:Int)::(L.take k++L.drop k)):=aoU
   rw[aoB]at h1
   exact h1.trans ((qN.cons _).trans (List.perm_append_singleton _ _).symm)
  have hw7:(L.take k++[(j:Int)]++L.drop k).Pairwise (fun i j=>wE es i≤wE es j):=by
   have h0:=R9
   rw[←aoB k L,aol]at h0
   rw[eL,aol,aon]
   refine⟨h0.1,⟨fun x hx=>by rw[tD he];exact Tm x hx,h0.2.1⟩,fun x hx y hy=>?_⟩
   rcases anm.1 hy with rfl|hy
   ·rw[tD he];exact If x hx
   ·exact h0.2.2 x hx y hy
  obtain⟨b7',rfl,hb7⟩:∃b',fp7=some b'∧H3.size≤b':=by
   cases fp7 with
   |none=>obtain⟨_,h0,_⟩:=s7;simp at h0
   |some b'=>exact⟨b',rfl,WK b' rfl⟩
  refine vs ?_
  rw[wrap64 (n:=(j:Int)+1) (by omega) (by omega)]
  exact⟨es.length - (j+1),by omega,(f2.trans (f3.trans f36)).then e7 (fun z hz=>by have:=f3.size;omega),b7,j+1,w7,b7',_,rfl,by omega,by omega,hp7,hw7,s7,rfl⟩
 ·have Tm:∀x∈L.drop k,e.w≤wE es x:=by rw[List.drop_eq_nil_of_le (by omega)];simp
  have Wj:=oV s3.rd (lo:=0) (hi:=k) (lo':=((0:Nat):Int)) (hi':=(k:Int)) rfl rfl (by omega) (by omega) hwc
  obtain⟨a5,hv5,hr5,hc5,RY⟩:=Wj
  rw[apa,Nat.sub_zero]at hr5 RY
  have sp2:=oV s3.rd (lo:=k) (hi:=L.length) (lo':=(k:Int)) (hi':=(L.length:Int)) rfl rfl (by omega) (by omega) hwc
  obtain⟨a6,hv6,WF,hc6,hl6⟩:=sp2
  rw[ao0 (by rw[aoW];omega)]at WF
  have Ld:=az b3
  have fl:ah H3 (H3.new 3 []):=(ag.refl _ _).new _ _
  have sl:Sl (H3.new 3 []) 1 (.slice (some ⟨H3.size,0,none⟩) 0 0) ([]:List Int).length (([]:List Int).map i64) (some H3.size):=Sl.bP (size:=1) (n:=0) (xs:=[]) rfl rfl
  have WG:=hr5.fresh fl
  have WH:=WF.fresh fl
  have b4:=fl.own b3 (fun h=>h)
  refine⟨⟨by omega,by omega,by omega,by omega⟩,?_⟩
  refine vs ?_
  rw[hv5]
  have VD:(H3.new 3 []).size=H3.size+1:=by rw[am]
  generalize H3.new 3 []=H4 at*
  refine Nj (B:=H3.size) (xs:=[]) (ys:=L.take k) (fun b hb=>by injection hb with hb;omega) (by omega) sl (by rw[RY];exact WG) (by simp;omega) ?_
  intro w5 H5 fp5 WI s5 e5
  rw[aoh]at s5
  refine vs ?_
  have f45:ah H2 H5:=(f3.trans fl).then e5 (fun z hz=>by have:=f3.size;omega)
  have b5:=e5.own b4 (fun h=>by omega)
  have aaN:=WH.ext e5
  refine wB (B:=H3.size) WI (by have:=e5.size;omega) s5 _ (by rw[anR];omega) ?_
  intro w6 H6 fp6 WJ s6 e6
  have b6:=e6.own b5 (fun h=>by omega)
  have f36:ah H3 H6:=(fl.then e5 (fun z hz=>hz)).then e6 (fun z hz=>hz)
  obtain⟨w6a,w6c,rfl,_⟩:=cE s6
  refine vs ?_
  refine⟨⟨by omega,by omega,by omega,by omega⟩,?_⟩
  refine vs ?_
  rw[hv6]
  refine Nj (B:=H3.size) (ys:=L.drop k) WJ (f36.size) s6 (by have:=WF.fresh f36;rw[aoW];exact this) (by simp;omega) ?_
  intro w7 H7 fp7 WK s7 e7
  have b7:=e7.own b6 (fun h=>by omega)
  have eL:L.take k++[(j:Int)]++L.drop k=L.take k++((j:Int)::L.drop k):=by simp
  have hp7:(L.take k++[(j:Int)]++L.drop k).Perm (allI (j+1)):=by
   rw[eL,uo]
   have h1:(L.take k++(j:Int)::L.drop k).Perm ((j:Int)::(L.take k++L.drop k)):=aoU
   rw[aoB]at h1
   exact h1.trans ((qN.cons _).trans (List.perm_append_singleton _ _).symm)
  have hw7:(L.take k++[(j:Int)]++L.drop k).Pairwise (fun i j=>wE es i≤wE es j):=by
   have h0:=R9
   rw[←aoB k L,aol]at h0
   rw[eL,aol,aon]
   refine⟨h0.1,⟨fun x hx=>by rw[tD he];exact Tm x hx,h0.2.1⟩,fun x hx y hy=>?_⟩
   rcases anm.1 hy with rfl|hy
   ·rw[tD he];exact If x hx
   ·exact h0.2.2 x hx y hy
  obtain⟨b7',rfl,hb7⟩:∃b',fp7=some b'∧H3.size≤b':=by
   cases fp7 with
   |none=>obtain⟨_,h0,_⟩:=s7;simp at h0
   |some b'=>exact⟨b',rfl,WK b' rfl⟩
  refine vs ?_
  rw[wrap64 (n:=(j:Int)+1) (by omega) (by omega)]
  exact⟨es.length - (j+1),by omega,(f2.trans (f3.trans f36)).then e7 (fun z hz=>by have:=f3.size;omega),b7,j+1,w7,b7',_,rfl,by omega,by omega,hp7,hw7,s7,rfl⟩
theorem My{α:Type}{e:α→E2}:∀L:List α,(bO e L).length≤L.length:=by
 refine jJ (by simp[bO]) fun L i ih=>?_
 rw[mR]
 split
 ·simp;omega
 ·simp;omega
theorem B4{H:Hp}{n:Int}{a:Option Addr}{c:Nat}{es:List Ed}(h:cI H 3 (.slice a es.length c) es.length (dM es))(hr:eR n es):
  af Tryz.prog FL [yg n (.slice a es.length c)] H fun v H'=>ar (ah H H'∧∃ (L:List Int) (b:Nat),L.Perm (allI es.length)∧L.Pairwise (fun i j=>wE es i≤wE es j)∧H.size≤b∧Sl H' 1 v (bO (fE es) L).length ((bO (fE es) L).map i64) (some b)):=by
 refine aP F0 ?_
 have T7:=hr.len
 have f0:ah H (H.new 52 [i64 n,.slice a es.length c]):=(ag.refl _ _).new _ _
 have b0:=ax H 52 [i64 n,.slice a es.length c]
 have Cp:(H.new 52 [i64 n,.slice a es.length c]).size=H.size+1:=by rw[am]
 simp(disch:=(first|omega| (simp only[Zs]<;>omega)|fail)) only[go_sem, ↓reduceIte,Zv,yg]
 generalize H.new 52 [i64 n,.slice a es.length c]=H0 at*
 have fo:ah H0 (H0.new 3 []):=(ag.refl _ _).new _ _
 have s0:Sl (H0.new 3 []) 1 (.slice (some ⟨H.size+1,0,none⟩) 0 0) ([]:List Int).length (([]:List Int).map i64) (some (H.size+1)):=Sl.bP (size:=1) (n:=0) (xs:=[]) rfl Cp.symm
 have b1:=fo.own b0 (fun h=>h)
 generalize H0.new 3 []=H1 at*
 have f01:=f0.trans fo
 refine(wg (n:=n) (h.fresh f01) (by omega)).mono ?_
 rintro u H2 ⟨f2,L,bl,qN,R9,Uc,sL⟩
 obtain⟨la,lc,rfl,_⟩:=cE sL
 have b2:=f2.own b1 (fun h=>h)
 have s2:=s0.ext f2 (fun _ _ h=>h)
 have hLl:L.length=es.length:=by rw[qN.length_eq,tE]
 have hrL:=sL.rd
 have J7:H1.size≤H2.size:=f2.size
 have ak5:H.size<H1.size:=az b1
 have hs0:H.size+1<H1.size:=Sl.lt s0
 refine vs ?_
 refine aT.intro (fun m env H'=>ah H H'∧ag (fun z=>H.size+1≤z∧z<bl∨H2.size≤z) H2 H'∧H'.own H.size=some [i64 n,.slice a es.length c]∧∃ (j:Nat) (w:Value) (b:Nat),m=L.length - j∧j≤L.length∧H.size+1≤b∧(b<bl∨H2.size≤b)∧Sl H' 1 w (bO (fE es) (L.take j)).length ((bO (fE es) (L.take j)).map i64) (some b)∧
  env=[(1,ptr H.size),(3,w),(9,.slice la L.length lc),(10,i64 L.length),(11,i64 j)]) L.length ⟨f01.trans f2,ag.refl _ _,b2,0,_,H.size+1,by omega,by omega,by omega,.inl (by omega),s2,rfl⟩ ?_
 clear s0 b1 fo b0 f0 s2
 rintro m env H3 ⟨f3,e3,b3,j,w,b,hm,hj,hb,Ux,s3,rfl⟩
 have Ld:=az b3
 have h3:=h.fresh f3
 have ak6:bl<H2.size:=Sl.lt sL
 have rL3:=(sL.ext e3 (fun x hx h=>by injection hx with hx;omega)).rd
 obtain⟨g1,g2,g3⟩:=tZ (e:=fE es) (L.take j)
 have gin:∀i∈bO (fE es) (L.take j),Km es i:=fun i hi=>ja.1 (qN.mem_iff.1 (List.mem_of_mem_take (g2 i hi)))
 have da:(bO (fE es) (L.take j)).length≤65536:=by
  have:=My (e:=fE es) (L.take j)
  rw[anR]at this
  omega
 refine vs ?_
 refine ak.dec (fun aK=>?_) (fun aK=>?_)<;>refine vs ?_
 rotate_left
 ·have fF:j=L.length:=by omega
  subst fF
  rw[anJ]at s3
  exact⟨f3,L,b,qN,R9,by omega,s3⟩
 obtain⟨x,hx⟩:∃x,L[j]? =some x:=⟨_,am8 (by omega)⟩
 have QJ:Km es x:=ja.1 (qN.mem_iff.1 (ang hx))
 obtain⟨ix,ex,rfl,hex,aaJ⟩:=QJ.get
 obtain⟨_,bx,ox,lx,rfl,WL,eU⟩:=cI.num rL3 hx
 obtain⟨wa,wc,rfl,_⟩:=cE s3
 refine⟨⟨by omega,by omega⟩,?_⟩
 refine v5 WL Int.toNat_natCast ane eU (ae b3) ?_
 refine(fS h3 s3.rd hr gin (by omega)).mono ?_
 rintro u H4 ⟨f4,bp,hbp,s4⟩
 have b4:=f4.own b3 (fun h=>h)
 obtain⟨ef0,ef1,et0,et1⟩:=hr.ends ex (ang hex)
 obtain⟨pa,pc,rfl,_⟩:=cE s4
 obtain⟨_,rfl,lp,yF,AD⟩:=Sl.num s4 (it ((bO (fE es) (L.take j)).map (fE es)) (v:=ex.f.toNat) (by omega))
 obtain⟨_,_,lp',Tq,o8⟩:=Sl.num s4 (it ((bO (fE es) (L.take j)).map (fE es)) (v:=ex.t.toNat) (by omega))
 rw[yF]at Tq
 injection Tq with Tq
 subst Tq
 obtain⟨_,be,oe,le,rfl,zQ,aaK,NG,hd0,NU,iA⟩:=cI.nF (h3.fresh f4) hex
 refine v1 (ae b4) ?_
 refine⟨⟨by omega,by omega⟩,?_⟩
 refine v4 zQ Int.toNat_natCast Nat.add_zero hd0 ?_
 refine⟨⟨by omega,by omega⟩,?_⟩
 refine v5 (ae yF) ane am9 AD (ae b4) ?_
 refine⟨⟨by omega,by omega⟩,?_⟩
 refine v3 zQ Int.toNat_natCast NU ?_
 refine⟨⟨by omega,by omega⟩,?_⟩
 refine v4 (ae yF) ane am9 o8 ?_
 have Kq:bO (fE es) (L.take (j+1))=if bA ((bO (fE es) (L.take j)).map (fE es)) ex.f.toNat ex.t.toNat then bO (fE es) (L.take j)else bO (fE es) (L.take j)++[(ix:Int)]:=by
  have:L.take (j+1)=L.take j++[(ix:Int)]:=by rw[anN,hx];rfl
  rw[this,mR,Ab hex]
 have Yp:=wrap64 (n:=(j:Int)+1) (by omega) (by omega)
 have e4:ag (fun z=>H.size+1≤z∧z<bl∨H2.size≤z) H2 H4:=e3.trans (f4.mono fun _ _ h=>h.elim)
 have s34:=s3.ext f4 (fun _ _ h=>h)
 refine ak.dec (fun hq=>?_) (fun hq=>?_)<;>refine vs ?_
 ·have hh:bA ((bO (fE es) (L.take j)).map (fE es)) ex.f.toNat ex.t.toNat:=by show aB _ _=aB _ _;omega
  rw[if_pos hh]at Kq
  rw[Yp]
  exact⟨L.length - (j+1),by omega,f3.trans f4,e4,b4,j+1,_,b,rfl,by omega,hb,Ux,by rw[Kq];exact s34,rfl⟩
 ·have hh:¬bA ((bO (fE es) (L.take j)).map (fE es)) ex.f.toNat ex.t.toNat:=fun h=>hq (by have:aB ((bO (fE es) (L.take j)).map (fE es)) ex.f.toNat=aB ((bO (fE es) (L.take j)).map (fE es)) ex.t.toNat:=h;rw[this])
  rw[if_neg hh]at Kq
  have fl:ah H4 (H4.new 3 [i64 ix]):=(ag.refl _ _).new _ _
  refine Sl.append (s34.ext fl (fun _ _ h=>h)) (Sl.bP (size:=1) (n:=1) (xs:=[i64 ix]) rfl rfl).rd rfl (qa [(ix:Int)]) (by omega) ?_
  intro w' H5 cJ s5 e5 gU
  have ak9:H3.size≤H4.size:=f4.size
  have ala:H2.size≤H3.size:=e3.size
  have alb:=fl.size
  obtain⟨b',rfl,jz,afS⟩:∃b',cJ=some b'∧H.size+1≤b'∧(b'<bl∨H2.size≤b'):=by
   rcases gU with h| ⟨b',h,h1,h2⟩
   ·exact⟨b,h,hb,Ux⟩
   ·rw[am]at h1
    exact⟨b',h,by omega,.inr (by omega)⟩
  refine vs ?_
  rw[Yp]
  exact⟨L.length - (j+1),by omega,(f3.trans (f4.trans fl)).then e5 (fun z (hz:some b=some z)=>by injection hz with hz;omega),(e4.trans (fl.mono fun _ _ h=>h.elim)).me e5 (fun z _ (hz:some b=some z)=>by injection hz with hz;omega),(e5.own (fl.own b4 (fun h=>h)) (fun(hz:some b=some _)=>by injection hz with hz;omega)),j+1,w',b',rfl,by omega,jz,afS,by rw[Kq,ank,anH];exact s5,rfl⟩
theorem mX{H:Hp}{n:Int}{a a':Option Addr}{c c':Nat}{es:List Ed}{ks:List Int}(h:cI H 3 (.slice a es.length c) es.length (dM es))(h':cI H 1 (.slice a' ks.length c') ks.length (ks.map i64))
  (hk:∀i∈ks,Km es i)(hl:ks.length≤1000000)(hw:∀e∈es, -9223372036854775808≤e.w∧e.w≤9223372036854775807)(T7:es.length≤1000000000):
  af Tryz.prog DQ [yg n (.slice a es.length c),.slice a' ks.length c'] H fun v H'=>ar (v=GP (IL (ks.map (wE es)).sum)∧ah H H'):=by
 refine aP DW ?_
 have f0:ah H (H.new 52 [i64 n,.slice a es.length c]):=(ag.refl _ _).new _ _
 have b0:=ax H 52 [i64 n,.slice a es.length c]
 have Cp:(H.new 52 [i64 n,.slice a es.length c]).size=H.size+1:=by rw[am]
 simp(disch:=(first|omega| (simp only[Zs]<;>omega)|fail)) only[go_sem, ↓reduceIte,Zv,yg]
 generalize H.new 52 [i64 n,.slice a es.length c]=H0 at*
 have fr:ah H0 (H0.new 39 [i64 0,u64 0]):=(ag.refl _ _).new _ _
 have r1:(H0.new 39 [i64 0,u64 0]).own (H.size+1)=some [i64 0,u64 0]:=aQ Cp.symm
 have J7:(H0.new 39 [i64 0,u64 0]).size=H.size+2:=by rw[am,Cp]
 have b1:=fr.own b0 (fun h=>h)
 generalize H0.new 39 [i64 0,u64 0]=H1 at*
 have fo:ah H1 (H1.new 2 []):=(ag.refl _ _).new _ _
 have s0:Sl (H1.new 2 []) 1 (.slice (some ⟨H.size+2,0,none⟩) 0 0) ([]:List Int).length (([]:List Int).map i64) (some (H.size+2)):=Sl.bP (size:=1) (n:=0) (xs:=[]) rfl J7.symm
 have b2:=fo.own b1 (fun h=>h)
 have r2:=fo.own r1 (fun h=>h)
 generalize H1.new 2 []=H2 at*
 have f02:=f0.trans (fr.trans fo)
 refine aT.intro (fun m env H'=>ah H H'∧H'.own H.size=some [i64 n,.slice a es.length c]∧H'.own (H.size+1)=some [i64 0,u64 0]∧∃ (j:Nat) (w:Value) (b:Nat),m=ks.length - j∧j≤ks.length∧H.size+2≤b∧Sl H' 1 w ((ks.take j).map (wE es)).length (((ks.take j).map (wE es)).map i64) (some b)∧
  env=[(2,ptr H.size),(4,ptr (H.size+1)),(5,w),(9,.slice a' ks.length c'),(10,i64 ks.length),(11,i64 j)]) ks.length ⟨f02,b2,r2,0,_,H.size+2,by omega,by omega,by omega,s0,rfl⟩ ?_
 clear s0 b1 fo b0 f0 b2 r2 r1
 rintro m env H3 ⟨f3,b3,r3,j,w,b,hm,hj,hb,s3,rfl⟩
 have Ld:=az r3
 have h3:=h.fresh f3
 have Lg:=h'.fresh f3
 refine vs ?_
 refine ak.dec (fun aK=>?_) (fun aK=>?_)<;>refine vs ?_
 ·obtain⟨x,hx⟩:∃x,ks[j]? =some x:=⟨_,am8 (by omega)⟩
  obtain⟨ix,ex,rfl,hex,aaJ⟩:=(hk x (ang hx)).get
  obtain⟨_,bx,ox,lx,rfl,WL,eU⟩:=cI.num Lg hx
  obtain⟨_,be,oe,le,rfl,zQ,aaK,NG,hd0,NU,iA⟩:=cI.nF h3 hex
  refine⟨⟨by omega,by omega⟩,?_⟩
  refine v5 WL Int.toNat_natCast ane eU (ae b3) ?_
  refine⟨⟨by omega,by omega⟩,?_⟩
  refine v3 zQ Int.toNat_natCast iA ?_
  have Kq:(ks.take (j+1)).map (wE es)=(ks.take j).map (wE es)++[ex.w]:=by rw[anN,hx,anH];simp[tD hex]
  refine G7 (B:=H.size+2) hb (by omega) s3 _ (by simp;omega) ?_
  intro w' H' b' jz s' e'
  rw[←Kq]at s'
  refine vs ?_
  rw[wrap64 (n:=(j:Int)+1) (by omega) (by omega)]
  exact⟨ks.length - (j+1),by omega,f3.then e' (fun z hz=>by omega),e'.own b3 (fun h=>by omega),e'.own r3 (fun h=>by omega),j+1,w',b',rfl,by omega,jz,s',rfl⟩
 ·have fF:j=ks.length:=by omega
  subst fF
  rw[anJ]at s3
  obtain⟨wa,wc,rfl,_⟩:=cE s3
  have Rj:∀x∈ks.map (wE es), -9223372036854775808≤x∧x≤9223372036854775807:=fun x hx=>by
   obtain⟨i,hi,rfl⟩:=anv.1 hx
   obtain⟨ik,e,rfl,he,_⟩:=(hk i hi).get
   rw[tD he]
   exact hw e (ang he)
  refine(B3 s3.rd (by simp;omega) Rj).mono ?_
  rintro _ H4 ⟨rfl,f4⟩
  rw[Rh Rj (by simp;omega)]
  have r4:=f4.own r3 (fun h=>h)
  have r5:=ai (l:=[i64 (IL (ks.map (wE es)).sum).1,u64 (IL (ks.map (wE es)).sum).2]) r4
  simp(disch:=(first|omega| (simp only[Zs]<;>omega)|fail)) only[go_sem, ↓reduceIte,Zv,GP,r4,ae r5]
  exact⟨rfl,(f3.trans f4).then ((ag.refl (fun z=>z=H.size+1) _).wr (fun _=>rfl) _) (fun z hz=>by omega)⟩
theorem Rk(s t:Int×Nat):cd .eql (.s [(0,(none,.int)),(1,(none,.int))]) (GP s) (GP t)=some (.bool (decide (s=t))):=by
 obtain⟨a,b⟩:=s
 obtain⟨c,d⟩:=t
 have h:vP [(0,(none,.int)),(1,(none,.int))] [i64 a,u64 (b:Int)] [i64 c,u64 (d:Int)]=some (decide ((a,b)=(c,d))):=by
  by_cases h1:a=c
  ·by_cases h2:b=d
   ·simp[vP,dR,mO,bc,h1,h2]
   ·have:¬ ((b:Int)=(d:Int)):=by omega
    simp[vP,dR,mO,bc,h1,h2,this]
  ·simp[vP,dR,mO,bc,h1]
 show(mO _ _ _).map _=_
 simp only[GP,mO]
 rw[h]
 rfl
theorem wf_i64{x:Int}(h:(Lit.int .i64 x).wf=true): -9223372036854775808≤x∧x≤9223372036854775807:=by
 have e1:IntKind.i64.min= -9223372036854775808:=rfl
 have e2:IntKind.i64.max=9223372036854775807:=rfl
 simp only[Lit.wf,e1,e2,an4,anF]at h
 omega
def aaP(e:Ed):Prop:=(-9223372036854775808≤e.f∧e.f≤9223372036854775807)∧(-9223372036854775808≤e.t∧e.t≤9223372036854775807)∧(-9223372036854775808≤e.w∧e.w≤9223372036854775807)
theorem Rm:∀ {rows:List (List Value)},(∀r∈rows,mj LH [.i .i64,.i .i64,.i .i64] r)→∃es:List Ed,rows.flatten=dM es∧es.length=rows.length∧∀e∈es,aaP e:=by
 intro rows
 induction rows with
 |nil=>intro _;exact⟨[],rfl,rfl,fun x hx=>by cases hx⟩
 |cons r rows ih=>
  intro h
  obtain⟨es,e1,e2,e3⟩:=ih fun q hq=>h q (anK _ hq)
  obtain⟨_,_,rfl,⟨a,rfl,ha⟩,_,_,rfl,⟨b,rfl,hb⟩,_,_,rfl,⟨c,rfl,hc⟩,rfl⟩:=h r anZ
  refine⟨⟨a,b,c⟩::es,?_,by simp[e2],fun x hx=>?_⟩
  ·rw[an9,e1,qm];rfl
  ·rcases anm.1 hx with rfl|hx
   ·exact⟨wf_i64 ha,wf_i64 hb,wf_i64 hc⟩
   ·exact e3 x hx
theorem Mz{H:Hp}{v:Value}(h:Gf H (true,[.k (.i .i64),.sl [.i .i64,.i .i64,.i .i64]]) v):∃ (n:Int) (es:List Ed) (a:Option Addr) (c:Nat),v=yg n (.slice a es.length c)∧
  cI H 3 (.slice a es.length c) es.length (dM es)∧es.length≤c∧es.length≤maxLen∧(-9223372036854775808≤n∧n≤9223372036854775807)∧∀e∈es,aaP e:=by
 obtain⟨cs,rfl,_,_,rfl,⟨n,rfl,hn⟩,_,_,rfl,⟨rows,hr,Ck,WM,a,c,rfl,RR⟩,rfl⟩:=h
 obtain⟨es,e1,e2,e3⟩:=Rm Ck
 rw[e1,←e2]at hr
 rw[←e2]at RR WM ⊢
 exact⟨n,es,a,c,rfl,hr,RR,WM,wf_i64 hn,e3⟩
theorem MA{H:Hp}{v:Value}(h:Gf H (true,[.k (.i .i64),.k (.i .i64)]) v):∃x y:Int,v= .agg #[i64 x,i64 y]:=by
 obtain⟨cs,rfl,_,_,rfl,⟨x,rfl,hx⟩,_,_,rfl,⟨y,rfl,hy⟩,rfl⟩:=h
 exact⟨x,y,rfl⟩
end Go.Proofs.YtjlnnljohemifaaGreat
