/- Texts put behind each other. -/
import Derived.Test.YtnanofhkpglbaaaGreatDoorK34
set_option linter.unusedSimpArgs false
set_option linter.unusedVariables false
set_option maxRecDepth 100000
set_option maxHeartbeats 80000000
namespace Go.Proofs.YtnanofhkpglbaaaGreatDoor
open Go Go.Vc
theorem wF{H:Hp}{z:Nat}{a:Option Addr}{c:Nat}{xs:List Int}(n:H.own z=some [.slice a xs.length c])(h:bD H 1 (.slice a xs.length c) xs.length (xs.map i64))(hm:xs.length<=1000000)(x:Int):
  aD 417 [i64 x,ptr z] H fun v J=>ak (v= .bool (decide (x∈xs))/\J=H):=by
 refine tu mixed (an:=oZ) (CH (by conv=>lhs;cbv) Y) (nt:=7) Y (by simp) ?_;refine v1 (ae n) ?_;refine(sC h x O).mono ?_;rintro _ J ⟨rfl,e⟩;obtain rfl:=e.symm;refine vs ?_;exact⟨rfl,rfl⟩
section
variable {H J : Hp} {ro ro' : Nat → Rl} {nn fb tb c : Nat} {C : Nat → Prop} {w : Nw} {l : List Value} {V : Int → Value} {ch : Int → List Int} {au : Int → Int} {kb : Int → Option Nat} {va vb : Value} {a b W0 : List Int} {lt : Int → Int → Bool} {rows : Int → List Int} {g : Int}
def Uw(e:Env)(fb nn x:Nat)(va z h:Value)(k:Nat):Prop:=
 e.find 0=some (ptr fb)/\e.find 1=some (.iface 169 (ptr nn))/\e.find 2=some va/\e.find 7=some (ptr x)/\e.find 10=some z/\e.find 11=some h/\e.find 12=some (i64 k)
theorem HP{P:Program}{A B:S}{env:Env}{H:Hp}{z:Env->Hp->Prop}{x:Nat->Env->Hp->Prop}{Kr:Env->Hp->Prop}(I:Env->Hp->Prop)(h:vc P A env H I x Kr)(k:∀e h,I e h->vc P B e h z x Kr):vc P (.seq A B) env H z x Kr:=
 AQ A env H _ _ _ _ _ _ k (fun _ _ _ h=>h) (fun _ _ h=>h) h
theorem ni.acE(h:ni H ro nn fb tb c C w J ro' l V ch au kb va vb a b):ni H ro nn fb tb c C w J ro' l V ch au kb (.slice none 0 0) (.slice none 0 0) [] []:=
 ⟨h.m,h.cq,h.hC,h.own,h.hn,h.hz,h.rk,⟨none,0,rfl,alj _,.inl rfl⟩,⟨none,0,rfl,alj _,.inl rfl⟩,h.e⟩
theorem ni.acF{z:Value}{x:List Int}(h:ni H ro nn fb tb c C w J ro' l V ch au kb va vb a b)(r:BK J ro' H.size z x):ni H ro nn fb tb c C w J ro' l V ch au kb z vb x b:=
 ⟨h.m,h.cq,h.hC,h.own,h.hn,h.hz,h.rk,r,h.rb,h.e⟩
theorem ni.PH{x:Value}{b':List Int}(h:ni H ro nn fb tb c C w J ro' l V ch au kb va vb a b)(r:BK J ro' H.size x b'):ni H ro nn fb tb c C w J ro' l V ch au kb va x a b':=
 ⟨h.m,h.cq,h.hC,h.own,h.hn,h.hz,h.rk,h.ra,r,h.e⟩
theorem ni.Aj{n:Hp}{p:Value}{out:List Int}{e t m:Option Nat}(h:ni H ro nn fb tb c C w J ro' l V ch au kb va vb a b)(j:J.own H.size=some [vb])(f:Sl J 1 p out.length (out.map i64) m)
  (P:∀z,e=some z\/m=some z->H.size<z/\z<J.size/\ro' z= .no)(A:∀z,e=some z->m=some z->False)(v:aj (fun z=>e=some z) J n)(o:t=e\/∃z,t=some z/\J.size<=z/\z<n.size):
  ni H ro nn fb tb c C w n ro' l V ch au kb va vb a b/\n.own H.size=some [vb]/\Sl n 1 p out.length (out.map i64) m/\(∀z,t=some z\/m=some z->H.size<z/\z<n.size/\ro' z= .no)/\(∀z,t=some z->m=some z->False):=by
 have u:=aB j;have K:=v.size;refine⟨h.RO v Z,v.own j Z,f.ext v Z,fun z x=>?_,fun z r d=>?_⟩
 ·rcases x with x|x
  ·rcases o with r| ⟨y,r,d,q⟩
   ·grind
   ·rw[r]at x;injection x with x;subst x;exact⟨O,q,h.hz _ d⟩
  grind
 grind
def PI(x:Hp)(t:Nat->Rl)(nn fb tb c:Nat)(C:Nat->Prop)(w:Nw)(lt:Int->Int->Bool)(rows:Int->List Int)(W0:List Int)(g:Int)(m:Int->List Int)(k v e io:Nat)(y:Nat->Prop)(H:Hp)(va vb r j:Value):Prop:=
 ∃ (a b now out:List Int) (n h:Option Nat) (ro:Nat->Rl) (l:List Value) (V:Int->Value) (ch:Int->List Int) (au:Int->Int) (kb:Int->Option Nat),
  ni x t nn fb tb c C w H ro l V ch au kb va vb a b/\gX (aH w) lt ch au rows (now++(a++(b++(out++W0))))/\lu (aH w) ch g k v e io a b now out/\y now.length/\
  H.own x.size=some [vb]/\ro x.size= .no/\FA H r now n/\Sl H 1 j out.length (out.map i64) h/\(∀z,n=some z\/h=some z->x.size<z/\z<H.size/\ro z= .no)/\(∀z,n=some z->h=some z->False)/\(∀z∈W0,ch z=m z)
theorem Ak(h0:ni H ro nn fb tb c C w H ro l V ch au kb va vb a b)(iD:∀a b,aU w a b=true->lt a b=true)(f0:gX (aH w) lt ch au rows (a++(b++W0)))(Yo:B8 ch a)(S0:B8 ch b)(hg:∀c,c∈a\/c∈b->aH w c=g):
  aD 412 [ptr fb,.iface 169 (ptr nn),va,vb] H fun v J=>ak (∃out ro' l' V' jD dh wV vo N,v= .tuple [vo,.bool true].toArray/\ni H ro nn fb tb c C w J ro' l' V' jD dh wV (.slice none 0 0) (.slice none 0 0) [] []/\
   Sl J 1 vo out.length (out.map i64) N/\(∀z,N=some z->H.size<=z/\ro' z= .no)/\gX (aH w) lt jD dh rows (out++W0)/\B8 jD out/\(∀c∈out,aH w c=g)/\∀z∈W0,jD z=ch z):=by
 have uv:=h0.cq.yY;obtain⟨aa,ca,rfl,hca⟩:=h0.ra.cap;obtain⟨ab,cb,rfl,V8⟩:=h0.rb.cap;obtain⟨n1,n2,n3⟩:=alK.1 f0.wn;have mj:∀x∈a++(b++W0),(0<=x/\x<w.cs.length)/\au x= -1:=fun x hx=>⟨f0.win (hm:=aH w) hx,(f0.wm x hx).1⟩;have Pn:=ck n1 fun c hc=>(mj c Z).1;have Fe:=ck (alK.1 n2).1 fun c hc=>(mj c Z).1;refine aL rU ?_;refine vs ?_;have e1:aj (fun z=>H.size<=z) H (H.new 161 [.slice ab b.length cb]):=(bm:af H _).mono fun _ _ h=>h.elim;have bx1:(H.new 161 [.slice ab b.length cb]).own H.size=some [.slice ab b.length cb]:=am _ _ _;have z1:(H.new 161 [.slice ab b.length cb]).size=H.size+1:=ag _ _ _;have h1:=h0.RO e1 (fun z hz=>⟨hz,h0.hz z hz⟩);generalize H.new 161 [.slice ab b.length cb]=H1 at*;refine(sO h1.m h1.ra.rd Z Yo O).mono ?_;rintro _ J ⟨rfl,e⟩;obtain rfl:=e.symm;refine v1 (ae bx1) ?_;refine(sO h1.m h1.rb.rd Z S0 O).mono ?_;rintro _ J ⟨rfl,e⟩;obtain rfl:=e.symm;refine vs ?_;refine(wE (H:=H1) 417 [ptr H.size] (fun x=>decide (x∈b)) (fun J=>J=H1) rfl (fun J hI=>by rw[hI];exact h1.ra.rd) (by rfl) (fun J x hx hI=>?_) O).mono ?_
 ·rw[hI];exact wF bx1 h1.rb.rd O x
 rintro _ J ⟨rfl,e⟩;obtain rfl:=e.symm;have Yp:(a.any fun x=>decide (x∈b))=false:=Z;rw[Yp];refine vs ?_;have i0:lu (aH w) ch g 0 0 0 0 a b [] []:=⟨Yo,S0,List.Pairwise.nil,O,O,by simp,by simp,Z⟩;have d0:∀z,((none:Option Nat)=some z\/(none:Option Nat)=some z)->H.size<z/\z<H1.size/\ro z= .no:=Z;have d00:∀z,(none:Option Nat)=some z->(none:Option Nat)=some z->False:=Z;have cz0:PI H ro nn fb tb c C w lt rows W0 g ch 0 0 0 0 (fun n=>n<=1) H1 (.slice aa a.length ca) (.slice ab b.length cb) (.slice none 0 0) (.slice none 0 0):=
  ⟨a,b,[],[],none,none,ro,l,V,ch,au,kb,h1,f0,i0,Nat.zero_le _,bx1,h0.hz _ (alj _),FA.nil _ _,Sl.nil _ _,d0,d00,fun _ _=>rfl⟩
 refine ba.intro (fun mm env J=>∃ (k:Nat) (va vb vn vo:Value),mm=w.cs.length+1 - k/\PI H ro nn fb tb c C w lt rows W0 g ch k k k k (fun n=>n<=1) J va vb vn vo/\
  env=[(0,ptr fb),(1,.iface 169 (ptr nn)),(2,va),(7,ptr H.size),(10,vo),(11,vn),(12,i64 k)]) _ ⟨0,_,_,_,_,rfl,cz0,rfl⟩ ?_
 clear h1 i0 bx1 f0 Yo S0 hg mj n1 n2 n3 Pn Fe Yp h0 e1 d0 d00 cz0 hca V8;rintro mm env H2 ⟨k,va,vb,vn,vo,rfl,QN,rfl⟩;obtain⟨a,b,now,out,nb,N,E,l2,V2,BH,gG,EG,m,f2,d,ND,t,X,A,F,y5,qT,Gv⟩:=id QN;obtain⟨aa,ca,rfl,hca⟩:=m.ra.cap;obtain⟨ab,cb,rfl,V8⟩:=m.rb.cap;obtain⟨an,cn,rfl,PD⟩:=A.cap;obtain⟨ao,co,rfl⟩:=Sl.shape F;have Lu:=aB t;have dZ:=f2.wn;have PJ:=ck dZ fun c hc=>f2.win (hm:=aH w) hc;simp only[alm]at PJ;refine v1 (ae t) ?_;rw[wrap64 (n:=(a.length:Int)+b.length) O O,wrap64 (n:=(a.length:Int)+b.length+now.length) O O];refine ai.dec (fun hgo=>?_) (fun hgo=>?_);rotate_left
 ·refine vs ?_;have SM:a=[]:=alI.1 O;have N9:b=[]:=Z;have SG:now=[]:=Z;subst SM N9 SG;refine⟨out,E,l2,V2,BH,gG,EG,_,N,rfl,m.acE,F,Z,f2,d.ro,fun c hc=>d.hg c Z,Gv⟩
 have ec:∀z,(BH z).length<=w.cs.length:=fun z=>ck (f2.pr.nd z) fun c hc=>m.m.EE z c hc;have hk:k<=w.cs.length:=by
  by_cases SM:a=[]
  ·by_cases N9:b=[]
   ·obtain⟨x,hx⟩:∃x,x∈now:=by
     cases now with
     |nil=>grind
     |cons x r=>grind
    have:=d.kn x hx;grind
   ·obtain⟨x,r,rfl⟩:=al5 N9;have:=d.kb x (by simp);grind
  ·obtain⟨x,r,rfl⟩:=al5 SM;have:=d.ka x (by simp);grind
 clear hgo ec PJ dZ;rw[PK,Ra,TD,TE];refine HP (fun e h=>∃va vb vn vo,PI H ro nn fb tb c C w lt rows W0 g ch k (k+1) k k (fun n=>n<=2) h va vb vn vo/\Uw e fb nn H.size va vo vn k) ?_ ?_
 ·refine vs ?_;refine ai.dec (fun ga=>?_) (fun ga=>?_)
  ·obtain⟨x,r,rfl⟩:∃x r,a=x::r:=al5 Z;obtain⟨pb,po,pl,pc,hv,o,hpb,P,Yg⟩:=m.ra.head;injection hv with K Q hv3;subst K hv3;refine vs ?_;refine⟨O,?_⟩;refine v5 o P Int.toNat_zero aly Nat.add_zero ?_;refine(dD m.m x).mono ?_;rintro _ J ⟨rfl,e⟩;obtain rfl:=e.symm;refine vs ?_;refine ai.dec (fun gd=>?_) (fun gd=>?_)
   ·refine vs ?_;refine⟨O,?_⟩;refine v5 o P Int.toNat_zero aly Nat.add_zero ?_;refine A.push x O fun w' j PL On NE u=>?_;obtain⟨h3,f,Lv,Pj,Al⟩:=m.Aj t F y5 qT u On;refine vs ?_;have Kl:(x::r).length=r.length+1:=alk;refine⟨O,?_⟩;refine vs ?_;have fp:now++(x::r++(b++(out++W0)))=now++[x]++(r++(b++(out++W0))):=by simp
    rw[fp]at f2;exact⟨_,_,_,_,⟨r,b,now++[x],out,PL,N,E,l2,V2,BH,gG,EG,h3.acF (h3.ra.tail _),f2,d.Xa O,Z,f,X,NE,Lv,Pj,Al,Gv⟩,rfl,rfl,rfl,rfl,rfl,rfl,rfl⟩
   ·refine vs ?_;exact⟨_,_,_,_,⟨x::r,b,now,out,nb,N,E,l2,V2,BH,gG,EG,m,f2,d.SE Z,O,t,X,A,F,y5,qT,Gv⟩,rfl,rfl,rfl,rfl,rfl,rfl,rfl⟩
  ·refine vs ?_;have SM:a=[]:=alI.1 O;exact⟨_,_,_,_,⟨a,b,now,out,nb,N,E,l2,V2,BH,gG,EG,m,f2,d.SE Z,O,t,X,A,F,y5,qT,Gv⟩,rfl,rfl,rfl,rfl,rfl,rfl,rfl⟩
 clear QN m f2 d ND t X A F y5 qT Gv Lu hca V8 PD;rintro e2 H2 ⟨va,vb,vn,vo,QN,hv⟩;obtain⟨a,b,now,out,nb,N,E,l2,V2,BH,gG,EG,m,f2,d,ND,t,X,A,F,y5,qT,Gv⟩:=id QN;obtain⟨ab,cb,rfl,V8⟩:=m.rb.cap;obtain⟨an,cn,rfl,PD⟩:=A.cap;have Lu:=aB t;obtain⟨U,K,Q,M,I,G,D⟩:=hv;refine HP (fun e h=>∃va vb vn vo,PI H ro nn fb tb c C w lt rows W0 g ch k (k+1) (k+1) k (fun n=>n<=3) h va vb vn vo/\Uw e fb nn H.size va vo vn k) ?_ ?_
 ·refine v8 U K Q M I G D (ae t) ?_;refine ai.dec (fun gb=>?_) (fun gb=>?_)
  ·obtain⟨x,r,rfl⟩:∃x r,b=x::r:=al5 Z;obtain⟨pb,po,pl,pc,hv,o,hpb,P,Yg⟩:=m.rb.head;injection hv with PM Yq PN;subst PM PN;refine v8 U K Q M I G D (ae t) ?_;refine⟨O,?_⟩;refine v12 o P Int.toNat_zero aly Nat.add_zero U K Q M I G D ?_;refine(dD m.m x).mono ?_;rintro _ J ⟨rfl,e⟩;obtain rfl:=e.symm;refine v7 U K Q M I G D ?_;have Kl:(x::r).length=r.length+1:=alk;have fp:(now++(a++(x::r++(out++W0)))).Perm (now++[x]++(a++(r++(out++W0)))):=by
    rw[List.perm_iff_count];intro z;simp only[amR,List.count_cons,alX,List.count_nil];omega
   refine ai.dec (fun gd=>?_) (fun gd=>?_)
   ·refine vs ?_;replace f2:=f2.perm fp;refine di.intro (fun _=>True) trivial ?_;refine vs ?_;refine ry.intro ?_ ?_
    ·refine v6 (ae t) o P Int.toNat_zero aly Nat.add_zero ?_;refine⟨O,?_⟩;refine v6 (ae t) o P Int.toNat_zero aly Nat.add_zero ?_;refine ry.intro ?_ ?_
     ·refine v6 (ae t) o P Int.toNat_zero aly Nat.add_zero ?_;refine ry.intro ?_ ?_
      ·refine v6 (ae t) o P Int.toNat_zero aly Nat.add_zero ?_;refine ry.intro ?_ ?_
       ·refine vs ?_;refine A.push x O fun w' j PL On NE u=>?_;obtain⟨h3,f,Lv,Pj,Al⟩:=m.Aj t F y5 qT u On;refine v8 (ae f) f o P Int.toNat_zero aly Nat.add_zero ak7 ?_;refine⟨O,?_⟩;refine v8 (ae f) f o P Int.toNat_zero aly Nat.add_zero ak7 ?_;have e4:∀v,aj (fun z=>z=H.size) j (j.wr H.size [v]):=fun v=>(aj.refl (fun z=>z=H.size) _).wr (fun _=>rfl) _;have RP:∀v,(j.wr H.size [v]).own H.size=some [v]:=fun v=>ah f;have h4:=fun v=>h3.RO (e4 v) Z;exact⟨_,_,_,_,⟨a,r,now++[x],out,PL,N,E,l2,V2,BH,gG,EG,(h4 _).PH ((h4 _).rb.tail _),f2,d.Ir O,Z,RP _,X,NE.ext (e4 _) Z,Lv.ext (e4 _) Z,fun z hz=>by rw[bE];grind,Al,Gv⟩,rfl,rfl,rfl,rfl,rfl,rfl,rfl⟩
       ·refine v6 (ae t) o P Int.toNat_zero aly Nat.add_zero ?_;refine⟨O,?_⟩;refine v6 (ae t) o P Int.toNat_zero aly Nat.add_zero ?_;refine A.push x O fun w' j PL On NE u=>?_;obtain⟨h3,f,Lv,Pj,Al⟩:=m.Aj t F y5 qT u On;refine v8 (ae f) f o P Int.toNat_zero aly Nat.add_zero ak7 ?_;have e4:∀v,aj (fun z=>z=H.size) j (j.wr H.size [v]):=fun v=>(aj.refl (fun z=>z=H.size) _).wr (fun _=>rfl) _;have RP:∀v,(j.wr H.size [v]).own H.size=some [v]:=fun v=>ah f;have h4:=fun v=>h3.RO (e4 v) Z;exact⟨_,_,_,_,⟨a,r,now++[x],out,PL,N,E,l2,V2,BH,gG,EG,(h4 _).PH ((h4 _).rb.tail _),f2,d.Ir O,Z,RP _,X,NE.ext (e4 _) Z,Lv.ext (e4 _) Z,fun z hz=>by rw[bE];grind,Al,Gv⟩,rfl,rfl,rfl,rfl,rfl,rfl,rfl⟩
      ·refine v6 (ae t) o P Int.toNat_zero aly Nat.add_zero ?_;refine⟨O,?_⟩;refine v6 (ae t) o P Int.toNat_zero aly Nat.add_zero ?_;refine A.push x O fun w' j PL On NE u=>?_;obtain⟨h3,f,Lv,Pj,Al⟩:=m.Aj t F y5 qT u On;refine v8 (ae f) f o P Int.toNat_zero aly Nat.add_zero ak7 ?_;have e4:∀v,aj (fun z=>z=H.size) j (j.wr H.size [v]):=fun v=>(aj.refl (fun z=>z=H.size) _).wr (fun _=>rfl) _;have RP:∀v,(j.wr H.size [v]).own H.size=some [v]:=fun v=>ah f;have h4:=fun v=>h3.RO (e4 v) Z;exact⟨_,_,_,_,⟨a,r,now++[x],out,PL,N,E,l2,V2,BH,gG,EG,(h4 _).PH ((h4 _).rb.tail _),f2,d.Ir O,Z,RP _,X,NE.ext (e4 _) Z,Lv.ext (e4 _) Z,fun z hz=>by rw[bE];grind,Al,Gv⟩,rfl,rfl,rfl,rfl,rfl,rfl,rfl⟩
     ·refine v6 (ae t) o P Int.toNat_zero aly Nat.add_zero ?_;refine⟨O,?_⟩;refine v6 (ae t) o P Int.toNat_zero aly Nat.add_zero ?_;refine A.push x O fun w' j PL On NE u=>?_;obtain⟨h3,f,Lv,Pj,Al⟩:=m.Aj t F y5 qT u On;refine v8 (ae f) f o P Int.toNat_zero aly Nat.add_zero ak7 ?_;have e4:∀v,aj (fun z=>z=H.size) j (j.wr H.size [v]):=fun v=>(aj.refl (fun z=>z=H.size) _).wr (fun _=>rfl) _;have RP:∀v,(j.wr H.size [v]).own H.size=some [v]:=fun v=>ah f;have h4:=fun v=>h3.RO (e4 v) Z;exact⟨_,_,_,_,⟨a,r,now++[x],out,PL,N,E,l2,V2,BH,gG,EG,(h4 _).PH ((h4 _).rb.tail _),f2,d.Ir O,Z,RP _,X,NE.ext (e4 _) Z,Lv.ext (e4 _) Z,fun z hz=>by rw[bE];grind,Al,Gv⟩,rfl,rfl,rfl,rfl,rfl,rfl,rfl⟩
    ·refine v6 (ae t) o P Int.toNat_zero aly Nat.add_zero ?_;refine⟨O,?_⟩;refine v6 (ae t) o P Int.toNat_zero aly Nat.add_zero ?_;refine⟨O,?_⟩;refine v6 (ae t) o P Int.toNat_zero aly Nat.add_zero ?_;refine A.push x O fun w' j PL On NE u=>?_;obtain⟨h3,f,Lv,Pj,Al⟩:=m.Aj t F y5 qT u On;refine v8 (ae f) f o P Int.toNat_zero aly Nat.add_zero ak7 ?_;have e4:∀v,aj (fun z=>z=H.size) j (j.wr H.size [v]):=fun v=>(aj.refl (fun z=>z=H.size) _).wr (fun _=>rfl) _;have RP:∀v,(j.wr H.size [v]).own H.size=some [v]:=fun v=>ah f;have h4:=fun v=>h3.RO (e4 v) Z;exact⟨_,_,_,_,⟨a,r,now++[x],out,PL,N,E,l2,V2,BH,gG,EG,(h4 _).PH ((h4 _).rb.tail _),f2,d.Ir O,Z,RP _,X,NE.ext (e4 _) Z,Lv.ext (e4 _) Z,fun z hz=>by rw[bE];grind,Al,Gv⟩,rfl,rfl,rfl,rfl,rfl,rfl,rfl⟩
   ·refine vs ?_;exact⟨_,_,_,_,⟨a,x::r,now,out,nb,N,E,l2,V2,BH,gG,EG,m,f2,d.SF Z,O,t,X,A,F,y5,qT,Gv⟩,rfl,rfl,rfl,rfl,rfl,rfl,rfl⟩
  ·refine v7 U K Q M I G D ?_;have N9:b=[]:=alI.1 O;exact⟨_,_,_,_,⟨a,b,now,out,nb,N,E,l2,V2,BH,gG,EG,m,f2,d.SF Z,O,t,X,A,F,y5,qT,Gv⟩,rfl,rfl,rfl,rfl,rfl,rfl,rfl⟩
 clear QN m f2 d ND t X A F y5 qT Gv Lu V8 PD U K Q M I G D;rintro u H2 ⟨va,vb,vn,vo,QN,hv⟩;obtain⟨a,b,now,out,nb,N,E,l2,V2,BH,gG,EG,m,f2,d,ND,t,X,A,F,y5,qT,Gv⟩:=id QN;obtain⟨an,cn,rfl,PD⟩:=A.cap;obtain⟨ao,co,rfl⟩:=Sl.shape F;have Lu:=aB t;have PJ:=ck f2.wn fun c hc=>f2.win (hm:=aH w) hc;simp only[alm]at PJ;obtain⟨U,K,Q,M,I,G,D⟩:=hv;refine HP (fun e h=>∃va vb vn vo,PI H ro nn fb tb c C w lt rows W0 g ch k (k+1) (k+1) (k+1) (fun n=>n=0\/n=2) h va vb vn vo/\Uw e fb nn H.size va vo vn k) ?_ ?_
 ·refine v8 U K Q M I G D (ae t) ?_;rw[if_neg (by decide:¬ (2:Int)=0),amt O];refine v7 U K Q M I G D ?_;refine ai.dec (fun gp=>?_) (fun gp=>?_)
  ·obtain⟨x,r,rfl⟩:∃x r,now=x::r:=al5 Z;have Kl:(x::r).length=r.length+1:=alk;obtain⟨a',c',hv',F3,Xe⟩:=id A;injection hv' with PM Yq PN;subst PM PN;obtain⟨pb,po,pl,rfl,Yk,Ux,hpl,hpt⟩:=Xe.resolve_left O;have P:pl[po]? =some (i64 x):=by
    have h7:((x::r).map i64)[0]? =some (i64 x):=rfl;rw[<-hpt,amb,if_pos (by simp),alU]at h7;exact h7
   have o:=ae Ux;refine v7 U K Q M I G D ?_;refine⟨O,?_⟩;refine v5 o P Int.toNat_zero aly Nat.add_zero ?_;refine Pa F x O fun w' j T1 XM Lv u=>?_;have h3:=m.RO u Z;have f:=u.own t Z;have NE:=A.ext u O;have Mq:=u.size;refine v7 U K Q M I G D ?_;refine⟨O,?_⟩;refine v7 U K Q M I G D ?_;have fp:(x::r++(a++(b++(out++W0)))).Perm (r++(a++(b++(out++[x]++W0)))):=by
    rw[List.perm_iff_count];intro z;simp only[amR,List.count_cons,alX,List.count_nil];omega
   have Pj:∀z,nb=some z\/T1=some z->H.size<z/\z<j.size/\E z= .no:=fun z hz=>by
    cases m;grind
   have Al:∀z,nb=some z->T1=some z->False:=Z;exact⟨_,_,_,_,⟨a,b,r,out++[x],nb,T1,E,l2,V2,BH,gG,EG,h3,f2.perm fp,d.abh,O,f,X,NE.tail _,Lv,Pj,Al,Gv⟩,rfl,rfl,rfl,rfl,rfl,rfl,rfl⟩
  ·refine v7 U K Q M I G D ?_;exact⟨_,_,_,_,⟨a,b,now,out,nb,N,E,l2,V2,BH,gG,EG,m,f2,⟨d.ra,d.rb,d.ro,d.ka,d.kb,d.kn,fun c hc=>by have:=d.ko c hc;omega,d.hg⟩,O,t,X,A,F,y5,qT,Gv⟩,rfl,rfl,rfl,rfl,rfl,rfl,rfl⟩
 clear QN m f2 d ND t X A F y5 qT Gv Lu PD U K Q M I G D PJ;rintro e4 H2 ⟨va,vb,vn,vo,QN,hv⟩;obtain⟨a,b,now,out,nb,N,E,l2,V2,BH,gG,EG,m,f2,d,ND,t,X,A,F,y5,qT,Gv⟩:=id QN;obtain⟨an,cn,rfl,PD⟩:=A.cap;have Lu:=aB t;obtain⟨U,K,Q,M,I,G,D⟩:=hv;refine v8 U K Q M I G D (ae t) ?_;refine ai.dec (fun gp=>?_) (fun gp=>?_)
 ·obtain⟨x,y,rfl⟩:∃x y,now=[x,y]:=by
   match now,gp with
   | [x,y],_=>grind
  obtain⟨a',c',hv',F3,Xe⟩:=id A;injection hv' with PM Yq PN;subst PM PN;have Oe:([x,y]:List Int).length=2:=rfl;obtain⟨pb,po,pl,rfl,Yk,Ux,hpl,hpt⟩:=Xe.resolve_left O;have Uy:pl[po]? =some (i64 x):=by
   have h7:(([x,y]:List Int).map i64)[0]? =some (i64 x):=rfl;rw[<-hpt,amb,if_pos (by simp),alU]at h7;exact h7
  have Uz:pl[po+1]? =some (i64 y):=by
   have h7:(([x,y]:List Int).map i64)[1]? =some (i64 y):=rfl;rw[<-hpt,amb,if_pos (by simp),alU]at h7;exact h7
  have o:=ae Ux;refine v7 U K Q M I G D ?_;refine⟨O,?_⟩;refine v12 o Uy Int.toNat_zero aly Nat.add_zero U K Q M I G D ?_;refine⟨O,?_⟩;refine v11 o Uz Int.toNat_one amH U K Q M I G D ?_;have QJ:=d.kn x (by simp);have hyn:=d.kn y (by simp);have Wm:=d.hg x Z;have hyg:=d.hg y Z;refine(BJ m.m m.hz m.own m.cq m.hC iD (W:=a++(b++(out++W0))) f2 O O).mono ?_;rintro _ j ⟨p,q,UA,l3,V3,S4,rfl,Wo,m3,f3,c3,r3,SN,u⟩;have acI:∀z,E z= .no->¬KC E z:=fun z h1 m=>by
   rcases m with (m| ⟨_,m⟩)|m<;>grind
  have Mq:=u.size;obtain⟨rest,ho⟩:=m.own;have acJ:¬KC E nn:=fun h=>by
   have:=m.hn;rcases h with (h| ⟨_,h⟩)|h<;>grind
  have h3:ni H ro nn fb tb c C w j UA l3 V3 (ay BH p (BH p++[q])) (aM gG q p) S4 va vb a b:=by
   refine⟨m3,c3,fun z hz=>?_,⟨rest,u.own ho acJ⟩,?_,SN,m.rk.trans r3 m.e.size,m.ra.ext u (fun z _ h=>h) (fun z hz h=>r3.kcs hz h),m.rb.ext u (fun z _ h=>h) (fun z hz h=>r3.kcs hz h),?_⟩
   ·cases m;cases r3;grind
   ·cases m;cases r3;grind
   ·exact⟨O,fun z hz hn=>by
     rw[u.aW z O (fun h=>hn (m.rk.kcs hz h)),m.e.aW z hz hn]⟩
  have f:=u.own t (acI _ X);have Lv:=F.ext u Z;have f4:af j (j.new 3 [i64 p]):=bm;have f4':aj (fun _=>False) j (j.new 3 [i64 p]):=f4;have h4:=h3.RO f4' Z;have nw4:FA (j.new 3 [i64 p]) (.slice (some ⟨j.size,0,none⟩) 1 1) [p] (some j.size):=FA.lit p;have Yk:=alo.1 f3.wn;have Ol:p∉a/\p∉b/\p∉out/\p∉W0:=by
   have:=Yk.1;simp only[alu,not_or]at this;exact O
  have i4:=d.Xc (p:=p) (q:=q) (alj _) O Z;have Wg:(j.new 3 [i64 p]).size=j.size+1:=ag _ _ _;have hd4:∀z,some j.size=some z\/N=some z->H.size<z/\z< (j.new 3 [i64 p]).size/\UA z= .no:=fun z hz=>by
   grind [RK.none]
  have acK:∀z,some j.size=some z->N=some z->False:=Z;refine v7 U K Q M I G D ?_;rw[wrap64 (n:=(k:Int)+1) O O];refine⟨w.cs.length+1 - (k+1),O,k+1,va,vb,_,vo,rfl,⟨a,b,[p],out,some j.size,N,UA,l3,V3,_,_,S4,h4,f3,i4,by simp,f4.own f (fun h=>h),r3.none Lu X,nw4,Lv.ext f4 (fun _ _ h=>h),hd4,acK,fun z hz=>?_⟩,rfl⟩;unfold ay;grind
 ·refine v7 U K Q M I G D ?_;have SG:now=[]:=Z;subst SG;rw[wrap64 (n:=(k:Int)+1) O O];exact⟨w.cs.length+1 - (k+1),O,k+1,va,vb,_,vo,rfl,⟨a,b,[],out,nb,N,E,l2,V2,BH,gG,EG,m,f2,d.Xb (alj _),by simp,t,X,A,F,y5,qT,Gv⟩,rfl⟩
end
section
variable{g:Int}
structure Wu where
 n:Nat
 c:Nat
 fb:Nat
 tb:Nat
 rp:Nat
structure qU(H:Hp)(ro:Nat->Rl)(B:Wu)(C:Nat->Prop)(w:Nw)(l:List Value)(V:Int->Value)(ch:Int->List Int)(au:Int->Int)(kb:Int->Option Nat)(eE:List Value)(rows:Int->List Int)(rb:Int->Option Nat):Prop where
 own:∃tv,H.own B.n=some [ptr B.c,ptr B.fb,tv]/\Sl H 1 tv eE.length eE (some B.rp)
 row:∀g:Int,0<=g->g<eE.length->∃sv,eE[g.toNat]? =some sv/\Sl H 1 sv (rows g).length ((rows g).map i64) (rb g)
 cells:CQ H B.c C w
 fo:ForM H ro B.fb B.tb w.cs.length l V ch au kb
 hC:∀z,C z->ro z= .cell
 rn:ro B.n= .O8
 rr:ro B.rp= .JE
 qV:∀ (g:Int) b,0<=g->g<eE.length->rb g=some b->ro b= .row g
 hz:∀z,H.size<=z->ro z= .no
def dH(ro:Nat->Rl)(z:Nat):Prop:=ro z≠ .no
section
variable {H J : Hp} {ro ro' : Nat → Rl} {B : Wu} {C T : Nat → Prop} {w w' : Nw} {l l' : List Value} {V V' : Int → Value} {ch jD : Int → List Int} {au dh : Int → Int} {kb wV : Int → Option Nat} {eE : List Value} {rows : Int → List Int} {rb : Int → Option Nat} {lt : Int → Int → Bool} {W W0 L : List Int}
theorem qU.slt(m:qU H ro B C w l V ch au kb eE rows rb):∀z,dH ro z->z<H.size:=fun z x=>by
 apply alt;intro h;exact x (m.hz z O)
theorem ee{ro:Nat->Rl}{z:Nat}{r:Rl}(h:ro z=r)(x:r≠ .no):dH ro z:=fun e=>Z
theorem qU.ext(m:qU H ro B C w l V ch au kb eE rows rb)(e:aj T H J)(v:∀z,dH ro z->¬T z):qU J ro B C w l V ch au kb eE rows rb:=by
 obtain⟨o,y,j⟩:=m.own;have f:=e.size;refine⟨⟨o,e.own y (v _ (ee m.rn nofun)),j.ext e (fun b n=>by injection n with n;subst n;exact v _ (ee m.rr nofun))⟩,fun g r y=>?_,m.cells.ext e (fun z t=>v z (ee (m.hC z t) nofun)),m.fo.ext e (fun z t=>?_),m.hC,m.rn,m.rr,m.qV,fun z t=>m.hz z O⟩
 ·obtain⟨q,d,p⟩:=m.row g r y;exact⟨q,d,p.ext e (fun b n=>v b (ee (m.qV g b r y n) nofun))⟩
 ·rcases t with h|h| ⟨x,h⟩<;>exact v z (ee h nofun)
theorem qU.fresh(m:qU H ro B C w l V ch au kb eE rows rb)(e:af H J):qU J ro B C w l V ch au kb eE rows rb:=m.ext e fun _ _ h=>h
theorem qU.aE(m:qU H ro B C w l V ch au kb eE rows rb)(t:CQ J B.c C w')(e:aj C H J)(p:w'.cs.length=w.cs.length):qU J ro B C w' l V ch au kb eE rows rb:=by
 obtain⟨q,n,v⟩:=m.own;have u:=e.size;have d:∀z r,ro z=r->r≠ .cell->¬C z:=fun z r n v j=>v (by rw[<-n,m.hC z j]);refine⟨⟨q,e.own n (d _ _ m.rn nofun),v.ext e (fun b f=>by cases m;grind)⟩,fun g o n=>?_,t,?_,m.hC,m.rn,m.rr,m.qV,fun z y=>m.hz z O⟩
 ·cases m;grind [Sl.ext]
 ·rw[p];refine m.fo.ext e (fun z y=>?_);rcases y with h|h| ⟨x,h⟩<;>grind
theorem qU.PO(m:qU H ro B C w l V ch au kb eE rows rb)(f:ForM J ro' B.fb B.tb w.cs.length l' V' jD dh wV)(p:CQ J B.c C w)(r:RK H.size ro ro')(t:∀z,J.size<=z->ro' z= .no)(e:aj (KC ro) H J):qU J ro' B C w l' V' jD dh wV eE rows rb:=by
 obtain⟨P,h,n⟩:=m.own;have u:∀z q,ro z=q->(∀x,q≠ .re x)->q≠ .table->q≠ .cell->¬KC ro z:=fun z q h n o A v=>by
  rcases v with (v| ⟨x,v⟩)|v
  ·grind
  ·grind
  grind
 have y:∀z q,ro z=q->q≠ .no->(∀x,q≠ .re x)->ro' z=q:=fun z q h n o=>by
  rw[r.o z (m.slt z (ee h n)) Z,h]
 refine⟨⟨P,e.own h (u _ _ m.rn nofun nofun nofun),n.ext e (fun b d=>by cases m;grind)⟩,fun g j h=>?_,p,f,fun z t=>y z _ (m.hC z t) nofun nofun,y _ _ m.rn nofun nofun,y _ _ m.rr nofun nofun,fun g b j h d=>y b _ (m.qV g b j h d) nofun nofun,t⟩;cases m;grind [Sl.ext]
theorem qU.PP(m:qU H ro B C w l V ch au kb eE rows rb)(K:0<=g/\g<eE.length){H1:Hp}(r:aj (fun z=>rb g=some z) H H1){lb:List Value}(N:H1.own B.rp=some lb){t:Value}{L':List Int}{o:Option Nat}(s:Sl H1 1 t L'.length (L'.map i64) o)(M:∀b,o=some b->ro b= .no\/ro b= .row g):
  qU (H1.wr B.rp (lb.set g.toNat t)) (fun z=>if o=some z then .row g else ro z) B C w l V ch au kb (eE.set g.toNat t) (ay rows g L') (fun k=>if k=g then o else rb k)/\aj (dH ro) H (H1.wr B.rp (lb.set g.toNat t))/\
   (∀z,dH (fun z=>if o=some z then .row g else ro z) z->dH ro z\/o=some z):=by
 obtain⟨tv,v,y⟩:=m.own;have e:aj (fun z=>z=B.rp) H1 (H1.wr B.rp (lb.set g.toNat t)):=(aj.refl (fun z=>z=B.rp) _).wr (fun _=>rfl) _;have Q:(H1.wr B.rp (lb.set g.toNat t)).size=H1.size:=bE _ _ _;have X:=r.size;have f:∀z q,ro z=q->q≠ .no->q≠ .row g->(if o=some z then Rl.row g else ro z)=q:=Z;have ne:∀z q,ro z=q->q≠ .JE->z≠B.rp:=fun z q v y e=>y (by rw[<-v,e,m.rr]);have P:∀z q,ro z=q->q≠ .row g->¬rb g=some z:=fun z q v y A=>y (by cases m;grind);have E:∀b,o=some b->b≠B.rp:=Z;obtain⟨D,tc,rfl⟩:=Sl.shape y;have U:D=some ⟨B.rp,0,none⟩:=by
  obtain⟨_,_,_,F,_⟩:=y;injection F with F
 subst U;have A:=y.ext r Z;refine⟨⟨⟨_,e.own (r.own v (P _ _ m.rn nofun)) (ne _ _ m.rn nofun),?_⟩,fun k d v=>?_,(m.cells.ext r (fun z n=>P z _ (m.hC z n) nofun)).ext e (fun z n=>ne z _ (m.hC z n) nofun),?_,fun z n=>f z _ (m.hC z n) nofun nofun,f _ _ m.rn nofun nofun,Z,fun k b d v p=>?_,fun z n=>?_⟩,
  (r.mono fun z _ h=>ee (m.qV g z K.1 K.2 h) nofun).trans (e.mono fun z _ h=>by rw[h];exact ee m.rr nofun),fun z n=>?_⟩
 ·rw[alb];exact A.nG N g.toNat t
 ·rw[alb]at v;by_cases u:k=g
  ·subst u;refine⟨t,Z,?_⟩;unfold ay;rw[if_pos rfl,if_pos rfl];exact s.ext e O
  ·obtain⟨G,q1,I⟩:=m.row k d v;refine⟨G,Z,?_⟩;unfold ay;rw[if_neg u,if_neg u];exact(I.ext r (fun b p=>P b _ (m.qV k b d v p) Z)).ext e (fun b p=>ne b _ (m.qV k b d v p) nofun)
 ·have j:=(m.fo.ext r (fun z n=>by rcases n with h|h| ⟨x,h⟩<;>grind)).ext e (fun z n=>by rcases n with h|h| ⟨x,h⟩<;>grind);exact⟨j.t,j.kd,f _ _ j.rf nofun nofun,f _ _ j.rt nofun nofun,fun x b d v p=>f _ _ (j.rk x b d v p) nofun nofun,j.EE,j.no⟩
 ·cases m;grind
 ·rw[Q]at n;rw[if_neg (fun e=>?_),m.hz z O];cases o with
  |none=>cases e
  |some b=>
   injection e with e;have:=Sl.lt s;omega
 ·by_cases h:o=some z
  ·grind
  ·refine .inl fun y=>n ?_;grind
theorem qU.DS(m:qU H ro B C w l V ch au kb eE rows rb)(h:0<=g/\g<eE.length):∃lb z x,H.own B.n=some [ptr B.c,ptr B.fb,.slice (some ⟨B.rp,0,none⟩) eE.length z]/\H.own B.rp=some lb/\lb[g.toNat]? =some x/\g.toNat<lb.length/\eE[g.toNat]? =some x/\
  Sl H 1 x (rows g).length ((rows g).map i64) (rb g):=by
 obtain⟨p,v,n⟩:=m.own;obtain⟨x,j,d⟩:=m.row g h.1 h.2;obtain⟨_,lb,z,rfl,t,e,y,r⟩:=n;grind
theorem Sl.Yr{h:Value}{L:List Int}{fp:Option Nat}{Bd:Nat}(s:Sl H 1 h L.length (L.map i64) fp)(m:∀b,fp=some b->b<Bd/\¬KC ro b):BK H ro Bd h L:=by
 cases fp with
 |none=>
  obtain⟨_,x,rfl⟩:=s;exact⟨none,0,by rw[x],O,Z⟩
 |some b=>
  obtain⟨_,lb,c,rfl,v,n,e,y⟩:=s;obtain⟨z,x⟩:=m b rfl;refine⟨_,c,rfl,n,.inr ⟨b,0,lb,rfl,z,x,ae v,O,?_⟩⟩;grind
theorem ve(m:qU H ro B C w l V ch au kb eE rows rb){lv:Value}{j:Int->List Int}(h12:j g=rows g)(S6:BK H ro H.size lv L)(iD:∀a b,aU w a b=true->lt a b=true)(f:gX (aH w) lt ch au j (L++W0))(hL:B8 ch L)(hg:∀c∈L,aH w c=g)(r:0<=g/\g<eE.length):
  aD 404 [ptr B.n,i64 g,lv] H fun v J=>ak (∃ro' l' V' jD dh wV PQ out rb',qU J ro' B C w l' V' jD dh wV PQ (ay rows g out) rb'/\gX (aH w) lt jD dh (ay j g out) W0/\PQ.length=eE.length/\(∀z∈W0,jD z=ch z)/\
   (∀z,dH ro' z->dH ro z\/H.size<=z)/\aj (dH ro) H J):=by
 obtain⟨lb,F,sv,n,u,P,Fe,_,s2⟩:=m.DS r;obtain⟨va,vc,rfl⟩:=Sl.shape s2;obtain⟨N,Q,rfl,hcL⟩:=S6.cap;have Yo:BK H ro H.size (.slice va (rows g).length vc) (rows g):=Sl.Yr s2 (fun b hb=>by
  have X:=m.qV g b r.1 r.2 hb;refine⟨m.slt b (ee X nofun),fun y=>?_⟩;rcases y with (y| ⟨x,y⟩)|y<;>grind)
 have h0:ni H ro B.n B.fb B.tb B.c C w H ro l V ch au kb (.slice va (rows g).length vc) (.slice N L.length Q) (rows g) L:=⟨m.fo,m.cells,m.hC,⟨_,n⟩,m.rn,m.hz,RK.refl m.hz,Yo,S6,aj.refl _ _⟩;have G:=f.loose g;have hrg:∀c∈rows g,aH w c=g:=fun c y=>(f.rm g c Z).1;have E:=f.rr g;rw[h12]at G E;refine aL tX ?_;refine vs ?_;refine di.intro (fun J=>J.own B.n=some [ptr B.c,ptr B.fb,.slice (some ⟨B.rp,0,none⟩) eE.length F]) n ?_;refine vs ?_;refine bG.intro (.slice (some ⟨B.rp,0,none⟩) eE.length F) (fun J hI=>by refine v1 (ae hI) ?_;trivial) ?_;refine vs ?_;have hgi:0<=g/\g< (eE.length:Int):=r;have key:∀K:Value->Hp->Prop,(∀out ro' l' V' jD dh wV d p J,ni H ro B.n B.fb B.tb B.c C w J ro' l' V' jD dh wV (.slice none 0 0) (.slice none 0 0) [] []->Sl J 1 d out.length (out.map i64) p->(∀z,p=some z->H.size<=z/\ro' z= .no)->gX (aH w) lt jD dh (ay j g []) (out++W0)->B8 jD out->(∀c∈out,aH w c=g)->(∀z∈W0,jD z=ch z)->K (.tuple [d,.bool true].toArray) J)->
   aD 412 [ptr B.fb,.iface 169 (ptr B.n),.slice va (rows g).length vc,.slice N L.length Q] H K:=fun K hK=>by
  refine(Ak h0 iD G E hL (fun c y=>by rcases y with h|h;exact hrg c h;exact hg c h)).mono ?_;rintro _ J ⟨out,ro',l',V',jD,dh,wV,d,p,rfl,h1,t,h3,h4,X,h6,h7⟩;grind
 refine ry.intro ?A ?B;case' A=>
  refine v1 (ae n) ?_;refine And.intro n ?_;refine v1 (ae n) ?_;refine And.intro n ?_;refine vs ?_;refine⟨O,?_⟩;refine v4 (ae u) ak7 ala P ?_;refine And.intro n ?_;refine vs ?_
 case' B=>
  refine v1 (ae n) ?_;refine And.intro n ?_;refine vs ?_;refine⟨O,?_⟩;refine vs ?_;refine ry.intro ?C ?D;case' C=>
   refine v1 (ae n) ?_;refine And.intro n ?_;refine v4 (ae u) ak7 ala P ?_;refine And.intro n ?_;refine vs ?_
  case' D=>
   refine v4 (ae u) ak7 ala P ?_;refine And.intro n ?_;refine v1 (ae n) ?_;refine And.intro n ?_;refine vs ?_
 all_goals
  refine key _ fun out ro2 l2 V2 BH gG EG d fo2 H2 t so2 XM f2 r2 g2 w2=>?_;obtain⟨vb,vc2,rfl⟩:=Sl.shape so2;have o:=m.PO t.m t.cq t.rk t.hz t.e;obtain⟨XV,tc2,sv2,o2,q3,q4,acN,_,_⟩:=o.DS r;have o2':H2.own B.n=some [ptr B.c,ptr B.fb,.slice (some ⟨B.rp,0,none⟩) eE.length F]:=t.e.own n (fun y=>by
   rcases y with (y| ⟨x,y⟩)|y<;>(rw[m.rn]at y;cases y))
  refine And.intro o2' ?_;refine vs ?_;refine⟨O,?_⟩;refine v3 q3 ak7 ala ?_;refine⟨O,?_⟩;obtain⟨m3,I,Yh⟩:=o.PP r (aj.refl _ _) q3 so2 Z;refine vs ?_;have hnr:B.n≠B.rp:=fun e=>by cases o;grind
  refine And.intro (((aj.refl (fun z=>z=B.rp) _).wr (fun _=>rfl) _:aj (fun z=>z=B.rp) H2 _).own o2' hnr) ?_;refine vs ?_;have M:=f2.row (g:=g) (by unfold ay;grind) r2 g2;rw[cP]at M;have Ys:∀z,dH ro2 z->dH ro z\/H.size<=z:=fun z q=>by
   by_cases ZU:z<H.size
   ·refine .inl fun h=>q ?_;exact t.rk.none ZU h
   omega
  refine⟨_,l2,V2,BH,gG,EG,_,_,_,m3,M,alb ..,w2,fun z q=>?_,?_⟩
  ·grind
  ·have U:aj (dH ro) H H2:=t.e.mono fun z _ h=>by
    rcases h with (h| ⟨x,h⟩)|h<;>exact ee h nofun
   exact⟨alw U.size I.size,fun z q hn=>by
    cases I;cases U;grind⟩
theorem yu(m:qU H ro B C w l V ch au kb eE rows rb){e:Value}(p:BK H ro H.size e L)(d:∀a b,aU w a b=true->lt a b=true)(f:gX (aH w) lt ch au rows (L++W0))(t:B8 ch L)(r:∀c∈L,aH w c=g)(j:0<=g/\g<eE.length):
  aD 404 [ptr B.n,i64 g,e] H fun v J=>ak (∃ro' l' V' jD dh wV x y n,qU J ro' B C w l' V' jD dh wV x y n/\gX (aH w) lt jD dh y W0/\x.length=eE.length/\(∀z∈W0,jD z=ch z)/\
   (∀z,dH ro' z->dH ro z\/H.size<=z)/\aj (dH ro) H J):=
 (ve m rfl p d f t r j).mono fun _ _ ⟨ro',l',V',jD,dh,wV,x,_,n,h⟩=>⟨ro',l',V',jD,dh,wV,x,_,n,h⟩
end
end
section
variable{n:Nat}{g:Int}
def eC(n:Nat)(H:Hp)(S:Nat->Prop)(w:Nw):Prop:=∃ (B:Wu) (ro:Nat->Rl) (C:Nat->Prop) (l:List Value) (V:Int->Value) (ch:Int->List Int) (au:Int->Int) (kb:Int->Option Nat) (eE:List Value) (rows:Int->List Int) (rb:Int->Option Nat),
 B.n=n/\qU H ro B C w l V ch au kb eE rows rb/\gX (aH w) (aU w) ch au rows []/\eE.length=w.hs.length/\∀z,S z↔dH ro z
theorem eC.slt{H:Hp}{S:Nat->Prop}{w:Nw}(h:eC n H S w):∀z,S z->z<H.size:=by
 obtain⟨B,ro,C,l,V,ch,au,kb,eE,rows,rb,rfl,m,f,e,x⟩:=h;exact fun z v=>m.slt z ((x z).1 v)
theorem eC.ext{H J:Hp}{S T:Nat->Prop}{w:Nw}(h:eC n H S w)(e:aj T H J)(y:∀z,S z->¬T z):eC n J S w:=by
 obtain⟨B,ro,C,l,V,ch,au,kb,eE,rows,rb,rfl,m,f,v,x⟩:=h;exact⟨B,ro,C,l,V,ch,au,kb,eE,rows,rb,rfl,m.ext e Z,f,v,x⟩
section
variable {H J : Hp} {ro ro' : Nat → Rl} {B : Wu} {C T : Nat → Prop} {w w' : Nw} {l l' : List Value} {V V' : Int → Value} {ch jD : Int → List Int} {au dh : Int → Int} {kb wV : Int → Option Nat} {eE : List Value} {rows : Int → List Int} {rb : Int → Option Nat} {lt : Int → Int → Bool} {W W0 L : List Int}
theorem qU.JQ(m:qU H ro B C w l V ch au kb eE rows rb)(z:eE.length=w.hs.length)(h:w.has g):0<=g/\g<eE.length:=by
 have x:=h.1;have:=(ak8.1 h.2).1;omega
theorem HQ(m:qU H ro B C w l V ch au kb eE rows rb)(f:gX (aH w) lt ch au rows W)(t:eE.length=w.hs.length)(g:Int):aD 405 [ptr B.n,i64 g] H fun v J=>ak ((∃o,Sl H 1 v (rows g).length ((rows g).map i64) o/\∀b,o=some b->b<H.size/\¬KC ro b)/\J=H):=by
 obtain⟨U,j,_⟩:=m.own;refine aL tY ?_;refine v1 (ae j) ?_;refine(ii m.cells g).mono ?_;rintro _ _ ⟨rfl,rfl⟩;refine vs ?_;by_cases z:w.has g
 ·rw[ale z];have n:=m.JQ t z;obtain⟨lb,Q,N,p,q,u,F,_,P⟩:=m.DS n;refine v1 (ae p) ?_;refine⟨O,?_⟩;refine v4 (ae q) ak7 ala u ?_;refine⟨⟨rb g,P,fun b y=>?_⟩,rfl⟩;have e:=m.qV g b n.1 n.2 y;refine⟨m.slt b (ee e nofun),fun h=>?_⟩;rcases h with (h| ⟨x,h⟩)|h<;>grind
 ·rw[alc z];refine vs ?_;have d:rows g=[]:=by
   cases h:rows g with
   |nil=>rfl
   |cons c r=>
    obtain⟨A,_,K,_⟩:=f.rm g c Z;have:=((m.cells.hm c).2 O).1;grind
  rw[d];exact⟨⟨none,Sl.nil _ _,nofun⟩,rfl⟩
theorem gX.root(f:gX (aH w) (aU w) ch au rows []){y:Int}(e:0<g)(t:aH w y=g):∃r∈rows g,r=y\/aU w r y=true:=by
 obtain⟨r,m,z,v⟩:=f.pr.root (ar w) (n:=w.cs.length) (fun x h=>oh x h) _ (alj _) (x:=y) O;rcases f.wY r O z with h|h
 ·grind
 grind
theorem yv{H:Hp}{S:Nat->Prop}{w:Nw}(h:eC n H S w)(g:Int):aD 398 [ptr n,i64 g] H fun v J=>ak (
  (w.len g=0/\v= .tuple [i64 0,.bool false].toArray/\eC n J S w/\aj S H J)\/(∃x,w.first g x/\v= .tuple [i64 x,.bool true].toArray/\eC n J S w/\aj S H J)):=by
 obtain⟨B,ro,C,l,V,ch,au,kb,eE,rows,rb,rfl,m,f,F,E⟩:=id h;have uv:=m.cells.yY;refine aL tV ?_;refine vs ?_;refine(HQ m f F g).mono ?_;rintro _ J ⟨⟨o,s,hso⟩,e⟩;obtain rfl:=e.symm;obtain⟨va,vc,rfl⟩:=Sl.shape s;refine vs ?_;refine ai.dec (fun h0=>?_) (fun h0=>?_)<;>refine vs ?_
 ·refine .inl ⟨?_,rfl,h,aj.refl _ _⟩;have P:rows g=[]:=alI.1 O;by_cases hg:0<g
  ·rw[nX hg];intro x hx;obtain⟨r,Mp,_⟩:=f.root hg hx;grind
  ·exact Nw.Fg.2 (.inl O)
 obtain⟨x,R,P⟩:∃x R,rows g=x::R:=al5 Z;have p:∀c∈rows g,aH w c=g/\0<g:=fun c d=>by
  cases f;grind
 have Nl:=(p x Z).2;rw[P]at s p;have hlr:(rows g).length=(x::R).length:=by rw[P]
 rw[hlr];have wT:(x::R).length=R.length+1:=alk;have hsB:=s;have ec:=ck (f.rr g).nodup fun c d=>oh (w:=w) c Z;rw[P]at ec;obtain⟨b,lb,c,Ua,rfl,qb,qc,_,Fe,_⟩:=Sl.RN s (i:=0) (x:=x) rfl;injection Ua with h1 h2 h3;subst h1 h3;have Mu:=ae qb;obtain⟨_,lb',c',Q,q,Mq,Lj,SR⟩:=id s;injection Q with _ _ Q;subst Q;rw[qb]at q;injection q with q;subst q;rw[ala]at Lj SR;refine⟨O,?_⟩;refine v5 Mu qc Int.toNat_zero aly Nat.add_zero ?_;refine⟨O,?_⟩;refine vs ?_;have hgr:=m.JQ F ((m.cells.hm x).2 Z).1;rw[(p x (by simp)).1]at hgr;have hrB:BK H ro H.size (.slice (some ⟨b,0,none⟩) (x::R).length vc) (x::R):=Sl.Yr s hso;obtain⟨U,hv,_,_,_⟩:=PG s.rd (lo:=1) (hi:=R.length+1) (lo':=1) (hi':=((R.length+1:Nat):Int)) rfl rfl O O O;have hB:BK H ro H.size (.slice U R.length (vc - 1)) R:=by
  rw[show R.length=R.length+1 - 1 by omega,<-hv];exact hrB.tail _
 rw[hv,show((R.length+1:Nat):Int).toNat - Int.toNat 1=R.length by simp,amO];refine ba.intro (fun mm env J=>∃ (j:Nat) (t:Int),mm=R.length - j/\j<=R.length/\CQ J B.c C w/\aj C H J/\t∈x::R.take j/\(∀c∈x::R.take j,c≠t->aU w t c=true)/\
  env=[(0,ptr B.n),(7,i64 t),(20,.slice U R.length (vc - 1)),(21,i64 R.length),(22,i64 j)]) R.length ⟨0,x,rfl,O,m.cells,aj.refl _ _,by simp,by simp,rfl⟩ ?_
 rintro mm env H1 ⟨j,t,rfl,hj,I,u,K,X,rfl⟩;have m1:=m.aE I u rfl;obtain⟨Ni,o1,_⟩:=m1.own;refine vs ?_;refine ai.dec (fun iD=>?_) (fun iD=>?_)<;>refine vs ?_
 ·have Pd:j<R.length:=O;obtain⟨y,A⟩:∃y,R[j]? =some y:=Z;have hB1:=hB.ext u (fun z _ hk d=>hk (.inr (m.hC z d))) (ro':=ro) (fun _ _ h=>h);obtain⟨_,b2,o2,XV,rfl,q,q3⟩:=bD.num hB1.rd A;refine⟨O,?_⟩;refine v5 q ala Int.toNat_natCast q3 (ae o1) ?_;refine(cv I y t).mono ?_;rintro _ H2 ⟨rfl,G,D⟩;have hym:y∈x::R:=Z;have hbm:t∈x::R:=by
   rcases alF.1 K with h|h
   ·grind
   ·grind
  have VS:=p y hym;have La:=p t hbm;rw[fQ (w:=w) (a:=y) (b:=t) O O];have tk:R.take (j+1)=R.take j++[y]:=by rw[alq,A];rfl
  cases hyb:aU w y t
  ·refine vs ?_;rw[wrap64 (n:=(j:Int)+1) O O];refine⟨R.length - (j+1),O,j+1,t,rfl,O,G,u.trans D,?_,fun c d N=>?_,rfl⟩
   ·grind
   ·rw[tk,<-alX]at d;rcases alu.1 d with d|d
    ·grind
    ·rw[alv.1 d]at N ⊢;exact(by grind [aU,Nw.key,Nw.seq])
  ·refine vs ?_;rw[wrap64 (n:=(j:Int)+1) O O];refine⟨R.length - (j+1),O,j+1,y,rfl,O,G,u.trans D,?_,fun c d N=>?_,rfl⟩
   ·grind
   ·rw[tk,<-alX]at d;rcases alu.1 d with d|d
    ·by_cases e:c=t
     ·grind
     ·exact(by grind [aU,Nw.key,Nw.seq])
    grind
 ·obtain rfl:j=R.length:=O;rw[alx]at K X;refine .inr ⟨t,?_,rfl,⟨B,ro,C,l,V,ch,au,kb,eE,rows,rb,rfl,m1,f,F,E⟩,u.mono fun z _ hz=>(E z).2 (ee (m.hC z hz) nofun)⟩;rw[bh];refine⟨Nl,(p t K).1,fun y A N=>?_⟩;obtain⟨r,hr1,Mp⟩:=f.root Nl A;rw[P]at hr1;by_cases e:r=t
  ·grind
  ·have h5:=X r hr1 e;rcases Mp with M|M
   ·grind
   ·exact(ar w).tr _ _ _ h5 M
end
end
section
variable{x g:Int}{n:Nat}
section
variable {H J : Hp} {ro ro' : Nat → Rl} {B : Wu} {C T : Nat → Prop} {w w' : Nw} {l l' : List Value} {V V' : Int → Value} {ch jD : Int → List Int} {au dh : Int → Int} {kb wV : Int → Option Nat} {eE : List Value} {rows : Int → List Int} {rb : Int → Option Nat} {lt : Int → Int → Bool} {W W0 L : List Int}
theorem BM{H:Hp}{S:Nat->Prop}{w:Nw}(h:eC n H S w)(g x k s:Int):aD 395 [ptr n,i64 g,i64 x,ms k s] H fun v J=>ak (
  (¬w.kC g x/\v= .bool false/\br (eC n) S H J w)\/(w.kC g x/\v= .bool true/\br (eC n) S H J (w.put x (g,k,s)))):=by
 obtain⟨B,ro,C,l,V,ch,au,kb,eE,rows,rb,rfl,m,f,q,K⟩:=h;have hC:∀z,C z->S z:=fun z h=>(K z).2 (ee (m.hC z h) nofun);refine aL oT ?_;refine vs ?_;have u:af H (H.new 148 [i64 k,u64 s]):=bm;have b0:(H.new 148 [i64 k,u64 s]).own H.size=some [i64 k,u64 s]:=am _ _ _;have d:=m.fresh u;generalize H.new 148 [i64 k,u64 s]=H0 at*;have A:aj S H H0:=u.mono fun _ _ h=>h.elim;obtain⟨tv,HB,_⟩:=d.own;refine v2 (ae HB) (ae b0) ?_;refine(jW d.cells g x k s).mono ?_;rintro _ e (⟨kV,rfl,p,t⟩| ⟨Q,rfl,p,t⟩)
 ·refine vs ?_;exact .inl ⟨kV,rfl,br.same ⟨B,ro,C,l,V,ch,au,kb,eE,rows,rb,rfl,d.aE p t rfl,f,q,K⟩ (A.trans (t.mono Z))⟩
 obtain⟨F,N,mj⟩:=id Q;have U:=d.aE p t (by simp[Nw.put]);have hg:=F.1;have wU:=m.JQ q F;have j1:=fun y=>dT N (g,k,s) y;have j4:aH w x<=0:=Int.not_lt.1 fun h=>mj (bf.1 h);have E:∀a b,0<aH w a->0<aH w b->a≠x->b≠x->aU (w.put x (g,k,s)) a b=aU w a b:=fun a b ha r wA zS=>du N _ ha r wA zS;obtain⟨X,_⟩:=f.put (hm':=aH (w.put x (g,k,s))) (lt':=aU (w.put x (g,k,s))) (g:=g) rfl j4 O O Z Z E;refine vs ?_;have P:af e (e.new 3 [i64 x]):=bm;have m2:=U.fresh P;have s2:Sl (e.new 3 [i64 x]) 1 (.slice (some ⟨e.size,0,none⟩) 1 1) [x].length ([x].map i64) (some e.size):=Sl.bs (size:=1) (n:=1) (xs:=[i64 x]) rfl rfl;have z2:(e.new 3 [i64 x]).size=e.size+1:=ag _ _ _;have S6:BK (e.new 3 [i64 x]) ro (e.new 3 [i64 x]).size (.slice (some ⟨e.size,0,none⟩) 1 1) [x]:=Sl.Yr s2 fun b r=>by
  injection r with r;subst r;refine⟨O,fun j=>?_⟩;have:=U.hz e.size (alj _);rcases j with (j| ⟨x,j⟩)|j<;>grind
 generalize e.new 3 [i64 x]=H2 at*;refine(yu m2 S6 (fun _ _ h=>h) (W0:=[]) X (List.pairwise_singleton _ _) Z wU).mono ?_;rintro _ H3 ⟨I,l3,G,D,Af,S4,acQ,vf,rb3,m3,f3,Pb,_,Yh,M⟩;refine vs ?_;have o:aj S H H2:=(A.trans (t.mono fun z _ h=>hC z h)).trans (P.mono fun _ _ h=>h.elim);have z1:=o.size;refine .inr ⟨Q,rfl,dH I,⟨B,I,C,l3,G,D,Af,S4,acQ,vf,rb3,rfl,m3,f3,by rw[Pb,q];rfl,fun z=>Iff.rfl⟩,o.trans (M.mono Z),fun z hz=>?_⟩;grind
theorem gX.RQ{hm:Int->Int}(f:gX hm lt ch au rows W)(x:Int):B8 ch (ch x):=by
 unfold B8;rw[List.pairwise_iff_getElem];intro i j hi z h;rw[f.dg x i _ Z,f.dg x j _ Z];exact h
theorem gX.RR{hm:Int->Int}(f:gX hm lt ch au rows [])(v:x∈rows g):gX hm lt ch au (ay rows g ((rows g).filter fun y=> !decide (x=y))) [x]:=by
 have z:=(f.rr g).nodup;have n:(rows g++[]).Perm (((rows g).filter fun y=> !decide (x=y))++[x]):=by
  rw[alE];refine(List.perm_ext_iff_of_nodup z ?_).2 fun y=>?_
  ·grind
  ·grind
 have h:=((f.loose g).perm n).row (g:=g) (by unfold ay;grind) ((f.rr g).sub List.filter_sublist) (fun c m=>(f.rm g c Z).1);rwa[cP]at h
theorem BN{H:Hp}{h:Nat}(z:H.own h=some [i64 x])(y:Int):aD 410 [i64 y,ptr h] H fun v J=>ak (v= .bool (decide (x=y))/\J=H):=by
 refine tu mixed (an:=oY) (CH (by conv=>lhs;cbv) Y) (nt:=7) Y (by simp) ?_;refine v1 (ae z) ?_;exact⟨rfl,rfl⟩
theorem vg(m:qU H ro B C w l V ch au kb eE rows rb)(iD:∀a b,aU w a b=true->lt a b=true)(f:gX (aH w) lt ch au rows [])(Kl:x∈rows g)(d:0<=g/\g<eE.length)(Yt:∀a b,0<aH w a->0<aH w b->a≠x->b≠x->lt a b=true->aU (w.put x (0,0,0)) a b=true):
  aD 403 [ptr B.n,i64 g,i64 x] H fun v J=>ak (v= .bool true/\∃ro' l' V' jD dh wV PQ S8 rb',qU J ro' B C (w.put x (0,0,0)) l' V' jD dh wV PQ S8 rb'/\gX (aH (w.put x (0,0,0))) (aU (w.put x (0,0,0))) jD dh S8 []/\PQ.length=eE.length/\
   (∀z,dH ro' z->dH ro z\/H.size<=z)/\aj (dH ro) H J):=by
 obtain⟨Wm,Nr,Nl,_⟩:=f.rm g x Kl;have j4:=oh (w:=w) x O;have uv:=m.cells.yY;have ec:=ck (f.rr g).nodup fun c n=>oh (w:=w) c (by have:=f.rm g c n;omega);refine aL rS ?_;refine vs ?_;have E:af H (H.new 3 [i64 x]):=bm;have b0:(H.new 3 [i64 x]).own H.size=some [i64 x]:=am _ _ _;have z0:(H.new 3 [i64 x]).size=H.size+1:=ag _ _ _;have m0:=m.fresh E;generalize H.new 3 [i64 x]=H0 at*;obtain⟨lb,tc,sv,p,q1,q2,Fe,_,s2⟩:=m0.DS d;obtain⟨va,vc,rfl⟩:=Sl.shape s2;refine di.intro (fun J=>J.own B.n=some [ptr B.c,ptr B.fb,.slice (some ⟨B.rp,0,none⟩) eE.length tc]) p ?_;refine vs ?_;refine bG.intro (.slice (some ⟨B.rp,0,none⟩) eE.length tc) (fun J hI=>by refine v1 (ae hI) ?_;trivial) ?_;refine v1 (ae p) ?_;refine And.intro p ?_;refine vs ?_;refine⟨O,?_⟩;refine v4 (ae q1) ak7 ala q2 ?_;refine And.intro p ?_;refine vs ?_;have Yu:∀b,rb g=some b->ro b= .row g:=fun b o=>m.qV g b d.1 d.2 o;refine(zR s2 410 [ptr H.size] (fun y=>decide (x=y)) Y (fun J e' y=>BN (e'.own b0 (fun hh=>by have:=m.slt _ (ee (Yu _ hh) nofun);omega)) y) O).mono ?_;rintro _ H1 ⟨s3,A⟩;obtain⟨va',vc',rfl⟩:=Sl.shape s3;have Yv:∀z q,ro z=q->q≠ .row g->¬rb g=some z:=Z;have o2:=A.own p (Yv _ _ m.rn nofun);have q3:=A.own q1 (Yv _ _ m.rr nofun);refine And.intro o2 ?_;refine vs ?_;refine⟨O,?_⟩;refine v3 q3 ak7 ala ?_;refine⟨O,?_⟩;obtain⟨r,K,Mp⟩:=m0.PP d A q3 s3 Z;have hnr:B.n≠B.rp:=fun e=>by cases m;grind
 refine vs ?_;refine And.intro o2 ?_;have X:¬dH ro H.size:=fun h=>by have:=m.slt _ h;omega
 have M:=K.own b0 X;have z2:=K.size;have f2:=f.RR Kl;generalize H1.wr B.rp (lb.set g.toNat (Value.slice va' ((rows g).filter fun y=> !decide (x=y)).length vc'))=H2 at*;obtain⟨P,acR⟩:∃P:Nat->Rl,P=fun z=>if rb g=some z then Rl.row g else ro z:=⟨_,rfl⟩
 rw[<-acR]at r Mp;have U:∀z,dH P z->dH ro z:=fun z t=>(Mp z t).elim id fun h=>ee (Yu z h) nofun;obtain⟨Nh,o3,_⟩:=r.own;refine v2 (ae o3) (ae M) ?_;have No:(ch x).length<=w.cs.length:=ck (f.pr.nd x) fun c n=>m.fo.EE x c n;refine(Ai r.fo r.hz j4 Nr O).mono ?_;rintro sv D ⟨I,l3,V3,S4,fp3,fo3,r3,SN,j,G,ww⟩;have z3:=j.size;have m3:=r.PO fo3 (r.cells.ext j (fun z t Q=>by
  have:=r.hC z t;rcases Q with Q| ⟨_,Q⟩<;>grind)) r3 SN (j.mono fun z _ h=>.inl h)
 have f3:=f2.split.perm (show(x::(ch x++[])).Perm (ch x++[x]) by
  rw[alE];exact ama (l₁:=[x]) (l₂:=ch x))
 have We:x∉ch x:=fun h=>by have:=f.less h;omega
 have S6:BK D I D.size sv (ch x):=Sl.Yr G fun b o=>by
  rw[o]at G;refine⟨Sl.lt G,fun n=>?_⟩;have:=(ww b o).2;rcases n with (n| ⟨x,n⟩)|n<;>grind
 have acS:0<=g/\g< ((eE.set g.toNat (Value.slice va' ((rows g).filter fun y=> !decide (x=y)).length vc')).length:Int):=by rw[alb];exact d
 refine(yu m3 S6 iD f3 ((f.RQ x).frame (by grind [ay])) (fun c n=>by
  have:=(f.pr.dn x c n).2.2.1;omega) acS).mono ?_
 rintro _ H4 ⟨ro4,l4,V4,RM,DQ,Yw,UB,PR,rb4,u,f4,Wq,w4,hr4,F⟩;have ahZ:∀z,dH I z->dH ro z\/H.size+1<=z:=fun z t=>by
  by_cases ZU:z<H2.size
  ·refine .inl (U z fun h=>t ?_);exact r3.none ZU h
  omega
 have Rn:¬dH I H.size:=Z;have acU:¬KB P H.size:=fun h=>X (U _ (by rcases h with h| ⟨_,h⟩<;>exact ee h nofun));have b4:=F.own (j.own M acU) Rn;obtain⟨Wh,o5,_⟩:=u.own;refine v2 (ae o5) (ae b4) ?_;refine(bZ u.cells x).mono ?_;have mj:cu w.cs x:=bf.1 O;rintro _ H5 (⟨kV,_,_⟩| ⟨_,rfl,c5,N⟩)
 ·exact absurd mj kV
 have m5:=u.aE c5 N (by simp[Nw.put]);refine vs ?_;have j1:=fun y=>dT (w:=w) j4 (0,0,0) y;have f5:=f4.drop (hm':=aH (w.put x (0,0,0))) (lt':=aU (w.put x (0,0,0))) (by
  rw[w4 x (by simp)];unfold ay;grind) rfl Z Z Yt
 have z4:=F.size;have acV:∀z,dH ro4 z->dH ro z\/H.size+1<=z:=Z;refine⟨rfl,ro4,l4,V4,RM,DQ,Yw,UB,PR,rb4,m5,f5,Z,fun z t=>?_,?_⟩
 ·grind
 ·refine⟨by have:=N.size;omega,fun z t hn=>?_⟩;rw[N.aW z O (fun h=>by
   rcases acV z (ee (u.hC z h) nofun)with h|h
   ·grind
   ·omega),F.aW z O Z,j.aW z O (fun h=>hn (U z (by rcases h with h| ⟨_,h⟩<;>exact ee h nofun))),K.aW z O (fun h=>hn h),E.aW z t (fun h=>h)]
theorem Am{H:Hp}{S:Nat->Prop}{w:Nw}(h:eC n H S w)(g:Int):aD 394 [ptr n,i64 g] H fun v J=>ak (
  (w.len g=0/\v= .tuple [i64 0,.bool false].toArray/\br (eC n) S H J w)\/(∃x,w.first g x/\v= .tuple [i64 x,.bool true].toArray/\br (eC n) S H J (w.put x (0,0,0)))):=by
 refine aL nM ?_;refine vs ?_;refine(yv h g).mono ?_;rintro _ H1 (⟨N,rfl,t,y⟩| ⟨x,q,rfl,t,y⟩)
 ·refine vs ?_;exact .inl ⟨N,rfl,br.same t y⟩
 refine vs ?_;obtain⟨B,ro,C,l,V,ch,au,kb,eE,rows,rb,rfl,m,f,d,hS⟩:=t;obtain⟨U,o,D⟩:=bh.1 q;have M:x∈rows g:=by
  obtain⟨r,G,p⟩:=f.root U o;rcases p with h|h
  ·grind
  ·by_cases e:r=x
   ·grind
   ·have Q:=D r (f.rm g r G).1 e;rw[(ar w).vk Q]at h;cases h
 have j4:=oh (w:=w) x O;have j:=m.JQ d ((m.cells.hm x).2 O).1;rw[o]at j;refine(vg m (fun _ _ h=>h) f M j (fun a b ha hb wA zS h=>by grind [du])).mono ?_;rintro _ H2 ⟨rfl,u,l2,P,A,gG,E,UC,Yx,rb2,X,F,I,p,K⟩;refine vs ?_;have z1:=y.size;refine .inr ⟨x,q,rfl,dH u,⟨B,u,C,l2,P,A,gG,E,UC,Yx,rb2,rfl,X,F,by rw[I,d];rfl,fun z=>Iff.rfl⟩,y.trans (K.mono Z),fun z hz=>?_⟩;grind
end
end
section
variable {H J : Hp} {ro ro' : Nat → Rl} {B : Wu} {C T : Nat → Prop} {w w' : Nw} {l l' : List Value} {V V' : Int → Value} {ch jD : Int → List Int} {au dh : Int → Int} {kb wV : Int → Option Nat} {eE : List Value} {rows : Int → List Int} {rb : Int → Option Nat} {lt : Int → Int → Bool} {W W0 L : List Int}
theorem qU.Yy(m:qU H ro B C w l V ch au kb eE rows rb){g:Int}(N:0<=g/\g<eE.length){y:Hp}(e:aj (fun z=>rb g=some z) H y){j:Value}(f:eE[g.toNat]? =some j){L':List Int}(s:Sl y 1 j L'.length (L'.map i64) (rb g)):
  qU y ro B C w l V ch au kb eE (ay rows g L') rb:=by
 obtain⟨K,n,t⟩:=m.own;have Q:=e.size;have r:∀z q,ro z=q->q≠ .row g->¬rb g=some z:=fun z q n t F=>t (by cases m;grind);refine⟨⟨K,e.own n (r _ _ m.rn nofun),t.ext e (fun b p=>by cases m;grind)⟩,fun k d n=>?_,m.cells.ext e (fun z v=>r z _ (m.hC z v) nofun),m.fo.ext e (fun z v=>by rcases v with h|h| ⟨x,h⟩<;>grind),m.hC,m.rn,m.rr,m.qV,fun z v=>m.hz z O⟩;by_cases o:k=g
 ·subst o;refine⟨j,f,?_⟩;unfold ay;grind
 ·obtain⟨A,u,P⟩:=m.row k d n;refine⟨A,u,?_⟩;unfold ay;rw[if_neg o];exact P.ext e (fun b p=>r b _ (m.qV k b d n p) Z)
theorem vh(m:qU H ro B C w l V ch au kb eE rows rb){x g:Int}(f:Iq (aH w) (aU w) ch au rows [] x)(Wm:aH w x=g)(Nl:0<g)(Q:0<=g/\g<eE.length)(X:FuncId)(UD:List Value)(q:Int->Bool)(ak5:Hp->Prop)(E:(Int->List Int)->Prop)(hJ:ak5 H)
  (ST:∀J I,ak5 J->aj (fun z=>dH ro z/\z≠B.n) J I->ak5 I)(acW:eQ Tryz.prog X=true)
  (hq:∀J p,ak5 J->CQ J B.c C w->0<aH w p->aD X (i64 p::UD) J fun v I=>ak (v= .bool (q p)/\CQ I B.c C w/\aj C J I))(hE:E ch)
  (hEs:∀ (ch:Int->List Int) (au:Int->Int) (rows:Int->List Int) p,Iq (aH w) (aU w) ch au rows [] x->x∈ch p->q p=true->E ch->E (Co ch x p)):
  aD 400 [ptr B.n,i64 g,i64 x,.func (.func X) #[] UD.toArray] H fun v J=>ak (∃ro' l' V' jD dh wV t,qU J ro' B C w l' V' jD dh wV eE t rb/\Iq (aH w) (aU w) jD dh t [] x/\E jD/\(dh x= -1\/q (dh x)=false)/\
   (∀z,dH ro' z->dH ro z)/\aj (dH ro) H J):=by
 have ls:=ar w;have j4:=oh (w:=w) x O;have uv:=m.cells.yY;refine aL rR ?_;refine vs ?_;refine ba.intro (fun mm env J=>∃ (ro':Nat->Rl) (l':List Value) (V':Int->Value) (jD:Int->List Int) (dh:Int->Int) (wV:Int->Option Nat) (t:Int->List Int),mm=w.cs.length - (jD x).length/\qU J ro' B C w l' V' jD dh wV eE t rb/\Iq (aH w) (aU w) jD dh t [] x/\E jD/\ak5 J/\
  (∀z,dH ro' z->dH ro z)/\aj (dH ro) H J/\env=[(0,ptr B.n),(1,i64 g),(2,i64 x),(3,.func (.func X) #[] UD.toArray)]) _ ⟨ro,l,V,ch,au,kb,rows,rfl,m,f,hE,hJ,fun _ h=>h,aj.refl _ _,rfl⟩ ?_
 clear m f hE hJ;rintro mm env H1 ⟨ro1,l1,V1,P,F,kb1,y,rfl,o,n,hE1,hJ1,d,e1,rfl⟩;obtain⟨Ni,o1,_⟩:=o.own;refine v1 (ae o1) ?_;refine(nf o.fo.t j4).mono ?_;rintro _ J ⟨⟨M,rfl⟩| ⟨M,rfl⟩,e⟩
 ·obtain rfl:=e.symm;refine vs ?_;exact⟨ro1,l1,V1,P,F,kb1,y,o,n,hE1,.inl M,d,e1⟩
 obtain rfl:=e.symm;obtain⟨p,hpd⟩:∃p,p=F x:=⟨_,rfl⟩;rw[<-hpd]at M ⊢;have Nr:=n.w.pr.up x p hpd.symm M;obtain⟨_,_,hpg,hp1,_⟩:=n.w.pr.dn p x Nr;have lU:=n.w.less Nr;have Yz:=oh (w:=w) p O;have ec:∀z,(P z).length<=w.cs.length:=fun z=>ck (n.w.pr.nd z) fun c hc=>o.fo.EE z c hc;refine vs ?_;refine⟨acW,?_⟩;refine dO.mono (by simpa using hq H1 p hJ1 o.cells O) ?_;rintro _ H2 ⟨rfl,c2,e2⟩;have A:=o.aE c2 e2 rfl;have e2':aj (dH ro) H1 H2:=e2.mono fun z _ h=>d z (ee (o.hC z h) nofun);have hJ2:=ST _ _ hJ1 (e2.mono fun z _ h=>⟨d z (ee (o.hC z h) nofun),fun e=>by cases o;grind⟩);have yZ:=e1.trans e2';cases hqp:q p
 ·refine vs ?_;exact⟨ro1,l1,V1,P,F,kb1,y,A,n,hE1,Z,d,yZ⟩
 obtain⟨Nh,o2,_⟩:=A.own;refine v1 (ae o2) ?_;refine(nf A.fo.t Yz).mono ?_;have UE:∀h,x∉y h:=fun h r=>M (by rw[hpd];exact(n.w.rm h x r).2.1);have SX:F p≠ -1->0<=F p/\F p<w.cs.length:=fun h=>by
  have:=(n.w.pr.dn _ _ (n.w.pr.up p _ rfl h)).2.2;exact oh (w:=w) _ O
 have fin:∀ (N:Hp) (vf:Int->List Int),qU N ro1 B C w l1 V1 P F kb1 eE vf rb->(∀h,vf h=(y h).map (fY x p))->ak5 N->aj (dH ro) H N->∀ (K:Value->Hp->Prop),(∀H4,(∃m',m'<w.cs.length - (P x).length/\∃ (ro':Nat->Rl) (l':List Value) (V':Int->Value) (jD:Int->List Int) (dh:Int->Int) (wV:Int->Option Nat) (t:Int->List Int),m'=w.cs.length - (jD x).length/\qU H4 ro' B C w l' V' jD dh wV eE t rb/\Iq (aH w) (aU w) jD dh t [] x/\E jD/\ak5 H4/\
  (∀z,dH ro' z->dH ro z)/\aj (dH ro) H H4)->K (.bool true) H4)->aD 408 [ptr B.fb,i64 x] N K:=fun N vf u YA hJ3 G K hK=>by
  refine(BI u.fo u.hz n.w j4 Yz Nr SX uv).mono ?_;rintro _ H4 ⟨rfl,ro4,l4,V4,Yw,fo4,r4,Wg,D,UF⟩;have m4:=u.PO fo4 (u.cells.ext D (fun z hz hk=>by
   have:=u.hC z hz;rcases hk with hk| ⟨_,hk⟩<;>grind)) r4 Wg (D.mono fun z _ h=>.inl h)
  have e4':aj (dH ro) N H4:=D.mono fun z _ h=>d z (by rcases h with h| ⟨_,h⟩<;>exact ee h nofun);have f4:=n.up ls Nr;have UG:(fun h=>(y h).map (fY x p))=vf:=by funext h;exact(YA h).symm
  rw[UG,amS]at f4;have Wq:(Co P x p x).length=(P p).length:=by unfold Co;rw[nB,alA]
  have:=ec p;have YB:=D.size;refine hK H4 ⟨w.cs.length - (Co P x p x).length,O,ro4,l4,V4,_,_,Yw,vf,rfl,m4,f4,Z,ST _ _ hJ3 (D.mono fun z _ h=>⟨d z (by rcases h with h| ⟨_,h⟩<;>exact ee h nofun),fun e=>by rw[e]at h;rcases h with h| ⟨_,h⟩<;>(rw[u.rn]at h;cases h)⟩),fun z hz=>?_,G.trans e4'⟩;exact d z fun h=>hz (UF z h)
 rintro _ J ⟨⟨Rr,rfl⟩| ⟨Rr,rfl⟩,e⟩
 ·obtain rfl:=e.symm;have hpr:p∈y g:=by
   rcases n.w.wY p O Rr with h|h
   ·grind
   ·cases h
  obtain⟨lb,tc,sv,o3,q1,q2,Fe,Ua,s3⟩:=A.DS Q;obtain⟨U,hk0,ek0⟩:=amx.1 hpr;obtain⟨b,lr,rc,rfl,S0,qb,qk0,ah3,hrl,_⟩:=Sl.RN s3 (i:=U) (x:=p) Z;have hlr:=ck (n.w.rr g).nodup fun c hc=>oh (w:=w) c (by have:=n.w.rm g c hc;omega);refine v1 (ae o3) ?_;refine⟨O,?_⟩;refine v5 (ae q1) ak7 ala q2 (ae o3) ?_;refine⟨O,?_⟩;refine v4 (ae q1) ak7 ala q2 ?_;have dZ:=(n.w.rr g).nodup;have YC:(y g)[U]? =some p:=Z;refine⟨i64 (U:Int),(fI s3.rd p O).mono ?_,?_⟩
  ·rintro _ J ⟨⟨j,rfl,hj⟩,e⟩;obtain⟨hj0,hj⟩:=hj.resolve_left (fun h=>h.2 hpr);have hjl:=(ak8.1 hj).1;have:=(List.getElem?_inj hjl dZ).1 (hj.trans YC.symm);grind
  refine vs ?_;refine⟨O,?_⟩;refine v4 qb ak7 ala Int.toNat_natCast ?_;refine⟨O,?_⟩;rw[S0]at s3;have s4:=s3.nG qb U (i64 x);have G:aj (fun z=>rb g=some z) H2 (H2.wr b (lr.set U (i64 x))):=(aj.refl (fun z=>rb g=some z) _).wr (fun _=>S0) _;have PF:(y g).map (fY p x)=(y g).map (fY x p):=al7 (by grind [fY]);rw[<-alD,HN dZ (UE g) YC,PF]at s4;have hlm:((y g).map (fY x p)).length=(y g).length:=alA ..
  have u:=A.Yy Q G Ua (L':=(y g).map (fY x p)) Z;have e3':aj (dH ro) H2 (H2.wr b (lr.set U (i64 x))):=G.mono fun z _ h=>d z (ee (A.qV g z Q.1 Q.2 h) nofun);obtain⟨TS,o4,_⟩:=u.own;refine v1 (ae o4) ?_;refine fin _ _ u (fun h=>?_) (ST _ _ hJ2 (G.mono fun z _ h=>⟨d z (ee (A.qV g z Q.1 Q.2 h) nofun),Z⟩)) (yZ.trans e3') _ fun H4 r=>?_
  ·unfold ay;split
   ·grind
   ·rename_i e;exact(xa (UE h) (fun r=>e (by rw[<- (n.w.rm h p r).1,hpg,Wm]))).symm
  obtain⟨m',hm',ro',l',V',jD,dh,wV,t,h1,h2,h3,h4,h5,h6,h7⟩:=r;refine vs ?_;grind
 ·obtain rfl:=e.symm;have ac0:∀h,p∉y h:=fun h r=>Rr (n.w.rm h p r).2.1;refine v1 (ae o2) ?_;refine fin H2 y A (fun h=>(xa (UE h) (ac0 h)).symm) hJ2 yZ _ fun H4 r=>?_;obtain⟨m',hm',ro',l',V',jD,dh,wV,t,h1,h2,h3,h4,h5,h6,h7⟩:=r;refine vs ?_;grind
end
section
variable{n:Nat}{H:Hp}{kd dd:Int}
theorem uD{C:Nat->Prop}{w:Nw}{h z c:Nat}{x:Int}{rest:List Value}(t:H.own h=some [ptr n])(r:H.own z=some [i64 x])(j:H.own n=some (ptr c::rest))(e:CQ H c C w){p:Int}(q:0<aH w x)(d:0<aH w p):
  aD 401 [i64 p,ptr h,ptr z] H fun v J=>ak (v= .bool (aU w x p)/\CQ J c C w/\aj C H J):=by
 refine tu mixed (an:=lC) (CH (by conv=>lhs;cbv) Y) (nt:=12) Y (by simp) ?_;refine v3 (ae t) (ae r) (ae j) ?_;refine(cv e x p).mono ?_;rintro _ o ⟨rfl,m,y⟩;rw[fQ (w:=w) (a:=x) (b:=p) q d];refine vs ?_;exact⟨rfl,m,y⟩
theorem yw{S:Nat->Prop}{w:Nw}(h:eC n H S w)(x k s:Int):aD 392 [ptr n,i64 x,ms k s] H fun v J=>ak (
  (¬w.dv x k s/\v= .bool false/\br (eC n) S H J w)\/(w.dv x k s/\v= .bool true/\∃y,w.cs[x.toNat]? =some y/\br (eC n) S H J (w.put x (y.1,k,s)))):=by
 obtain⟨B,ro,C,l,V,ch,au,kb,eE,rows,rb,rfl,m,f,hl,P⟩:=h;have hC:∀z,C z->S z:=fun z h=>(P z).2 (ee (m.hC z h) nofun);have hSR:∀z,S z->z<H.size:=fun z hz=>m.slt z ((P z).1 hz);refine aL mV ?_;refine vs ?_;have f0:af H (((H.new 169 [ptr B.n]).new 3 [i64 x]).new 148 [i64 k,u64 s]):=(bm.new _ _).new _ _;have E:(((H.new 169 [ptr B.n]).new 3 [i64 x]).new 148 [i64 k,u64 s]).own H.size=some [ptr B.n]:=by
  grind [ax,ag,am]
 have b4:(((H.new 169 [ptr B.n]).new 3 [i64 x]).new 148 [i64 k,u64 s]).own (H.size+1)=some [i64 x]:=by
  rw[ax (by simp only[ag];omega)];exact az (by simp only[ag])
 have b5:(((H.new 169 [ptr B.n]).new 3 [i64 x]).new 148 [i64 k,u64 s]).own (H.size+1+1)=some [i64 k,u64 s]:=az (by simp only[ag]);have q:=m.fresh f0;generalize ((H.new 169 [ptr B.n]).new 3 [i64 x]).new 148 [i64 k,u64 s]=H0 at*;have ff:aj S H H0:=f0.mono fun _ _ h=>h.elim;obtain⟨tv,HB,_⟩:=q.own;refine v4 (ae E) (ae b4) (ae HB) (ae b5) ?_;refine(gJ q.cells x k s).mono ?_;rintro _ H1 (⟨F,rfl,c1,t⟩| ⟨r,rfl,y,U,lU,c1,t⟩)
 ·refine vs ?_;exact .inl ⟨F,rfl,br.same ⟨B,ro,C,l,V,ch,au,kb,eE,rows,rb,rfl,q.ext t (fun _ _ h=>h),f,hl,P⟩ (ff.trans (t.mono fun _ _ h=>h.elim))⟩
 have tC:(w.put x (y.1,k,s)).cs.length=w.cs.length:=by simp[Nw.put]
 have D:=q.aE c1 t tC;have x9:w.dv x k s:=⟨r,Z⟩;have hx:0<=x/\x<w.cs.length:=⟨r.1,Z⟩;have hwx:aH w x=y.1:=iO r.1 U;have FZ:=bf.2 r;have Q:aH (w.put x (y.1,k,s))=aH w:=by
  funext z;rw[dT hx];split
  ·grind
  ·rfl
 have HC:cu (w.put x (y.1,k,s)).cs x:=bf.1 (by simp_all);have el:∀a b,0<aH w a->0<aH w b->a≠x->b≠x->aU (w.put x (y.1,k,s)) a b=aU w a b:=fun a b ha A wA K=>du hx _ ha A wA K;have ex:∀b,0<aH w b->b≠x->aU w x b=true->aU (w.put x (y.1,k,s)) x b=true:=fun b A K h=>xV r U lU A K h;have ls:=ar w;have ls':=ar (w.put x (y.1,k,s));have nC:∀z,H.size<=z->¬C z:=Z;have X:=t.own E Z;have b41:=t.own b4 (nC _ O);obtain⟨Ni,o1,_⟩:=D.own;have hgr:=m.JQ hl ((m.cells.hm x).2 FZ).1;have hhl:(w.put x (y.1,k,s)).hs.length=w.hs.length:=by simp[Nw.put]
 refine v3 (ae X) (ae b41) (ae o1) ?_;refine(bC D.cells x).mono ?_;rintro _ H2 (⟨F,_,_⟩| ⟨_,rfl,c2,j⟩)
 ·exact absurd HC F
 have m2:=D.aE c2 j rfl;have yZ:aj S H H2:=(ff.trans (t.mono fun z _ h=>hC z h)).trans (j.mono fun z _ h=>hC z h);have b32:=j.own X Z;have b42:=j.own b41 (nC _ O);rw[Q];refine v2 (ae b32) (ae b42) ?_;have f2:Iq (aH (w.put x (y.1,k,s))) (aU (w.put x (y.1,k,s))) ch au rows [] x:=by
  rw[Q];exact Iq.start ls f el
 have hE0:∀d∈ch x,aU (w.put x (y.1,k,s)) x d=true:=fun d hd=>by
  obtain⟨_,_,_,h4,h5⟩:=f.pr.dn x d hd;exact ex d h4 (fun e=>by have:=f.less hd;grind) h5
 have hsR:∀z,dH ro z->z<H.size:=m.slt;refine(vh m2 f2 (g:=aH w x) (by rw[Q]) FZ hgr 401 [ptr H.size,ptr (H.size+1)] (fun p=>aU (w.put x (y.1,k,s)) x p) (fun J=>J.own H.size=some [ptr B.n]/\J.own (H.size+1)=some [i64 x]/\∃tv,J.own B.n=some [ptr B.c,ptr B.fb,tv])
  (fun ch=>∀d∈ch x,aU (w.put x (y.1,k,s)) x d=true) ?_ (fun J H'' u e=>?_) Y (fun J p u cq N=>?_) hE0 (fun ch au rows p cx Nr hq _=>cx.low ls' Nr hq)).mono ?_
 ·cases m2;grind
 ·obtain⟨I,G,Nh,M⟩:=u;exact⟨e.own I Z,e.own G Z,Nh,e.own M (fun h=>h.2 rfl)⟩
 ·obtain⟨I,G,Nh,M⟩:=u;exact uD I G M cq (by simp_all) N
 rintro _ H3 ⟨UA,l3,V3,ch3,Af,S4,vf,m3,o,hE3,hq3,Yh,e3⟩;refine vs ?_;have f4:=o.done hE3 (fun N=>by
  rcases hq3 with h|h
  ·omega
  ·have hxc:=o.w.pr.up x _ rfl N;have ac1:=o.w.less hxc;cases ls';grind)
 have z2:=yZ.size;refine .inr ⟨x9,rfl,y,U,dH UA,⟨B,UA,C,l3,V3,ch3,Af,S4,eE,vf,rb,rfl,m3,f4,O,fun z=>Iff.rfl⟩,yZ.trans (e3.mono Z),Z⟩
theorem HR(cap:Int)(H:Hp):aD 90 [i64 cap] H fun v J=>ak (
  af H J/\((¬ (0<=cap/\cap<=65536)/\v= .tuple [.pointer none,i64 31].toArray)\/
   ((0<=cap/\cap<=65536)/\∃n S,v= .tuple [ptr n,i64 0].toArray/\eC n J S (iU cap)/\∀x,S x->H.size<=x))):=by
 refine aL CX ?_;refine vs ?_;refine(jX cap H).mono ?_;rintro _ f ⟨t,⟨e,rfl⟩| ⟨e,c,C,rfl,o,E⟩⟩
 ·refine vs ?_;exact⟨t,.inl ⟨e,rfl⟩⟩
 refine vs ?_;refine(DR f e).mono ?_;rintro _ m ⟨fb,tb,l,rfl,q,r,hfb,htb⟩;have u:=o.fresh r;refine vs ?_;have X:=o.slt;have z1:=t.size;have z2:=r.size;have hts:=q.O9;have ny:=q.ne;have j:af m ((m.new 161 [.slice none 0 0]).new 227 [ptr c,ptr fb,.slice (some ⟨m.size,0,none⟩) 1 1]):=bm.new _ _;have P:aj (fun _=>False) (m.new 161 [.slice none 0 0]) ((m.new 161 [.slice none 0 0]).new 227 [ptr c,ptr fb,.slice (some ⟨m.size,0,none⟩) 1 1]):=bm;have z3:((m.new 161 [.slice none 0 0]).new 227 [ptr c,ptr fb,.slice (some ⟨m.size,0,none⟩) 1 1]).size=m.size+1+1:=by simp only[ag]
 obtain⟨ro,y⟩:∃ro:Nat->Rl,ro=fun z=>if z=m.size+1 then Rl.O8 else if z=m.size then Rl.JE else if z=fb then Rl.Dt else if z=tb then Rl.table else @ite _ (C z) (Classical.propDecidable _) Rl.cell Rl.no:=⟨_,rfl⟩
 have Q:ro (m.size+1)= .O8:=by rw[y];simp
 have U:ro m.size= .JE:=by rw[y];simp
 have I:ro fb= .Dt:=by rw[y];show(if fb=m.size+1 then _ else _)=_;grind
 have G:ro tb= .table:=by rw[y];show(if tb=m.size+1 then _ else _)=_;grind
 have D:∀z,C z->ro z= .cell:=Z;have M:∀z,ro z≠ .no->H.size<=z/\z<m.size+1+1:=fun z p=>by
  constructor<;>grind
 have F:(iU cap).cs.length=cap.toNat:=by simp[iU]
 refine⟨(t.trans r).trans j,.inr ⟨e,m.size+1,dH ro,rfl,⟨⟨m.size+1,c,fb,tb,m.size⟩,ro,C,l,fun _=>.slice none 0 0,fun _=>[],fun _=> -1,fun _=>none,[.slice none 0 0],fun _=>[],fun _=>none,rfl,⟨⟨.slice (some ⟨m.size,0,none⟩) 1 1,az (by simp only[ag]),?_⟩,fun g A d=>?_,u.fresh j,?_,D,Q,U,Z,fun z p=>?_⟩,
  ⟨⟨rfl,Z,O,Z⟩,Z,fun h=>List.Pairwise.nil,Z,amy,Z,fun c K=>absurd K (iV cap c)⟩,rfl,fun z=>Iff.rfl⟩,fun z p=>(M z p).1⟩⟩
 ·exact(Sl.bs (size:=1) (n:=1) (xs:=[.slice none 0 0]) rfl rfl).ext P (fun _ _ h=>h)
 ·have d:g<1:=d;have N:g=0:=O;subst N;exact⟨.slice none 0 0,rfl,Sl.nil _ _⟩
 ·rw[F];exact⟨q.ext j (fun h=>h) (fun h=>h),fun x A d=>Sl.nil _ _,I,G,Z,Z,fun _ _=>rfl⟩
 grind
theorem yx(H:Hp)(p:Int):aD 402 [i64 p] H fun v J=>ak (v= .bool true/\J=H):=by
 refine tu mixed (an:=mW) (CH (by conv=>lhs;cbv) Y) (nt:=3) Y (by simp) ?_;refine vs ?_;exact⟨rfl,rfl⟩
theorem BO{S:Nat->Prop}{w:Nw}(h:eC n H S w)(x:Int):aD 393 [ptr n,i64 x] H fun v J=>ak (
  (¬cu w.cs x/\v= .bool false/\br (eC n) S H J w)\/(cu w.cs x/\v= .bool true/\br (eC n) S H J (w.put x (0,0,0)))):=by
 obtain⟨B,ro,C,l,V,ch,au,kb,eE,rows,rb,rfl,m,f,q,G⟩:=id h;have I:∀z,C z->S z:=fun z h=>(G z).2 (ee (m.hC z h) nofun);obtain⟨tv,o0,_⟩:=m.own;refine aL oS ?_;refine v1 (ae o0) ?_;refine(bC m.cells x).mono ?_;rintro _ H1 (⟨E,rfl,rfl⟩| ⟨d,rfl,P,y⟩)
 ·refine vs ?_;exact .inl ⟨E,rfl,br.same h (aj.refl _ _)⟩
 have m1:=m.aE P y rfl;have ls:=ar w;have e:=bf.2 d;obtain⟨j4,ED,_⟩:=aI e;have j:=m.JQ q ((m.cells.hm x).2 e).1;have F:aj S H H1:=y.mono fun z _ h=>I z h;refine vs ?_;refine(vh m1 (Iq.start ls f Z) rfl e j 402 [] (fun _=>true) (fun _=>True) (fun _=>True) trivial Z (by rfl) (fun J p _ K hp=>(yx J p).mono fun v H'' D=>?_) trivial Z).mono ?_
 ·obtain⟨rfl,rfl⟩:=D;exact⟨rfl,K,aj.refl _ _⟩
 rintro _ H3 ⟨UA,l3,V3,ch3,Af,S4,vf,m3,r,_,hq3,Yh,N⟩;refine vs ?_;have X:Af x= -1:=Z;refine(vg m3 (fun a b h=>OB h) r.w ((r.w.wY x e X).resolve_right (by simp)) j (fun a b ha hb wA zS h=>by grind [du,Cp])).mono ?_;rintro _ H4 ⟨rfl,o,l4,u,A,DQ,Yw,UB,PR,rb4,m4,U,M,hr4,Q⟩;refine vs ?_;have t:aj S H H3:=F.trans (N.mono Z);have z3:=t.size;exact .inr ⟨d,rfl,dH o,⟨B,o,C,l4,u,A,DQ,Yw,UB,PR,rb4,rfl,m4,U,by rw[M,q];rfl,fun z=>Iff.rfl⟩,t.trans (Q.mono Z),Z⟩
theorem FC{S:Nat->Prop}{w:Nw}(h:eC n H S w)(a b:Int):aD 397 [ptr n,i64 a,i64 b] H fun v J=>ak (
  (¬ (w.has a/\w.has b/\a≠b)/\v= .bool false/\br (eC n) S H J w)\/((w.has a/\w.has b/\a≠b)/\v= .bool true/\br (eC n) S H J (w.join a b))):=by
 obtain⟨B,ro,C,l,V,ch,au,kb,eE,rows,rb,rfl,m,f,d,hS⟩:=id h;have hC:∀z,C z->S z:=fun z h=>(hS z).2 (ee (m.hC z h) nofun);obtain⟨tv,o0,_⟩:=m.own;refine aL rQ ?_;refine v1 (ae o0) ?_;refine(iQ m.cells a b).mono ?_;rintro _ H1 (⟨kV,rfl,rfl⟩| ⟨Q,rfl,D,q⟩)
 ·refine vs ?_;exact .inl ⟨kV,rfl,br.same h (aj.refl _ _)⟩
 have r:=m.aE D q (by simp[Nw.join]);obtain⟨K,j,Fh⟩:=id Q;have har:=m.JQ d K;have t:=m.JQ d j;have hj:=lN (w:=w) (a:=a) (b:=b) (by have:=j.1;omega);have A:=f.vl (hm':=aH (w.join a b)) rfl Fh (by have:=K.1;omega) (by have:=j.1;omega) hj;rw[<-ik w a b]at A;obtain⟨lb,tc,sv,o1,q1,q2,Fe,q3,s2⟩:=r.DS t;have u:aj S H H1:=q.mono fun z _ h=>hC z h;refine v1 (ae o1) ?_;refine⟨O,?_⟩;refine v4 (ae q1) ak7 ala q2 ?_;have S6:BK H1 ro H1.size sv (rows b):=Sl.Yr s2 (fun z p=>by
  have h5:=r.qV b z t.1 t.2 p;refine⟨r.slt z (ee h5 nofun),fun y=>?_⟩;rcases y with (y| ⟨x,y⟩)|y<;>grind)
 have X:ay rows b [] a=rows a:=by unfold ay;grind
 refine(ve r X S6 (fun _ _ h=>h) A (f.rr b) (fun c y=>by cases f;grind) har).mono ?_;rintro _ H2 ⟨ro2,l2,G,M,gG,EG,UC,out,rb2,U,f2,N,_,Mp,E⟩;refine vs ?_;have F:0<=b/\b<UC.length:=by rw[N];exact t
 obtain⟨XV,tc2,sv2,o2,I,q5,acN,q6,_⟩:=U.DS F;refine v1 (ae o2) ?_;refine⟨O,?_⟩;refine v3 I ak7 ala ?_;refine⟨O,?_⟩;obtain⟨m3,P,Yh⟩:=U.PP F (aj.refl _ _) I (L':=[]) (Sl.nil _ _) nofun;refine vs ?_;have z1:=u.size;have Ys:∀z,dH ro2 z->S z\/H.size<=z:=Z;refine .inr ⟨Q,rfl,_,⟨B,_,C,l2,G,M,gG,EG,_,_,_,rfl,m3,?_,?_,fun z=>Iff.rfl⟩,?_,fun z p=>?_⟩
 ·have e:ay (ay rows a out) b []=ay (ay rows b []) a out:=by
   funext z;unfold ay;grind
  grind
 ·rw[alb,N,d];simp[Nw.join]
 ·have o:aj S H H2:=u.trans (E.mono Z);exact⟨alw o.size P.size,fun z p hn=>by
   cases P;cases o;grind⟩
 grind
theorem FD{S:Nat->Prop}{w:Nw}(h:eC n H S w):aD 396 [ptr n] H fun v J=>ak (
  (w.hs.length=65537/\v=i64 0/\br (eC n) S H J w)\/(w.hs.length≠65537/\v=i64 w.hs.length/\br (eC n) S H J w.make)):=by
 obtain⟨B,ro,C,l,V,ch,au,kb,eE,rows,rb,rfl,m,f,hl,I⟩:=id h;obtain⟨tv,ho,Hv⟩:=m.own;refine aL rP ?_;refine v1 (ae ho) ?_;refine(iP m.cells).mono ?_;rintro _ P (⟨y,rfl,rfl⟩| ⟨y,rfl,Q,D,A,hC'⟩)
 ·refine vs ?_;exact .inl ⟨y,rfl,br.same h (aj.refl _ _)⟩
 have pG:=m.cells.pos;have hhs:=m.cells.Hv;have slt:=m.slt;have T5:=D.slt;have z1:=A.size;have nc:∀z q,ro z=q->q≠ .cell->¬C z:=fun z q y o E=>o (by rw[<-y,m.hC z E]);have o1:=A.own ho (nc _ _ m.rn nofun);refine vs ?_;refine ai.bK Z ?_;refine v1 (ae o1) ?_;have s1:=Hv.ext A (fun b t=>by cases m;grind);have U:af P (P.new 161 [.slice none 0 0]):=bm;have zl:(P.new 161 [.slice none 0 0]).size=P.size+1:=ag _ _ _;refine Sl.append (s1.ext U (fun _ _ h=>h)) (Sl.bs (size:=1) (n:=1) (xs:=[.slice none 0 0]) rfl rfl).rd rfl (fun v hv=>by rw[alv.1 hv];rfl) O ?_;intro w' H2 Ii s2 M ww;have K:aj (fun z=>z=B.rp) P H2:=⟨alw U.size M.size,fun z u hn=>by
  rw[M.aW z O Z,U.aW z u (fun h=>h)]⟩
 obtain⟨b',rfl,hb'⟩:∃b',Ii=some b'/\(b'=B.rp\/P.size<=b'/\b'<H2.size):=by
  grind
 have hnr:B.n≠B.rp:=fun e=>by cases m;grind
 have o2:=K.own o1 hnr;obtain⟨wa,wc,Yf⟩:=Sl.shape s2;subst Yf;refine v1 o2 ?_;have hln:B.n<H.size:=slt _ (ee m.rn nofun);have hlr:B.rp<H.size:=slt _ (ee m.rr nofun);have N:∀v,aj (fun z=>z=B.n) H2 (H2.wr B.n [ptr B.c,ptr B.fb,v]):=fun v=>(aj.refl (fun z=>z=B.n) _).wr (fun _=>rfl) _;obtain⟨j,Ys⟩:∃j:Nat->Rl,j=fun z=>if z=b' then Rl.JE else if z<H.size then ro z else @ite _ (Q z) (Classical.propDecidable _) Rl.cell Rl.no:=⟨_,rfl⟩
 have r1:j b'= .JE:=by rw[Ys];show(if b'=b' then _ else _)=_;grind
 have G:∀z q,ro z=q->q≠ .no->q≠ .JE->j z=q:=fun z q y o h3=>by
  have u:=slt z (ee y o);cases m;grind
 have r3:∀z,Q z->j z= .cell:=Z;have r4:∀z,dH j z->dH ro z\/H.size<=z:=fun z u=>by
  by_cases Kj:z<H.size
  ·refine .inl fun h=>u ?_;cases m;grind
  omega
 have r5:∀z,H2.size<=z->j z= .no:=fun z u=>by
  cases K;grind
 have aic:∀v,(H2.wr B.n [ptr B.c,ptr B.fb,v]).size=H2.size:=fun v=>bE _ _ _;have ac3:∀z q,ro z=q->q≠ .JE->z≠B.rp:=fun z q y o e=>o (by rw[<-y,e,m.rr]);have Rs:∀z q,ro z=q->q≠ .O8->z≠B.n:=fun z q y o e=>o (by rw[<-y,e,m.rn]);have aid:b'≠B.n:=O;refine .inr ⟨y,rfl,dH j,⟨⟨B.n,B.c,B.fb,B.tb,b'⟩,j,Q,l,V,ch,au,kb,eE++[.slice none 0 0],rows,(fun k=>if k< (eE.length:Int)then rb k else none),rfl,⟨⟨_,ah o2,?_⟩,fun g p X=>?_,?_,?_,r3,Z,r1,fun g b p X t=>?_,Z⟩,f,by rw[alm,hl];simp[Nw.make],fun z=>Iff.rfl⟩,?_,Z⟩
 ·grind [Sl.ext]
 ·rw[alm,alR]at X;by_cases F:g<eE.length
  ·obtain⟨sv,q1,q2⟩:=m.row g p F;refine⟨sv,Z,?_⟩;rw[if_pos F];exact((q2.ext A (fun b t=>nc b _ (m.qV g b p F t) nofun)).ext K (fun b t=>ac3 b _ (m.qV g b p F t) nofun)).ext (N _) (fun b t=>Rs b _ (m.qV g b p F t) nofun)
  ·have hge:g=(eE.length:Int):=O;have hre:rows g=[]:=by
    cases E:rows g with
    |nil=>rfl
    |cons c r=>
     obtain⟨h5,_,h6,_⟩:=f.rm g c Z;cases m;grind [CQ.hm]
   refine⟨.slice none 0 0,Z,?_⟩;grind [Sl.nil]
 ·exact(D.ext K Z).ext (N _) Z
 ·have hft:∀z,(ro z= .Dt\/KB ro z)->(¬C z/\z≠B.rp)/\z≠B.n:=fun z u=>by
   rcases u with h|h| ⟨x,h⟩<;>grind
  have d:=((m.fo.ext A Z).ext K Z).ext (N (.slice wa (eE.length+1) wc)) Z;exact⟨d.t,d.kd,G _ _ d.rf nofun nofun,G _ _ d.rt nofun nofun,fun x b p y t=>G _ _ (d.rk x b p y t) nofun nofun,d.EE,d.no⟩
 ·cases m;grind
 ·refine(((A.mono fun z _ h=>?_).trans (K.mono fun z _ h=>?_)).trans ((N _).mono fun z _ h=>?_):aj S H _)
  ·exact(I z).2 (ee (m.hC z h) nofun)
  ·exact(I z).2 (by rw[h];exact ee m.rr nofun)
  ·exact(I z).2 (by rw[h];exact ee m.rn nofun)
theorem PS(n:Nat):qq (.iface 169 (ptr n)) (eC n) where
 slt h:=h.slt
 ext h e hd:=h.ext e hd
 cells:=by
  rintro H S w ⟨B,ro,C,l,V,ch,au,kb,eE,rows,rb,rfl,m,f,d,r⟩;exact⟨B.c,C,m.cells⟩
 has:=by
  rintro H S w g ⟨B,ro,C,l,V,ch,au,kb,eE,rows,rb,rfl,m,f,d,r⟩;obtain⟨o,j,_⟩:=m.own;exact⟨_,_,353,ptr B.c,rfl,cz (off:=0) Y (ae j) rfl,(ii m.cells g).mono fun v J y=>y⟩
 make:=by
  intro H S w h;exact⟨_,_,396,ptr n,rfl,aZ Y,(FD h).mono fun v J y=>y⟩
 insert:=by
  intro H S w g x k s h;exact⟨_,_,395,ptr n,rfl,aZ Y,(BM h g x k s).mono fun v J y=>y⟩
 min:=by
  intro H S w g h;refine⟨_,_,398,ptr n,rfl,aZ Y,(yv h g).mono ?_⟩;rintro v J (⟨t,rfl,p,q⟩| ⟨x,t,rfl,p,q⟩)
  ·exact .inl ⟨t,rfl,br.same p q⟩
  ·exact .inr ⟨x,t,rfl,br.same p q⟩
 extract:=by
  intro H S w g h;exact⟨_,_,394,ptr n,rfl,aZ Y,(Am h g).mono fun v J y=>y⟩
 jZ:=by
  intro H S w x k s h;exact⟨_,_,392,ptr n,rfl,aZ Y,(yw h x k s).mono fun v J y=>y⟩
 entry:=by
  rintro H S w x ⟨B,ro,C,l,V,ch,au,kb,eE,rows,rb,rfl,m,f,d,r⟩;obtain⟨o,j,_⟩:=m.own;refine⟨_,_,351,ptr B.c,rfl,cz (off:=0) Y (ae j) rfl,(gI m.cells x).mono ?_⟩;rintro v J ⟨u,A,K⟩;exact⟨⟨B,ro,C,l,V,ch,au,kb,eE,rows,rb,rfl,m.fresh A,f,d,r⟩,A,K⟩
 len:=by
  rintro H S w g ⟨B,ro,C,l,V,ch,au,kb,eE,rows,rb,rfl,m,f,d,r⟩;obtain⟨o,j,_⟩:=m.own;exact⟨_,_,356,ptr B.c,rfl,cz (off:=0) Y (ae j) rfl,(eU m.cells g).mono fun v J y=>y⟩
 home:=by
  rintro H S w x h;obtain⟨B,ro,C,l,V,ch,au,kb,eE,rows,rb,rfl,m,f,d,r⟩:=id h;obtain⟨o,j,_⟩:=m.own;refine⟨_,_,354,ptr B.c,rfl,cz (off:=0) Y (ae j) rfl,(bC m.cells x).mono ?_⟩;rintro v J (⟨t,rfl,rfl⟩| ⟨t,rfl,u,P⟩)
  ·exact .inl ⟨t,rfl,br.same h (aj.refl _ _)⟩
  ·exact .inr ⟨t,rfl,br.same ⟨B,ro,C,l,V,ch,au,kb,eE,rows,rb,rfl,m.aE u P rfl,f,d,r⟩ (P.mono fun z _ F=>(r z).2 (ee (m.hC z F) nofun))⟩
 delete:=by
  intro H S w x h;exact⟨_,_,393,ptr n,rfl,aZ Y,(BO h x).mono fun v J y=>y⟩
 vl:=by
  intro H S w a b h;exact⟨_,_,397,ptr n,rfl,aZ Y,(FC h a b).mono fun v J y=>y⟩
theorem wG(n:Nat)(H:Hp):aD 89 [ptr n,i64 0] H fun v J=>ak (v= .tuple [.iface 169 (ptr n),i64 0].toArray/\J=H):=by
 refine aL nI ?_;refine v1 alr ?_;exact⟨rfl,rfl⟩
theorem yy(n:Nat)(H:Hp):aD 91 [ptr n,i64 0] H fun v J=>ak (v= .tuple [.iface 173 (ptr n),i64 0].toArray/\J=H):=by
 refine aL oO ?_;refine v1 alr ?_;exact⟨rfl,rfl⟩
theorem yz(n:Nat)(H:Hp):aD 95 [ptr n,i64 0] H fun v J=>ak (v= .tuple [.iface 181 (ptr n),i64 0].toArray/\J=H):=by
 refine aL oP ?_;refine v1 alr ?_;exact⟨rfl,rfl⟩
theorem DT(n:Nat)(H:Hp):aD 97 [ptr n,i64 0] H fun v J=>ak (v= .tuple [.iface 185 (ptr n),i64 0].toArray/\J=H):=by
 refine aL tM ?_;refine v1 alr ?_;exact⟨rfl,rfl⟩
theorem DU(n:Nat)(H:Hp):aD 99 [ptr n,i64 0] H fun v J=>ak (v= .tuple [.iface 189 (ptr n),i64 0].toArray/\J=H):=by
 refine aL tN ?_;refine v1 alr ?_;exact⟨rfl,rfl⟩
theorem HS{cap:Int}(u:dP kd dd)(p:0<=cap/\cap<=65536)(H:Hp):aD 56 [xY kd dd,i64 cap] H fun v J=>ak (∃t K I x,v= .tuple [.iface t K,i64 0].toArray/\qq (.iface t K) I/\I J x (iU cap)/\af H J/\∀z,x z->H.size<=z):=by
 refine aL M0 ?_;refine vs ?_;have d:af H (H.new 26 [i64 kd,i64 dd]):=bm;have A:(H.new 26 [i64 kd,i64 dd]).own H.size=some [i64 kd,i64 dd]:=am _ _ _;have N:(H.new 26 [i64 kd,i64 dd]).size=H.size+1:=ag _ _ _;generalize H.new 26 [i64 kd,i64 dd]=j at*;obtain rfl|rfl|rfl|rfl|rfl|rfl|rfl|rfl:kd=1\/kd=2\/kd=3\/kd=4\/kd=5\/kd=6\/kd=7\/kd=8:=by have:=u.1;omega
 ·refine ai.bK (by decide) ?_;refine v1 (ae A) ?_;refine ai.bK (by decide) ?_;refine v1 (ae A) ?_;refine(mF u (by decide) j).mono ?_;rintro _ P ⟨rfl,o⟩;refine vs ?_;refine(uW cap _ P).mono ?_;rintro _ m ⟨e,⟨r,rfl⟩| ⟨_,f,rfl⟩| ⟨_,f,n,x,rfl,y,q⟩⟩
  ·exact absurd p r
  ·refine absurd ?_ f;obtain⟨_,h|h⟩:=u
   ·omega
   ·first|exact⟨by decide,by decide⟩|exact absurd rfl h.1
  ·refine vs ?_;refine(sL n m).mono ?_;rintro _ _ ⟨rfl,rfl⟩;have F:=o.size;refine vs ?_;exact⟨_,_,_,x,rfl,DJ n _,⟨0,y⟩,(d.trans o).trans e,Z⟩
 ·refine ai.aR (by decide) ?_;refine vs ?_;refine ai.bK (by decide) ?_;refine v1 (ae A) ?_;refine(mF u (by decide) j).mono ?_;rintro _ P ⟨rfl,o⟩;refine vs ?_;refine(uW cap _ P).mono ?_;rintro _ m ⟨e,⟨r,rfl⟩| ⟨_,f,rfl⟩| ⟨_,f,n,x,rfl,y,q⟩⟩
  ·exact absurd p r
  ·refine absurd ?_ f;obtain⟨_,h|h⟩:=u
   ·first|exact⟨h.2.1,h.2.2⟩|exact absurd h.1 (by decide)
   omega
  ·refine vs ?_;refine(sL n m).mono ?_;rintro _ _ ⟨rfl,rfl⟩;have F:=o.size;refine vs ?_;exact⟨_,_,_,x,rfl,DJ n _,⟨0,y⟩,(d.trans o).trans e,Z⟩
 ·refine ai.aR (by decide) ?_;refine vs ?_;refine ai.aR (by decide) ?_;refine vs ?_;refine ai.bK (by decide) ?_;refine vs ?_;refine(HR cap j).mono ?_;rintro _ m ⟨e,⟨r,rfl⟩| ⟨_,n,x,rfl,y,q⟩⟩
  ·exact absurd p r
  ·refine vs ?_;refine(wG n m).mono ?_;rintro _ _ ⟨rfl,rfl⟩;refine vs ?_;exact⟨_,_,_,x,rfl,PS n,y,d.trans e,Z⟩
 ·refine ai.aR (by decide) ?_;refine vs ?_;refine ai.aR (by decide) ?_;refine vs ?_;refine ai.aR (by decide) ?_;refine vs ?_;refine ai.bK (by decide) ?_;refine vs ?_;refine(Ah cap j).mono ?_;rintro _ m ⟨e,⟨r,rfl⟩| ⟨_,n,x,rfl,y,q⟩⟩
  ·exact absurd p r
  ·refine vs ?_;refine(yy n m).mono ?_;rintro _ _ ⟨rfl,rfl⟩;refine vs ?_;exact⟨_,_,_,x,rfl,HM n,y,d.trans e,Z⟩
 ·refine ai.aR (by decide) ?_;refine vs ?_;refine ai.aR (by decide) ?_;refine vs ?_;refine ai.aR (by decide) ?_;refine vs ?_;refine ai.aR (by decide) ?_;refine vs ?_;refine ai.bK (by decide) ?_;refine vs ?_;refine(HK cap j).mono ?_;rintro _ m ⟨e,⟨r,rfl⟩| ⟨_,n,x,rfl,y,q⟩⟩
  ·exact absurd p r
  ·refine vs ?_;refine(uB n m).mono ?_;rintro _ _ ⟨rfl,rfl⟩;refine vs ?_;exact⟨_,_,_,x,rfl,PA n,y,d.trans e,Z⟩
 ·refine ai.aR (by decide) ?_;refine vs ?_;refine ai.aR (by decide) ?_;refine vs ?_;refine ai.aR (by decide) ?_;refine vs ?_;refine ai.aR (by decide) ?_;refine vs ?_;refine ai.aR (by decide) ?_;refine vs ?_;refine ai.bK (by decide) ?_;refine vs ?_;refine(zU cap j).mono ?_;rintro _ m ⟨e,⟨r,rfl⟩| ⟨_,n,x,rfl,y,q⟩⟩
  ·exact absurd p r
  ·refine vs ?_;refine(yz n m).mono ?_;rintro _ _ ⟨rfl,rfl⟩;refine vs ?_;exact⟨_,_,_,x,rfl,HE n,y,d.trans e,Z⟩
 ·refine ai.aR (by decide) ?_;refine vs ?_;refine ai.aR (by decide) ?_;refine vs ?_;refine ai.aR (by decide) ?_;refine vs ?_;refine ai.aR (by decide) ?_;refine vs ?_;refine ai.aR (by decide) ?_;refine vs ?_;refine ai.aR (by decide) ?_;refine vs ?_;refine ai.bK (by decide) ?_;refine vs ?_;refine(Fz cap j).mono ?_;rintro _ m ⟨e,⟨r,rfl⟩| ⟨_,n,x,rfl,y,q⟩⟩
  ·exact absurd p r
  ·refine vs ?_;refine(DT n m).mono ?_;rintro _ _ ⟨rfl,rfl⟩;refine vs ?_;exact⟨_,_,_,x,rfl,Nz n,y,d.trans e,Z⟩
 ·refine ai.aR (by decide) ?_;refine vs ?_;refine ai.aR (by decide) ?_;refine vs ?_;refine ai.aR (by decide) ?_;refine vs ?_;refine ai.aR (by decide) ?_;refine vs ?_;refine ai.aR (by decide) ?_;refine vs ?_;refine ai.aR (by decide) ?_;refine vs ?_;refine ai.aR (by decide) ?_;refine vs ?_;refine(Fs cap j).mono ?_;rintro _ m ⟨e,⟨r,rfl⟩| ⟨_,n,x,rfl,y,q⟩⟩
  ·exact absurd p r
  ·refine vs ?_;refine(DU n m).mono ?_;rintro _ _ ⟨rfl,rfl⟩;refine vs ?_;exact⟨_,_,_,x,rfl,Lo n,⟨0,y⟩,d.trans e,Z⟩
theorem JR(h:dP kd dd):SY kd dd:=fun _ x H=>HS h x H
theorem DV(e:dP kd dd)(hn:n<=65536)(H:Hp):aD 216 [xY kd dd,i64 n,i64 1] H fun v J=>ak (∃s S,v= .tuple [ptr s,i64 0].toArray/\j0 J s S (iU (n:Int)).make (sM (n:Int) 4294967295) 0/\af H J/\∀z,S z->H.size<=z):=by
 refine aL Jl ?_;refine vs ?_;have d:af H (H.new 26 [i64 kd,i64 dd]):=bm;have b0:(H.new 26 [i64 kd,i64 dd]).own H.size=some [i64 kd,i64 dd]:=am _ _ _;generalize H.new 26 [i64 kd,i64 dd]=q at*;refine(eS kd dd q).mono ?_;rintro _ o ⟨rfl,x⟩;have P:=x.own b0 (fun h=>h);rw[show JG kd dd=0 from Hz e];refine vs ?_;refine ai.dec (fun _=>?_) (fun h=>absurd trivial h);refine vs ?_;refine ai.dec (fun h=>O) (fun _=>?_);refine v1 (ae P) ?_;refine(yp e (JR e) (cap:=n) (mo:=4294967295) ⟨O,O⟩ O o).mono ?_;rintro _ D ⟨s,S,rfl,U,K,N⟩;refine vs ?_;have G:=(d.trans x).size;refine ba.intro (fun mm env J=>∃ (j:Nat) (r:Nat->Prop),mm=1 - j/\j<=1/\j0 J s r (if j=0 then iU (n:Int)else(iU (n:Int)).make) (sM (n:Int) 4294967295) 0/\af H J/\(∀z,r z->H.size<=z)/\env=[(9,ptr s),(10,i64 0),(24,i64 1),(25,i64 j)]) 1 ⟨0,S,rfl,O,U,(d.trans x).trans K,fun z t=>alw G (N z t),rfl⟩ ?_;rintro mm env M ⟨j,f,rfl,X,p,m,y,rfl⟩;refine vs ?_;refine ai.dec (fun F=>?_) (fun F=>?_)<;>refine vs ?_
 ·obtain rfl:j=0:=O;refine(qs p (by simp[iU])).mono ?_;rintro _ E ⟨rfl,u,I,A,Q⟩;refine vs ?_;refine⟨0,O,1,u,rfl,O,I,m.then A y,fun z t=>?_,rfl⟩;have:=m.size;rcases Q z t with h|h
  ·exact y z h
  ·omega
 ·obtain rfl:j=1:=O;exact⟨s,f,rfl,p,m,y⟩
end
end Go.Proofs.YtnanofhkpglbaaaGreatDoor
