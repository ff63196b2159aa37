/- Texts put behind each other. -/
import Derived.Test.YtjkkkibiegfecaaGreatDoorK32
import Derived.Test.YtjkkkibiegfecaaGreatDoorK34
set_option linter.unusedSimpArgs false
set_option linter.unusedVariables false
set_option maxRecDepth 100000
set_option maxHeartbeats 8000000
namespace Go.Proofs.YtjkkkibiegfecaaGreatDoor
open Go Go.Vc
section
variable{n:Nat}{g:Int}
def eD(n:Nat)(H:Hp)(S:Nat->Prop)(w:Nw):Prop:=∃ (B:Vr) (ro:Nat->Rl) (C:Nat->Prop) (l:List Value) (V:Int->Value) (ch:Int->List Int) (ax:Int->Int) (kb:Int->Option Nat) (eE:List Value) (rows:Int->List Int) (rb:Int->Option Nat),
 B.n=n/\rz H ro B C w l V ch ax kb eE rows rb/\gX (aH w) (aU w) ch ax rows []/\eE.length=w.hs.length/\∀z,S z↔dM ro z
theorem eD.slt{H:Hp}{S:Nat->Prop}{w:Nw}(h:eD n H S w):∀z,S z->z<H.size:=by
 obtain⟨B,ro,C,l,V,ch,ax,kb,eE,rows,rb,rfl,m,f,c,x⟩:=h;exact fun z a=>m.slt z ((x z).1 a)
theorem eD.ext{H J:Hp}{S T:Nat->Prop}{w:Nw}(h:eD n H S w)(e:aj T H J)(c:∀z,S z->¬T z):eD n J S w:=by
 obtain⟨B,ro,C,l,V,ch,ax,kb,eE,rows,rb,rfl,m,f,a,x⟩:=h;exact⟨B,ro,C,l,V,ch,ax,kb,eE,rows,rb,rfl,m.ext e Z,f,a,x⟩
section
variable {H J : Hp} {ro ro' : Nat → Rl} {B : Vr} {C T : Nat → Prop} {w w' : Nw} {l l' : List Value} {V V' : Int → Value} {ch iw : Int → List Int} {ax dt : Int → Int} {kb vC : Int → Option Nat} {eE : List Value} {rows : Int → List Int} {rb : Int → Option Nat} {lt : Int → Int → Bool} {W W0 L : List Int}
theorem rz.Ju(m:rz H ro B C w l V ch ax kb eE rows rb)(z:eE.length=w.hs.length)(h:w.has g):0<=g/\g<eE.length:=by
 have x:=h.1;have:=(ajK.1 h.2).1;omega
theorem HB(m:rz H ro B C w l V ch ax kb eE rows rb)(f:gX (aH w) lt ch ax rows W)(j:eE.length=w.hs.length)(g:Int):aF 276 [ptr B.n,i64 g] H fun v J=>ak ((∃o,Sl H 1 v (rows g).length ((rows g).map i64) o/\∀b,o=some b->b<H.size/\¬KC ro b)/\J=H):=by
 obtain⟨I,d,_⟩:=m.own;refine aT uh ?_;refine v1 (ae d) ?_;refine(ie m.cells g).mono ?_;rintro _ _ ⟨rfl,rfl⟩;refine vs ?_;by_cases z:w.has g
 ·rw[ajQ z];have a:=m.Ju j z;obtain⟨N,U,Q,q,u,P,F,_,s2⟩:=m.DY a;refine v1 (ae q) ?_;refine⟨O,?_⟩;refine v4 (ae u) ajJ ajM P ?_;refine⟨⟨rb g,s2,fun b y=>?_⟩,rfl⟩;have e:=m.rA g b a.1 a.2 y;refine⟨m.slt b (ei e nofun),fun h=>?_⟩;rcases h with (h| ⟨x,h⟩)|h<;>grind
 ·rw[ajO z];refine vs ?_;have p:rows g=[]:=by
   cases h:rows g with
   |nil=>rfl
   |cons c r=>
    obtain⟨A,_,K,_⟩:=f.rm g c Z;have:=((m.cells.hm c).2 O).1;grind
  rw[p];exact⟨⟨none,Sl.nil _ _,nofun⟩,rfl⟩
theorem gX.root(f:gX (aH w) (aU w) ch ax rows []){y:Int}(c:0<g)(v:aH w y=g):∃r∈rows g,r=y\/aU w r y=true:=by
 obtain⟨r,a,z,m⟩:=f.pr.root (au w) (n:=w.cs.length) (fun x h=>oF x h) _ (ajU _) (x:=y) O;rcases f.xi r O z with h|h
 ·grind
 grind
theorem yK{H:Hp}{S:Nat->Prop}{w:Nw}(h:eD n H S w)(g:Int):aF 269 [ptr n,i64 g] H fun v J=>ak (
  (w.len g=0/\v= .tuple [i64 0,.bool false].toArray/\eD n J S w/\aj S H J)\/(∃x,w.first g x/\v= .tuple [i64 x,.bool true].toArray/\eD n J S w/\aj S H J)):=by
 obtain⟨B,ro,C,l,V,ch,ax,kb,eE,rows,rb,rfl,m,f,N,X⟩:=id h;have uH:=m.cells.zf;refine aT ue ?_;refine vs ?_;refine(HB m f N g).mono ?_;rintro _ J ⟨⟨o,s,hso⟩,e⟩;obtain rfl:=e.symm;obtain⟨va,vc,rfl⟩:=Sl.shape s;refine vs ?_;refine ai.dec (fun h0=>?_) (fun h0=>?_)<;>refine vs ?_
 ·refine .inl ⟨?_,rfl,h,aj.refl _ _⟩;have A:rows g=[]:=akg.1 O;by_cases hg:0<g
  ·rw[ou hg];intro x hx;obtain⟨r,LP,_⟩:=f.root hg hx;grind
  ·exact Nw.E7.2 (.inl O)
 obtain⟨x,R,A⟩:∃x R,rows g=x::R:=akD Z;have q:∀c∈rows g,aH w c=g/\0<g:=fun c p=>by
  cases f;grind
 have MR:=(q x Z).2;rw[A]at s q;have hlr:(rows g).length=(x::R).length:=by rw[A]
 rw[hlr];have ze:(x::R).length=R.length+1:=ajX;have hsB:=s;have ec:=cm (f.rr g).nodup fun c p=>oF (w:=w) c Z;rw[A]at ec;obtain⟨b,lb,c,Th,rfl,qb,qc,_,E5,_⟩:=Sl.QZ s (i:=0) (x:=x) rfl;injection Th with h1 h2 h3;subst h1 h3;have Nv:=ae qb;obtain⟨_,S4,c',U,u,PS,S3,U7⟩:=id s;injection U with _ _ U;subst U;rw[qb]at u;injection u with u;subst u;rw[ajM]at S3 U7;refine⟨O,?_⟩;refine v5 Nv qc Int.toNat_zero aj7 Nat.add_zero ?_;refine⟨O,?_⟩;refine vs ?_;have hgr:=m.Ju N ((m.cells.hm x).2 Z).1;rw[(q x (by simp)).1]at hgr;have hrB:BU H ro H.size (.slice (some ⟨b,0,none⟩) (x::R).length vc) (x::R):=Sl.Xs s hso;obtain⟨I,hv,_,_,_⟩:=O2 s.rd (lo:=1) (hi:=R.length+1) (lo':=1) (hi':=((R.length+1:Nat):Int)) rfl rfl O O O;have hB:BU H ro H.size (.slice I R.length (vc - 1)) R:=by
  rw[show R.length=R.length+1 - 1 by omega,<-hv];exact hrB.tail _
 rw[hv,show((R.length+1:Nat):Int).toNat - Int.toNat 1=R.length by simp,alm];refine bj.intro (fun mm env J=>∃ (j:Nat) (d:Int),mm=R.length - j/\j<=R.length/\CQ J B.c C w/\aj C H J/\d∈x::R.take j/\(∀c∈x::R.take j,c≠d->aU w d c=true)/\
  env=[(0,ptr B.n),(7,i64 d),(20,.slice I R.length (vc - 1)),(21,i64 R.length),(22,i64 j)]) R.length ⟨0,x,rfl,O,m.cells,aj.refl _ _,by simp,by simp,rfl⟩ ?_
 rintro mm env H1 ⟨j,d,rfl,hj,G,P,F,PV,rfl⟩;have m1:=m.aD G P rfl;obtain⟨MM,o1,_⟩:=m1.own;refine vs ?_;refine ai.dec (fun iC=>?_) (fun iC=>?_)<;>refine vs ?_
 ·have RR:j<R.length:=O;obtain⟨y,K⟩:∃y,R[j]? =some y:=Z;have hB1:=hB.ext P (fun z _ hk p=>hk (.inr (m.hC z p))) (ro':=ro) (fun _ _ h=>h);obtain⟨_,b2,o2,WZ,rfl,u,q3⟩:=bX.num hB1.rd K;refine⟨O,?_⟩;refine v5 u ajM Int.toNat_natCast q3 (ae o1) ?_;refine(cB G y d).mono ?_;rintro _ H2 ⟨rfl,D,M⟩;have hym:y∈x::R:=Z;have hbm:d∈x::R:=by
   rcases akk.1 F with h|h
   ·grind
   ·grind
  have VW:=q y hym;have KJ:=q d hbm;rw[fT (w:=w) (a:=y) (b:=d) O O];have tk:R.take (j+1)=R.take j++[y]:=by rw[aj2,K];rfl
  cases hyb:aU w y d
  ·refine vs ?_;rw[wrap64 (n:=(j:Int)+1) O O];refine⟨R.length - (j+1),O,j+1,d,rfl,O,D,P.trans M,?_,fun c p Q=>?_,rfl⟩
   ·grind
   ·rw[tk,<-akI]at p;rcases aj4.1 p with p|p
    ·grind
    ·rw[aj6.1 p]at Q ⊢;exact(by grind [aU,Nw.key,Nw.seq])
  ·refine vs ?_;rw[wrap64 (n:=(j:Int)+1) O O];refine⟨R.length - (j+1),O,j+1,y,rfl,O,D,P.trans M,?_,fun c p Q=>?_,rfl⟩
   ·grind
   ·rw[tk,<-akI]at p;rcases aj4.1 p with p|p
    ·by_cases e:c=d
     ·grind
     ·exact(by grind [aU,Nw.key,Nw.seq])
    grind
 ·obtain rfl:j=R.length:=O;rw[aj8]at F PV;refine .inr ⟨d,?_,rfl,⟨B,ro,C,l,V,ch,ax,kb,eE,rows,rb,rfl,m1,f,N,X⟩,P.mono fun z _ hz=>(X z).2 (ei (m.hC z hz) nofun)⟩;rw[bi];refine⟨MR,(q d F).1,fun y K Q=>?_⟩;obtain⟨r,Zh,LP⟩:=f.root MR K;rw[A]at Zh;by_cases e:r=d
  ·grind
  ·have h5:=PV r Zh e;rcases LP with E|E
   ·grind
   ·exact(au w).tr _ _ _ h5 E
end
end
section
variable{x g:Int}{n:Nat}
section
variable {H J : Hp} {ro ro' : Nat → Rl} {B : Vr} {C T : Nat → Prop} {w w' : Nw} {l l' : List Value} {V V' : Int → Value} {ch iw : Int → List Int} {ax dt : Int → Int} {kb vC : Int → Option Nat} {eE : List Value} {rows : Int → List Int} {rb : Int → Option Nat} {lt : Int → Int → Bool} {W W0 L : List Int}
theorem BW{H:Hp}{S:Nat->Prop}{w:Nw}(h:eD n H S w)(g x k s:Int):aF 266 [ptr n,i64 g,i64 x,mE k s] H fun v J=>ak (
  (¬w.kC g x/\v= .bool false/\br (eD n) S H J w)\/(w.kC g x/\v= .bool true/\br (eD n) S H J (w.put x (g,k,s)))):=by
 obtain⟨B,ro,C,l,V,ch,ax,kb,eE,rows,rb,rfl,m,f,q,K⟩:=h;have hC:∀z,C z->S z:=fun z h=>(K z).2 (ei (m.hC z h) nofun);refine aT pk ?_;refine vs ?_;have u:af H (H.new 190 [i64 k,u64 s]):=bD;have b0:(H.new 190 [i64 k,u64 s]).own H.size=some [i64 k,u64 s]:=am _ _ _;have d:=m.fresh u;generalize H.new 190 [i64 k,u64 s]=H0 at*;have A:aj S H H0:=u.mono fun _ _ h=>h.elim;obtain⟨tv,Hk,_⟩:=d.own;refine v2 (ae Hk) (ae b0) ?_;refine(j2 d.cells g x k s).mono ?_;rintro _ c (⟨mT,rfl,p,e⟩| ⟨Q,rfl,p,e⟩)
 ·refine vs ?_;exact .inl ⟨mT,rfl,br.same ⟨B,ro,C,l,V,ch,ax,kb,eE,rows,rb,rfl,d.aD p e rfl,f,q,K⟩ (A.trans (e.mono Z))⟩
 obtain⟨F,N,mA⟩:=id Q;have U:=d.aD p e (by simp[Nw.put]);have hg:=F.1;have xh:=m.Ju q F;have ke:=fun y=>dW N (g,k,s) y;have kh:aH w x<=0:=Int.not_lt.1 fun h=>mA (bg.1 h);have E:∀a b,0<aH w a->0<aH w b->a≠x->b≠x->aU (w.put x (g,k,s)) a b=aU w a b:=fun a b ha r wS Ac=>dC N _ ha r wS Ac;obtain⟨X,_⟩:=f.put (hm':=aH (w.put x (g,k,s))) (lt':=aU (w.put x (g,k,s))) (g:=g) rfl kh O O Z Z E;refine vs ?_;have P:af c (c.new 3 [i64 x]):=bD;have m2:=U.fresh P;have s2:Sl (c.new 3 [i64 x]) 1 (.slice (some ⟨c.size,0,none⟩) 1 1) [x].length ([x].map i64) (some c.size):=Sl.bJ (size:=1) (n:=1) (xs:=[i64 x]) rfl rfl;have z2:(c.new 3 [i64 x]).size=c.size+1:=ag _ _ _;have Sa:BU (c.new 3 [i64 x]) ro (c.new 3 [i64 x]).size (.slice (some ⟨c.size,0,none⟩) 1 1) [x]:=Sl.Xs s2 fun b r=>by
  injection r with r;subst r;refine⟨O,fun j=>?_⟩;have:=U.hz c.size (ajU _);rcases j with (j| ⟨x,j⟩)|j<;>grind
 generalize c.new 3 [i64 x]=H2 at*;refine(yJ m2 Sa (fun _ _ h=>h) (W0:=[]) X (List.pairwise_singleton _ _) Z xh).mono ?_;rintro _ H3 ⟨I,l3,G,D,Ap,R7,abE,vE,rb3,m3,f3,OA,_,Xj,M⟩;refine vs ?_;have o:aj S H H2:=(A.trans (e.mono fun z _ h=>hC z h)).trans (P.mono fun _ _ h=>h.elim);have z1:=o.size;refine .inr ⟨Q,rfl,dM I,⟨B,I,C,l3,G,D,Ap,R7,abE,vE,rb3,rfl,m3,f3,by rw[OA,q];rfl,fun z=>Iff.rfl⟩,o.trans (M.mono Z),fun z hz=>?_⟩;grind
theorem gX.Q2{hm:Int->Int}(f:gX hm lt ch ax rows W)(x:Int):B9 ch (ch x):=by
 unfold B9;rw[List.pairwise_iff_getElem];intro i j hi z h;rw[f.dg x i _ Z,f.dg x j _ Z];exact h
theorem gX.Q3{hm:Int->Int}(f:gX hm lt ch ax rows [])(v:x∈rows g):gX hm lt ch ax (aA rows g ((rows g).filter fun y=> !decide (x=y))) [x]:=by
 have z:=(f.rr g).nodup;have a:(rows g++[]).Perm (((rows g).filter fun y=> !decide (x=y))++[x]):=by
  rw[ake];refine(List.perm_ext_iff_of_nodup z ?_).2 fun y=>?_
  ·grind
  ·grind
 have h:=((f.loose g).perm a).row (g:=g) (by unfold aA;grind) ((f.rr g).sub List.filter_sublist) (fun c m=>(f.rm g c Z).1);rwa[cP]at h
theorem BX{H:Hp}{h:Nat}(z:H.own h=some [i64 x])(y:Int):aF 281 [i64 y,ptr h] H fun v J=>ak (v= .bool (decide (x=y))/\J=H):=by
 refine tE mixed (an:=pt) (by conv=>lhs;cbv) (nt:=7) Y (by simp) ?_;refine v1 (ae z) ?_;exact⟨rfl,rfl⟩
theorem vF(m:rz H ro B C w l V ch ax kb eE rows rb)(iC:∀a b,aU w a b=true->lt a b=true)(f:gX (aH w) lt ch ax rows [])(JQ:x∈rows g)(o:0<=g/\g<eE.length)(Xt:∀a b,0<aH w a->0<aH w b->a≠x->b≠x->lt a b=true->aU (w.put x (0,0,0)) a b=true):
  aF 274 [ptr B.n,i64 g,i64 x] H fun v J=>ak (v= .bool true/\∃ro' l' V' iw dt vC Pd Sb rb',rz J ro' B C (w.put x (0,0,0)) l' V' iw dt vC Pd Sb rb'/\gX (aH (w.put x (0,0,0))) (aU (w.put x (0,0,0))) iw dt Sb []/\Pd.length=eE.length/\
   (∀z,dM ro' z->dM ro z\/H.size<=z)/\aj (dM ro) H J):=by
 obtain⟨Vj,MX,MR,_⟩:=f.rm g x JQ;have kh:=oF (w:=w) x O;have uH:=m.cells.zf;have ec:=cm (f.rr g).nodup fun c r=>oF (w:=w) c (by have:=f.rm g c r;omega);refine uS sf ⟨rfl,?_⟩;refine v1 jS.eq_1 ?_;have f0:af H (H.new 3 [i64 x]):=bD;have b0:(H.new 3 [i64 x]).own H.size=some [i64 x]:=am _ _ _;have z0:(H.new 3 [i64 x]).size=H.size+1:=ag _ _ _;have m0:=m.fresh f0;generalize H.new 3 [i64 x]=H0 at*;obtain⟨lb,tc,sv,u,q1,q2,E5,_,s2⟩:=m0.DY o;obtain⟨va,vc,rfl⟩:=Sl.shape s2;refine cZ.intro (fun J=>J.own B.n=some [ptr B.c,ptr B.fb,.slice (some ⟨B.rp,0,none⟩) eE.length tc]) u ?_;refine vs ?_;refine bG.intro (.slice (some ⟨B.rp,0,none⟩) eE.length tc) (fun J hI=>by refine v1 (ae hI) ?_;trivial) ?_;refine v1 (ae u) ?_;refine And.intro u ?_;refine vs ?_;refine⟨O,?_⟩;refine v4 (ae q1) ajJ ajM q2 ?_;refine And.intro u ?_;refine vs ?_;have Xu:∀b,rb g=some b->ro b= .row g:=fun b P=>m.rA g b o.1 o.2 P;refine(zZ s2 281 [ptr H.size] (fun y=>decide (x=y)) Y (fun J e' y=>BX (e'.own b0 (fun hh=>by have:=m.slt _ (ei (Xu _ hh) nofun);omega)) y) O).mono ?_;rintro _ H1 ⟨s3,F⟩;obtain⟨va',vc',rfl⟩:=Sl.shape s3;have Xv:∀z q,ro z=q->q≠ .row g->¬rb g=some z:=Z;have o2:=F.own u (Xv _ _ m.rn nofun);have q3:=F.own q1 (Xv _ _ m.rr nofun);refine And.intro o2 ?_;refine vs ?_;refine⟨O,?_⟩;refine v3 q3 ajJ ajM ?_;refine⟨O,?_⟩;obtain⟨d,N,LP⟩:=m0.Pb o F q3 s3 Z;have Zu:B.n≠B.rp:=fun e=>by cases m;grind
 refine vs ?_;refine And.intro o2 ?_;have Xw:¬dM ro H.size:=fun h=>by have:=m.slt _ h;omega
 have X:=N.own b0 Xw;have z2:=N.size;have f2:=f.Q3 JQ;generalize H1.wr B.rp (lb.set g.toNat (Value.slice va' ((rows g).filter fun y=> !decide (x=y)).length vc'))=H2 at*;obtain⟨K,abF⟩:∃K:Nat->Rl,K=fun z=>if rb g=some z then Rl.row g else ro z:=⟨_,rfl⟩
 rw[<-abF]at d LP;have G:∀z,dM K z->dM ro z:=fun z j=>(LP z j).elim id fun h=>ei (Xu z h) nofun;obtain⟨ML,o3,_⟩:=d.own;refine v2 (ae o3) (ae X) ?_;have MU:(ch x).length<=w.cs.length:=cm (f.pr.nd x) fun c r=>m.fo.Ex x c r;refine(At d.fo d.hz kh MX O).mono ?_;rintro sv E ⟨D,l3,V3,R7,Zd,fo3,r3,SN,p,M,yc⟩;have z3:=p.size;have m3:=d.Pa fo3 (d.cells.ext p (fun z j I=>by
  have:=d.hC z j;rcases I with I| ⟨_,I⟩<;>grind)) r3 SN (p.mono fun z _ h=>.inl h)
 have f3:=f2.split.perm (show(x::(ch x++[])).Perm (ch x++[x]) by
  rw[ake];exact akL (l₁:=[x]) (l₂:=ch x))
 have RS:x∉ch x:=fun h=>by have:=f.less h;omega
 have Sa:BU E D E.size sv (ch x):=Sl.Xs M fun b P=>by
  rw[P]at M;refine⟨Sl.lt M,fun r=>?_⟩;have:=(yc b P).2;rcases r with (r| ⟨x,r⟩)|r<;>grind
 have abG:0<=g/\g< ((eE.set g.toNat (Value.slice va' ((rows g).filter fun y=> !decide (x=y)).length vc')).length:Int):=by rw[ajN];exact o
 refine(yJ m3 Sa iC f3 ((f.Q2 x).frame (by grind [aA])) (fun c r=>by
  have:=(f.pr.dn x c r).2.2.1;omega) abG).mono ?_
 rintro _ H4 ⟨Zw,l4,V4,QY,DW,kb4,TL,Pe,rb4,A,f4,Vn,w4,hr4,Q⟩;have agT:∀z,dM D z->dM ro z\/H.size+1<=z:=fun z j=>by
  by_cases YE:z<H2.size
  ·refine .inl (G z fun h=>j ?_);exact r3.none YE h
  omega
 have SO:¬dM D H.size:=Z;have abJ:¬KB K H.size:=fun h=>Xw (G _ (by rcases h with h| ⟨_,h⟩<;>exact ei h nofun));have b4:=Q.own (p.own X abJ) SO;obtain⟨Va,o5,_⟩:=A.own;refine v2 (ae o5) (ae b4) ?_;refine(bZ A.cells x).mono ?_;have mA:cz w.cs x:=bg.1 O;rintro _ H5 (⟨mT,_,_⟩| ⟨_,rfl,c5,U⟩)
 ·exact absurd mA mT
 have m5:=A.aD c5 U (by simp[Nw.put]);refine vs ?_;have ke:=fun y=>dW (w:=w) kh (0,0,0) y;have f5:=f4.drop (hm':=aH (w.put x (0,0,0))) (lt':=aU (w.put x (0,0,0))) (by
  rw[w4 x (by simp)];unfold aA;grind) rfl Z Z Xt
 have z4:=Q.size;have abK:∀z,dM Zw z->dM ro z\/H.size+1<=z:=Z;refine⟨rfl,Zw,l4,V4,QY,DW,kb4,TL,Pe,rb4,m5,f5,Z,fun z j=>?_,?_⟩
 ·grind
 ·refine⟨by have:=U.size;omega,fun z j hn=>?_⟩;rw[U.be z O (fun h=>by
   rcases abK z (ei (A.hC z h) nofun)with h|h
   ·grind
   ·omega),Q.be z O Z,p.be z O (fun h=>hn (G z (by rcases h with h| ⟨_,h⟩<;>exact ei h nofun))),N.be z O (fun h=>hn h),f0.be z j (fun h=>h)]
theorem Ax{H:Hp}{S:Nat->Prop}{w:Nw}(h:eD n H S w)(g:Int):aF 265 [ptr n,i64 g] H fun v J=>ak (
  (w.len g=0/\v= .tuple [i64 0,.bool false].toArray/\br (eD n) S H J w)\/(∃x,w.first g x/\v= .tuple [i64 x,.bool true].toArray/\br (eD n) S H J (w.put x (0,0,0)))):=by
 refine aT nW ?_;refine vs ?_;refine(yK h g).mono ?_;rintro _ H1 (⟨N,rfl,y,c⟩| ⟨x,q,rfl,y,c⟩)
 ·refine vs ?_;exact .inl ⟨N,rfl,br.same y c⟩
 refine vs ?_;obtain⟨B,ro,C,l,V,ch,ax,kb,eE,rows,rb,rfl,m,f,d,hS⟩:=y;obtain⟨U,o,D⟩:=bi.1 q;have M:x∈rows g:=by
  obtain⟨r,G,p⟩:=f.root U o;rcases p with h|h
  ·grind
  ·by_cases e:r=x
   ·grind
   ·have Q:=D r (f.rm g r G).1 e;rw[(au w).vH Q]at h;cases h
 have kh:=oF (w:=w) x O;have j:=m.Ju d ((m.cells.hm x).2 O).1;rw[o]at j;refine(vF m (fun _ _ h=>h) f M j (fun a b ha hb wS Ac h=>by grind [dC])).mono ?_;rintro _ H2 ⟨rfl,u,l2,P,A,gD,E,TM,Xx,rb2,X,F,I,p,K⟩;refine vs ?_;have z1:=c.size;refine .inr ⟨x,q,rfl,dM u,⟨B,u,C,l2,P,A,gD,E,TM,Xx,rb2,rfl,X,F,by rw[I,d];rfl,fun z=>Iff.rfl⟩,c.trans (K.mono Z),fun z hz=>?_⟩;grind
end
end
section
variable {H J : Hp} {ro ro' : Nat → Rl} {B : Vr} {C T : Nat → Prop} {w w' : Nw} {l l' : List Value} {V V' : Int → Value} {ch iw : Int → List Int} {ax dt : Int → Int} {kb vC : Int → Option Nat} {eE : List Value} {rows : Int → List Int} {rb : Int → Option Nat} {lt : Int → Int → Bool} {W W0 L : List Int}
theorem rz.Xy(m:rz H ro B C w l V ch ax kb eE rows rb){g:Int}(N:0<=g/\g<eE.length){v:Hp}(e:aj (fun z=>rb g=some z) H v){j:Value}(f:eE[g.toNat]? =some j){L':List Int}(s:Sl v 1 j L'.length (L'.map i64) (rb g)):
  rz v ro B C w l V ch ax kb eE (aA rows g L') rb:=by
 obtain⟨K,a,y⟩:=m.own;have Q:=e.size;have r:∀z q,ro z=q->q≠ .row g->¬rb g=some z:=fun z q a y F=>y (by cases m;grind);refine⟨⟨K,e.own a (r _ _ m.rn nofun),y.ext e (fun b p=>by cases m;grind)⟩,fun k d a=>?_,m.cells.ext e (fun z c=>r z _ (m.hC z c) nofun),m.fo.ext e (fun z c=>by rcases c with h|h| ⟨x,h⟩<;>grind),m.hC,m.rn,m.rr,m.rA,fun z c=>m.hz z O⟩;by_cases o:k=g
 ·subst o;refine⟨j,f,?_⟩;unfold aA;grind
 ·obtain⟨A,u,P⟩:=m.row k d a;refine⟨A,u,?_⟩;unfold aA;rw[if_neg o];exact P.ext e (fun b p=>r b _ (m.rA k b d a p) Z)
theorem vG(m:rz H ro B C w l V ch ax kb eE rows rb){x g:Int}(f:HT (aH w) (aU w) ch ax rows [] x)(Vj:aH w x=g)(MR:0<g)(U:0<=g/\g<eE.length)(Zx:FuncId)(TN:List Value)(q:Int->Bool)(ajH:Hp->Prop)(E:(Int->List Int)->Prop)(hJ:ajH H)
  (RX:∀J G,ajH J->aj (fun z=>dM ro z/\z≠B.n) J G->ajH G)(abL:eR Tryz.prog Zx=true)
  (hq:∀J p,ajH J->CQ J B.c C w->0<aH w p->aF Zx (i64 p::TN) J fun v G=>ak (v= .bool (q p)/\CQ G B.c C w/\aj C J G))(hE:E ch)
  (hEs:∀ (ch:Int->List Int) (ax:Int->Int) (rows:Int->List Int) p,HT (aH w) (aU w) ch ax rows [] x->x∈ch p->q p=true->E ch->E (Cn ch x p)):
  aF 271 [ptr B.n,i64 g,i64 x,.func (.func Zx) #[] TN.toArray] H fun v J=>ak (∃ro' l' V' iw dt vC r,rz J ro' B C w l' V' iw dt vC eE r rb/\HT (aH w) (aU w) iw dt r [] x/\E iw/\(dt x= -1\/q (dt x)=false)/\
   (∀z,dM ro' z->dM ro z)/\aj (dM ro) H J):=by
 have ls:=au w;have kh:=oF (w:=w) x O;have uH:=m.cells.zf;refine aT se ?_;refine vs ?_;refine bj.intro (fun mm env J=>∃ (ro':Nat->Rl) (l':List Value) (V':Int->Value) (iw:Int->List Int) (dt:Int->Int) (vC:Int->Option Nat) (r:Int->List Int),mm=w.cs.length - (iw x).length/\rz J ro' B C w l' V' iw dt vC eE r rb/\HT (aH w) (aU w) iw dt r [] x/\E iw/\ajH J/\
  (∀z,dM ro' z->dM ro z)/\aj (dM ro) H J/\env=[(0,ptr B.n),(1,i64 g),(2,i64 x),(3,.func (.func Zx) #[] TN.toArray)]) _ ⟨ro,l,V,ch,ax,kb,rows,rfl,m,f,hE,hJ,fun _ h=>h,aj.refl _ _,rfl⟩ ?_
 clear m f hE hJ;rintro mm env H1 ⟨ro1,l1,V1,A,N,kb1,y,rfl,u,a,hE1,hJ1,o,e1,rfl⟩;obtain⟨MM,o1,_⟩:=u.own;refine v1 (ae o1) ?_;refine(nF u.fo.t kh).mono ?_;rintro _ J ⟨⟨X,rfl⟩| ⟨X,rfl⟩,e⟩
 ·obtain rfl:=e.symm;refine vs ?_;exact⟨ro1,l1,V1,A,N,kb1,y,u,a,hE1,.inl X,o,e1⟩
 obtain rfl:=e.symm;obtain⟨p,hpd⟩:∃p,p=N x:=⟨_,rfl⟩;rw[<-hpd]at X ⊢;have MX:=a.w.pr.up x p hpd.symm X;obtain⟨_,_,hpg,hp1,_⟩:=a.w.pr.dn p x MX;have mi:=a.w.less MX;have WM:=oF (w:=w) p O;have ec:∀z,(A z).length<=w.cs.length:=fun z=>cm (a.w.pr.nd z) fun c hc=>u.fo.Ex z c hc;refine vs ?_;refine⟨abL,?_⟩;refine ee.mono (by simpa using hq H1 p hJ1 u.cells O) ?_;rintro _ H2 ⟨rfl,c2,e2⟩;have F:=u.aD c2 e2 rfl;have e2':aj (dM ro) H1 H2:=e2.mono fun z _ h=>o z (ei (u.hC z h) nofun);have hJ2:=RX _ _ hJ1 (e2.mono fun z _ h=>⟨o z (ei (u.hC z h) nofun),fun e=>by cases u;grind⟩);have zg:=e1.trans e2';cases hqp:q p
 ·refine vs ?_;exact⟨ro1,l1,V1,A,N,kb1,y,F,a,hE1,Z,o,zg⟩
 obtain⟨ML,o2,_⟩:=F.own;refine v1 (ae o2) ?_;refine(nF F.fo.t WM).mono ?_;have TO:∀h,x∉y h:=fun h d=>X (by rw[hpd];exact(a.w.rm h x d).2.1);have R2:N p≠ -1->0<=N p/\N p<w.cs.length:=fun h=>by
  have:=(a.w.pr.dn _ _ (a.w.pr.up p _ rfl h)).2.2;exact oF (w:=w) _ O
 have fin:∀ (Q:Hp) (vE:Int->List Int),rz Q ro1 B C w l1 V1 A N kb1 eE vE rb->(∀h,vE h=(y h).map (gg x p))->ajH Q->aj (dM ro) H Q->∀ (K:Value->Hp->Prop),(∀H4,(∃m',m'<w.cs.length - (A x).length/\∃ (ro':Nat->Rl) (l':List Value) (V':Int->Value) (iw:Int->List Int) (dt:Int->Int) (vC:Int->Option Nat) (r:Int->List Int),m'=w.cs.length - (iw x).length/\rz H4 ro' B C w l' V' iw dt vC eE r rb/\HT (aH w) (aU w) iw dt r [] x/\E iw/\ajH H4/\
  (∀z,dM ro' z->dM ro z)/\aj (dM ro) H H4)->K (.bool true) H4)->aF 279 [ptr B.fb,i64 x] Q K:=fun Q vE P Xz hJ3 D K hK=>by
  refine(BS P.fo P.hz a.w kh WM MX R2 uH).mono ?_;rintro _ H4 ⟨rfl,Zw,l4,V4,kb4,fo4,r4,YY,M,TP⟩;have m4:=P.Pa fo4 (P.cells.ext M (fun z hz hk=>by
   have:=P.hC z hz;rcases hk with hk| ⟨_,hk⟩<;>grind)) r4 YY (M.mono fun z _ h=>.inl h)
  have e4':aj (dM ro) Q H4:=M.mono fun z _ h=>o z (by rcases h with h| ⟨_,h⟩<;>exact ei h nofun);have f4:=a.up ls MX;have TQ:(fun h=>(y h).map (gg x p))=vE:=by funext h;exact(Xz h).symm
  rw[TQ,List.map_nil]at f4;have Vn:(Cn A x p x).length=(A p).length:=by unfold Cn;rw[nN,aka]
  have:=ec p;have agX:=M.size;refine hK H4 ⟨w.cs.length - (Cn A x p x).length,O,Zw,l4,V4,_,_,kb4,vE,rfl,m4,f4,Z,RX _ _ hJ3 (M.mono fun z _ h=>⟨o z (by rcases h with h| ⟨_,h⟩<;>exact ei h nofun),fun e=>by rw[e]at h;rcases h with h| ⟨_,h⟩<;>(rw[P.rn]at h;cases h)⟩),fun z hz=>?_,D.trans e4'⟩;exact o z fun h=>hz (TP z h)
 rintro _ J ⟨⟨Qy,rfl⟩| ⟨Qy,rfl⟩,e⟩
 ·obtain rfl:=e.symm;have hpr:p∈y g:=by
   rcases a.w.xi p O Qy with h|h
   ·grind
   ·cases h
  obtain⟨lb,tc,sv,o3,q1,q2,E5,Th,s3⟩:=F.DY U;obtain⟨I,hk0,ek0⟩:=ak3.1 hpr;obtain⟨b,lr,rc,rfl,R6,qb,qk0,agZ,hrl,_⟩:=Sl.QZ s3 (i:=I) (x:=p) Z;have hlr:=cm (a.w.rr g).nodup fun c hc=>oF (w:=w) c (by have:=a.w.rm g c hc;omega);refine v1 (ae o3) ?_;refine⟨O,?_⟩;refine v5 (ae q1) ajJ ajM q2 (ae o3) ?_;refine⟨O,?_⟩;refine v4 (ae q1) ajJ ajM q2 ?_;have eU:=(a.w.rr g).nodup;have XA:(y g)[I]? =some p:=Z;refine⟨i64 (I:Int),(fK s3.rd p O).mono ?_,?_⟩
  ·rintro _ J ⟨⟨j,rfl,hj⟩,e⟩;obtain⟨hj0,hj⟩:=hj.resolve_left (fun h=>h.2 hpr);have hjl:=(ajK.1 hj).1;have:=(List.getElem?_inj hjl eU).1 (hj.trans XA.symm);grind
  refine vs ?_;refine⟨O,?_⟩;refine v4 qb ajJ ajM Int.toNat_natCast ?_;refine⟨O,?_⟩;rw[R6]at s3;have s4:=s3.nQ qb I (i64 x);have D:aj (fun z=>rb g=some z) H2 (H2.wr b (lr.set I (i64 x))):=(aj.refl (fun z=>rb g=some z) _).wr (fun _=>R6) _;have O1:(y g).map (gg p x)=(y g).map (gg x p):=akG (by grind [gg]);rw[<-akd,Hx eU (TO g) XA,O1]at s4;have hlm:((y g).map (gg x p)).length=(y g).length:=aka ..
  have P:=F.Xy U D Th (L':=(y g).map (gg x p)) Z;have YW:aj (dM ro) H2 (H2.wr b (lr.set I (i64 x))):=D.mono fun z _ h=>o z (ei (F.rA g z U.1 U.2 h) nofun);obtain⟨SU,o4,_⟩:=P.own;refine v1 (ae o4) ?_;refine fin _ _ P (fun h=>?_) (RX _ _ hJ2 (D.mono fun z _ h=>⟨o z (ei (F.rA g z U.1 U.2 h) nofun),Z⟩)) (zg.trans YW) _ fun H4 d=>?_
  ·unfold aA;split
   ·grind
   ·rename_i e;exact(xn (TO h) (fun d=>e (by rw[<- (a.w.rm h p d).1,hpg,Vj]))).symm
  obtain⟨m',hm',ro',l',V',iw,dt,vC,r,h1,h2,h3,h4,h5,h6,h7⟩:=d;refine vs ?_;grind
 ·obtain rfl:=e.symm;have abP:∀h,p∉y h:=fun h d=>Qy (a.w.rm h p d).2.1;refine v1 (ae o2) ?_;refine fin H2 y F (fun h=>(xn (TO h) (abP h)).symm) hJ2 zg _ fun H4 d=>?_;obtain⟨m',hm',ro',l',V',iw,dt,vC,r,h1,h2,h3,h4,h5,h6,h7⟩:=d;refine vs ?_;grind
end
section
variable{H:Hp}{kd dd x:Int}
theorem uN{C:Nat->Prop}{w:Nw}{h z n c:Nat}{rest:List Value}(y:H.own h=some [ptr n])(r:H.own z=some [i64 x])(j:H.own n=some (ptr c::rest))(e:CQ H c C w){p:Int}(q:0<aH w x)(d:0<aH w p):
  aF 272 [i64 p,ptr h,ptr z] H fun v J=>ak (v= .bool (aU w x p)/\CQ J c C w/\aj C H J):=by
 refine tE mixed (an:=lJ) (by conv=>lhs;cbv) (nt:=12) Y (by simp) ?_;refine v3 (ae y) (ae r) (ae j) ?_;refine(cB e x p).mono ?_;rintro _ o ⟨rfl,m,g⟩;rw[fT (w:=w) (a:=x) (b:=p) q d];refine vs ?_;exact⟨rfl,m,g⟩
theorem yL{n:Nat}{S:Nat->Prop}{w:Nw}(h:eD n H S w)(x k s:Int):aF 263 [ptr n,i64 x,mE k s] H fun v J=>ak (
  (¬w.dD x k s/\v= .bool false/\br (eD n) S H J w)\/(w.dD x k s/\v= .bool true/\∃y,w.cs[x.toNat]? =some y/\br (eD n) S H J (w.put x (y.1,k,s)))):=by
 obtain⟨B,ro,C,l,V,ch,ax,kb,eE,rows,rb,rfl,m,f,hl,P⟩:=h;have hC:∀z,C z->S z:=fun z h=>(P z).2 (ei (m.hC z h) nofun);have hSR:∀z,S z->z<H.size:=fun z hz=>m.slt z ((P z).1 hz);refine aT ny ?_;refine vs ?_;have f0:af H (((H.new 148 [ptr B.n]).new 3 [i64 x]).new 190 [i64 k,u64 s]):=(bD.new _ _).new _ _;have E:(((H.new 148 [ptr B.n]).new 3 [i64 x]).new 190 [i64 k,u64 s]).own H.size=some [ptr B.n]:=by
  grind [ay,ag,am]
 have b4:(((H.new 148 [ptr B.n]).new 3 [i64 x]).new 190 [i64 k,u64 s]).own (H.size+1)=some [i64 x]:=by
  rw[ay (by simp only[ag];omega)];exact az (by simp only[ag])
 have b5:(((H.new 148 [ptr B.n]).new 3 [i64 x]).new 190 [i64 k,u64 s]).own (H.size+1+1)=some [i64 k,u64 s]:=az (by simp only[ag]);have q:=m.fresh f0;generalize ((H.new 148 [ptr B.n]).new 3 [i64 x]).new 190 [i64 k,u64 s]=H0 at*;have ff:aj S H H0:=f0.mono fun _ _ h=>h.elim;obtain⟨tv,Hk,_⟩:=q.own;refine v4 (ae E) (ae b4) (ae Hk) (ae b5) ?_;refine(gH q.cells x k s).mono ?_;rintro _ H1 (⟨F,rfl,c1,c⟩| ⟨r,rfl,y,U,mi,c1,c⟩)
 ·refine vs ?_;exact .inl ⟨F,rfl,br.same ⟨B,ro,C,l,V,ch,ax,kb,eE,rows,rb,rfl,q.ext c (fun _ _ h=>h),f,hl,P⟩ (ff.trans (c.mono fun _ _ h=>h.elim))⟩
 have tJ:(w.put x (y.1,k,s)).cs.length=w.cs.length:=by simp[Nw.put]
 have D:=q.aD c1 c tJ;have yp:w.dD x k s:=⟨r,Z⟩;have hx:0<=x/\x<w.cs.length:=⟨r.1,Z⟩;have Y3:aH w x=y.1:=iO r.1 U;have FO:=bg.2 r;have Q:aH (w.put x (y.1,k,s))=aH w:=by
  funext z;rw[dW hx];split
  ·grind
  ·rfl
 have Hl:cz (w.put x (y.1,k,s)).cs x:=bg.1 (by simp_all);have el:∀a b,0<aH w a->0<aH w b->a≠x->b≠x->aU (w.put x (y.1,k,s)) a b=aU w a b:=fun a b ha A wS K=>dC hx _ ha A wS K;have ex:∀b,0<aH w b->b≠x->aU w x b=true->aU (w.put x (y.1,k,s)) x b=true:=fun b A K h=>yf r U mi A K h;have ls:=au w;have ls':=au (w.put x (y.1,k,s));have nC:∀z,H.size<=z->¬C z:=Z;have X:=c.own E Z;have b41:=c.own b4 (nC _ O);obtain⟨MM,o1,_⟩:=D.own;have hgr:=m.Ju hl ((m.cells.hm x).2 FO).1;have hhl:(w.put x (y.1,k,s)).hs.length=w.hs.length:=by simp[Nw.put]
 refine v3 (ae X) (ae b41) (ae o1) ?_;refine(bF D.cells x).mono ?_;rintro _ H2 (⟨F,_,_⟩| ⟨_,rfl,c2,j⟩)
 ·exact absurd Hl F
 have m2:=D.aD c2 j rfl;have zg:aj S H H2:=(ff.trans (c.mono fun z _ h=>hC z h)).trans (j.mono fun z _ h=>hC z h);have b32:=j.own X Z;have b42:=j.own b41 (nC _ O);rw[Q];refine v2 (ae b32) (ae b42) ?_;have f2:HT (aH (w.put x (y.1,k,s))) (aU (w.put x (y.1,k,s))) ch ax rows [] x:=by
  rw[Q];exact HT.start ls f el
 have hE0:∀d∈ch x,aU (w.put x (y.1,k,s)) x d=true:=fun d hd=>by
  obtain⟨_,_,_,h4,h5⟩:=f.pr.dn x d hd;exact ex d h4 (fun e=>by have:=f.less hd;grind) h5
 have hsR:∀z,dM ro z->z<H.size:=m.slt;refine(vG m2 f2 (g:=aH w x) (by rw[Q]) FO hgr 272 [ptr H.size,ptr (H.size+1)] (fun p=>aU (w.put x (y.1,k,s)) x p) (fun J=>J.own H.size=some [ptr B.n]/\J.own (H.size+1)=some [i64 x]/\∃tv,J.own B.n=some [ptr B.c,ptr B.fb,tv])
  (fun ch=>∀d∈ch x,aU (w.put x (y.1,k,s)) x d=true) ?_ (fun J H'' u e=>?_) Y (fun J p u cq N=>?_) hE0 (fun ch ax rows p cx MX hq _=>cx.low ls' MX hq)).mono ?_
 ·cases m2;grind
 ·obtain⟨I,G,ML,M⟩:=u;exact⟨e.own I Z,e.own G Z,ML,e.own M (fun h=>h.2 rfl)⟩
 ·obtain⟨I,G,ML,M⟩:=u;exact uN I G M cq (by simp_all) N
 rintro _ H3 ⟨TK,l3,V3,Zq,Ap,R7,vE,m3,o,hE3,hq3,Xj,e3⟩;refine vs ?_;have f4:=o.done hE3 (fun N=>by
  rcases hq3 with h|h
  ·omega
  ·have hxc:=o.w.pr.up x _ rfl N;have abQ:=o.w.less hxc;cases ls';grind)
 have z2:=zg.size;refine .inr ⟨yp,rfl,y,U,dM TK,⟨B,TK,C,l3,V3,Zq,Ap,R7,eE,vE,rb,rfl,m3,f4,O,fun z=>Iff.rfl⟩,zg.trans (e3.mono Z),Z⟩
theorem HC(cap:Int)(H:Hp):aF 77 [i64 cap] H fun v J=>ak (
  af H J/\((¬ (0<=cap/\cap<=65536)/\v= .tuple [.pointer none,i64 31].toArray)\/
   ((0<=cap/\cap<=65536)/\∃n S,v= .tuple [ptr n,i64 0].toArray/\eD n J S (jD cap)/\∀x,S x->H.size<=x))):=by
 refine aT CT ?_;refine vs ?_;refine(j4 cap H).mono ?_;rintro _ u ⟨r,⟨e,rfl⟩| ⟨e,c,C,rfl,f,X⟩⟩
 ·refine vs ?_;exact⟨r,.inl ⟨e,rfl⟩⟩
 refine vs ?_;refine(DX u e).mono ?_;rintro _ a ⟨m,tb,l,rfl,o,j,hfb,htb⟩;have P:=f.fresh j;refine vs ?_;have U8:=f.slt;have z1:=r.size;have z2:=j.size;have Z8:=o.Ox;have nj:=o.ne;have d:af a ((a.new 140 [.slice none 0 0]).new 216 [ptr c,ptr m,.slice (some ⟨a.size,0,none⟩) 1 1]):=bD.new _ _;have A:aj (fun _=>False) (a.new 140 [.slice none 0 0]) ((a.new 140 [.slice none 0 0]).new 216 [ptr c,ptr m,.slice (some ⟨a.size,0,none⟩) 1 1]):=bD;have z3:((a.new 140 [.slice none 0 0]).new 216 [ptr c,ptr m,.slice (some ⟨a.size,0,none⟩) 1 1]).size=a.size+1+1:=by simp only[ag]
 obtain⟨ro,y⟩:∃ro:Nat->Rl,ro=fun z=>if z=a.size+1 then Rl.Ow else if z=a.size then Rl.Je else if z=m then Rl.Ds else if z=tb then Rl.table else @ite _ (C z) (Classical.propDecidable _) Rl.cell Rl.no:=⟨_,rfl⟩
 have U:ro (a.size+1)= .Ow:=by rw[y];simp
 have I:ro a.size= .Je:=by rw[y];simp
 have G:ro m= .Ds:=by rw[y];show(if m=a.size+1 then _ else _)=_;grind
 have D:ro tb= .table:=by rw[y];show(if tb=a.size+1 then _ else _)=_;grind
 have M:∀z,C z->ro z= .cell:=Z;have E:∀z,ro z≠ .no->H.size<=z/\z<a.size+1+1:=fun z q=>by
  constructor<;>grind
 have N:(jD cap).cs.length=cap.toNat:=by simp[jD]
 refine⟨(r.trans j).trans d,.inr ⟨e,a.size+1,dM ro,rfl,⟨⟨a.size+1,c,m,tb,a.size⟩,ro,C,l,fun _=>.slice none 0 0,fun _=>[],fun _=> -1,fun _=>none,[.slice none 0 0],fun _=>[],fun _=>none,rfl,⟨⟨.slice (some ⟨a.size,0,none⟩) 1 1,az (by simp only[ag]),?_⟩,fun g K p=>?_,P.fresh d,?_,M,U,I,Z,fun z q=>?_⟩,
  ⟨⟨rfl,Z,O,Z⟩,Z,fun h=>List.Pairwise.nil,Z,ak8,Z,fun c F=>absurd F (iU cap c)⟩,rfl,fun z=>Iff.rfl⟩,fun z q=>(E z q).1⟩⟩
 ·exact(Sl.bJ (size:=1) (n:=1) (xs:=[.slice none 0 0]) rfl rfl).ext A (fun _ _ h=>h)
 ·have p:g<1:=p;have Q:g=0:=O;subst Q;exact⟨.slice none 0 0,rfl,Sl.nil _ _⟩
 ·rw[N];exact⟨o.ext d (fun h=>h) (fun h=>h),fun x K p=>Sl.nil _ _,G,D,Z,Z,fun _ _=>rfl⟩
 grind
theorem yM(H:Hp)(p:Int):aF 273 [i64 p] H fun v J=>ak (v= .bool true/\J=H):=by
 refine tE mixed (an:=nA) (by conv=>lhs;cbv) (nt:=3) Y (by simp) ?_;refine vs ?_;exact⟨rfl,rfl⟩
theorem BY{n:Nat}{S:Nat->Prop}{w:Nw}(h:eD n H S w)(x:Int):aF 264 [ptr n,i64 x] H fun v J=>ak (
  (¬cz w.cs x/\v= .bool false/\br (eD n) S H J w)\/(cz w.cs x/\v= .bool true/\br (eD n) S H J (w.put x (0,0,0)))):=by
 obtain⟨B,ro,C,l,V,ch,ax,kb,eE,rows,rb,rfl,m,f,d,I⟩:=id h;have U:∀z,C z->S z:=fun z h=>(I z).2 (ei (m.hC z h) nofun);obtain⟨tv,o0,_⟩:=m.own;refine aT pj ?_;refine v1 (ae o0) ?_;refine(bF m.cells x).mono ?_;rintro _ H1 (⟨M,rfl,rfl⟩| ⟨j,rfl,u,e⟩)
 ·refine vs ?_;exact .inl ⟨M,rfl,br.same h (aj.refl _ _)⟩
 have m1:=m.aD u e rfl;have ls:=au w;have c:=bg.2 j;obtain⟨kh,Ew,_⟩:=aI c;have r:=m.Ju d ((m.cells.hm x).2 c).1;have K:aj S H H1:=e.mono fun z _ h=>U z h;refine vs ?_;refine(vG m1 (HT.start ls f Z) rfl c r 273 [] (fun _=>true) (fun _=>True) (fun _=>True) trivial Z (by rfl) (fun J p _ A hp=>(yM J p).mono fun v H'' G=>?_) trivial Z).mono ?_
 ·obtain⟨rfl,rfl⟩:=G;exact⟨rfl,A,aj.refl _ _⟩
 rintro _ H3 ⟨TK,l3,V3,Zq,Ap,R7,vE,m3,y,_,hq3,Xj,F⟩;refine vs ?_;have E:Ap x= -1:=Z;refine(vF m3 (fun a b h=>NI h) y.w ((y.w.xi x c E).resolve_right (by simp)) r (fun a b ha hb wS Ac h=>by grind [dC,Co])).mono ?_;rintro _ H4 ⟨rfl,q,l4,o,P,DW,X,TL,Pe,rb4,m4,Q,D,hr4,N⟩;refine vs ?_;have g:aj S H H3:=K.trans (F.mono Z);have z3:=g.size;exact .inr ⟨j,rfl,dM q,⟨B,q,C,l4,o,P,DW,X,TL,Pe,rb4,rfl,m4,Q,by rw[D,d];rfl,fun z=>Iff.rfl⟩,g.trans (N.mono Z),Z⟩
theorem Fx{n:Nat}{S:Nat->Prop}{w:Nw}(h:eD n H S w)(a b:Int):aF 268 [ptr n,i64 a,i64 b] H fun v J=>ak (
  (¬ (w.has a/\w.has b/\a≠b)/\v= .bool false/\br (eD n) S H J w)\/((w.has a/\w.has b/\a≠b)/\v= .bool true/\br (eD n) S H J (w.join a b))):=by
 obtain⟨B,ro,C,l,V,ch,ax,kb,eE,rows,rb,rfl,m,f,d,hS⟩:=id h;have hC:∀z,C z->S z:=fun z h=>(hS z).2 (ei (m.hC z h) nofun);obtain⟨tv,o0,_⟩:=m.own;refine aT rZ ?_;refine v1 (ae o0) ?_;refine(iQ m.cells a b).mono ?_;rintro _ H1 (⟨mT,rfl,rfl⟩| ⟨Q,rfl,D,q⟩)
 ·refine vs ?_;exact .inl ⟨mT,rfl,br.same h (aj.refl _ _)⟩
 have r:=m.aD D q (by simp[Nw.join]);obtain⟨K,j,Fc⟩:=id Q;have har:=m.Ju d K;have y:=m.Ju d j;have hj:=lY (w:=w) (a:=a) (b:=b) (by have:=j.1;omega);have A:=f.vI (hm':=aH (w.join a b)) rfl Fc (by have:=K.1;omega) (by have:=j.1;omega) hj;rw[<-ik w a b]at A;obtain⟨lb,tc,sv,o1,q1,q2,E5,q3,s2⟩:=r.DY y;have u:aj S H H1:=q.mono fun z _ h=>hC z h;refine v1 (ae o1) ?_;refine⟨O,?_⟩;refine v4 (ae q1) ajJ ajM q2 ?_;have Sa:BU H1 ro H1.size sv (rows b):=Sl.Xs s2 (fun z p=>by
  have h5:=r.rA b z y.1 y.2 p;refine⟨r.slt z (ei h5 nofun),fun g=>?_⟩;rcases g with (g| ⟨x,g⟩)|g<;>grind)
 have X:aA rows b [] a=rows a:=by unfold aA;grind
 refine(vD r X Sa (fun _ _ h=>h) A (f.rr b) (fun c g=>by cases f;grind) har).mono ?_;rintro _ H2 ⟨ro2,l2,G,M,gD,EB,TM,out,rb2,U,f2,N,_,LP,E⟩;refine vs ?_;have F:0<=b/\b<TM.length:=by rw[N];exact y
 obtain⟨WZ,tc2,sv2,o2,I,q5,abA,q6,_⟩:=U.DY F;refine v1 (ae o2) ?_;refine⟨O,?_⟩;refine v3 I ajJ ajM ?_;refine⟨O,?_⟩;obtain⟨m3,P,Xj⟩:=U.Pb F (aj.refl _ _) I (L':=[]) (Sl.nil _ _) nofun;refine vs ?_;have z1:=u.size;have hro:∀z,dM ro2 z->S z\/H.size<=z:=Z;refine .inr ⟨Q,rfl,_,⟨B,_,C,l2,G,M,gD,EB,_,_,_,rfl,m3,?_,?_,fun z=>Iff.rfl⟩,?_,fun z p=>?_⟩
 ·have e:aA (aA rows a out) b []=aA (aA rows b []) a out:=by
   funext z;unfold aA;grind
  grind
 ·rw[ajN,N,d];simp[Nw.join]
 ·have o:aj S H H2:=u.trans (E.mono Z);exact⟨akc o.size P.size,fun z p hn=>by
   cases P;cases o;grind⟩
 grind
theorem Fy{n:Nat}{S:Nat->Prop}{w:Nw}(h:eD n H S w):aF 267 [ptr n] H fun v J=>ak (
  (w.hs.length=65537/\v=i64 0/\br (eD n) S H J w)\/(w.hs.length≠65537/\v=i64 w.hs.length/\br (eD n) S H J w.make)):=by
 obtain⟨B,ro,C,l,V,ch,ax,kb,eE,rows,rb,rfl,m,f,hl,I⟩:=id h;obtain⟨tv,ho,JP⟩:=m.own;refine aT rY ?_;refine v1 (ae ho) ?_;refine(iP m.cells).mono ?_;rintro _ P (⟨a,rfl,rfl⟩| ⟨a,rfl,Q,D,A,Y9⟩)
 ·refine vs ?_;exact .inl ⟨a,rfl,br.same h (aj.refl _ _)⟩
 have pV:=m.cells.pos;have hhs:=m.cells.JP;have slt:=m.slt;have Td:=D.slt;have z1:=A.size;have nc:∀z q,ro z=q->q≠ .cell->¬C z:=fun z q a o E=>o (by rw[<-a,m.hC z E]);have o1:=A.own ho (nc _ _ m.rn nofun);refine vs ?_;refine ai.bY Z ?_;refine v1 (ae o1) ?_;have s1:=JP.ext A (fun b y=>by cases m;grind);have U:af P (P.new 140 [.slice none 0 0]):=bD;have zl:(P.new 140 [.slice none 0 0]).size=P.size+1:=ag _ _ _;refine Sl.append (s1.ext U (fun _ _ h=>h)) (Sl.bJ (size:=1) (n:=1) (xs:=[.slice none 0 0]) rfl rfl).rd rfl (fun v hv=>by rw[aj6.1 hv];rfl) O ?_;intro w' H2 LM s2 M yc;have K:aj (fun z=>z=B.rp) P H2:=⟨akc U.size M.size,fun z u hn=>by
  rw[M.be z O Z,U.be z u (fun h=>h)]⟩
 obtain⟨b',rfl,hb'⟩:∃b',LM=some b'/\(b'=B.rp\/P.size<=b'/\b'<H2.size):=by
  grind
 have Zu:B.n≠B.rp:=fun e=>by cases m;grind
 have o2:=K.own o1 Zu;obtain⟨wa,wc,Xh⟩:=Sl.shape s2;subst Xh;refine v1 o2 ?_;have hln:B.n<H.size:=slt _ (ei m.rn nofun);have hlr:B.rp<H.size:=slt _ (ei m.rr nofun);have N:∀v,aj (fun z=>z=B.n) H2 (H2.wr B.n [ptr B.c,ptr B.fb,v]):=fun v=>(aj.refl (fun z=>z=B.n) _).wr (fun _=>rfl) _;obtain⟨j,hro⟩:∃j:Nat->Rl,j=fun z=>if z=b' then Rl.Je else if z<H.size then ro z else @ite _ (Q z) (Classical.propDecidable _) Rl.cell Rl.no:=⟨_,rfl⟩
 have r1:j b'= .Je:=by rw[hro];show(if b'=b' then _ else _)=_;grind
 have G:∀z q,ro z=q->q≠ .no->q≠ .Je->j z=q:=fun z q a o h3=>by
  have u:=slt z (ei a o);cases m;grind
 have r3:∀z,Q z->j z= .cell:=Z;have r4:∀z,dM j z->dM ro z\/H.size<=z:=fun z u=>by
  by_cases JO:z<H.size
  ·refine .inl fun h=>u ?_;cases m;grind
  omega
 have r5:∀z,H2.size<=z->j z= .no:=fun z u=>by
  cases K;grind
 have ag6:∀v,(H2.wr B.n [ptr B.c,ptr B.fb,v]).size=H2.size:=fun v=>bH _ _ _;have abR:∀z q,ro z=q->q≠ .Je->z≠B.rp:=fun z q a o e=>o (by rw[<-a,e,m.rr]);have Qz:∀z q,ro z=q->q≠ .Ow->z≠B.n:=fun z q a o e=>o (by rw[<-a,e,m.rn]);have ag7:b'≠B.n:=O;refine .inr ⟨a,rfl,dM j,⟨⟨B.n,B.c,B.fb,B.tb,b'⟩,j,Q,l,V,ch,ax,kb,eE++[.slice none 0 0],rows,(fun k=>if k< (eE.length:Int)then rb k else none),rfl,⟨⟨_,ah o2,?_⟩,fun g p X=>?_,?_,?_,r3,Z,r1,fun g b p X y=>?_,Z⟩,f,by rw[ajW,hl];simp[Nw.make],fun z=>Iff.rfl⟩,?_,Z⟩
 ·grind [Sl.ext]
 ·rw[ajW,ako]at X;by_cases F:g<eE.length
  ·obtain⟨sv,q1,q2⟩:=m.row g p F;refine⟨sv,Z,?_⟩;rw[if_pos F];exact((q2.ext A (fun b y=>nc b _ (m.rA g b p F y) nofun)).ext K (fun b y=>abR b _ (m.rA g b p F y) nofun)).ext (N _) (fun b y=>Qz b _ (m.rA g b p F y) nofun)
  ·have YZ:g=(eE.length:Int):=O;have hre:rows g=[]:=by
    cases E:rows g with
    |nil=>rfl
    |cons c r=>
     obtain⟨h5,_,h6,_⟩:=f.rm g c Z;cases m;grind [CQ.hm]
   refine⟨.slice none 0 0,Z,?_⟩;grind [Sl.nil]
 ·exact(D.ext K Z).ext (N _) Z
 ·have hft:∀z,(ro z= .Ds\/KB ro z)->(¬C z/\z≠B.rp)/\z≠B.n:=fun z u=>by
   rcases u with h|h| ⟨x,h⟩<;>grind
  have d:=((m.fo.ext A Z).ext K Z).ext (N (.slice wa (eE.length+1) wc)) Z;exact⟨d.t,d.kd,G _ _ d.rf nofun nofun,G _ _ d.rt nofun nofun,fun x b p a y=>G _ _ (d.rk x b p a y) nofun nofun,d.Ex,d.no⟩
 ·cases m;grind
 ·refine(((A.mono fun z _ h=>?_).trans (K.mono fun z _ h=>?_)).trans ((N _).mono fun z _ h=>?_):aj S H _)
  ·exact(I z).2 (ei (m.hC z h) nofun)
  ·exact(I z).2 (by rw[h];exact ei m.rr nofun)
  ·exact(I z).2 (by rw[h];exact ei m.rn nofun)
theorem Pf(n:Nat):qD (.iface 148 (ptr n)) (eD n) where
 slt h:=h.slt
 ext h e hd:=h.ext e hd
 cells:=by
  rintro H S w ⟨B,ro,C,l,V,ch,ax,kb,eE,rows,rb,rfl,m,f,d,r⟩;exact⟨B.c,C,m.cells⟩
 has:=by
  rintro H S w g ⟨B,ro,C,l,V,ch,ax,kb,eE,rows,rb,rfl,m,f,d,r⟩;obtain⟨o,j,_⟩:=m.own;exact⟨_,_,221,ptr B.c,rfl,cC (off:=0) Y (ae j) rfl,(ie m.cells g).mono fun v J c=>c⟩
 make:=by
  intro H S w h;exact⟨_,_,267,ptr n,rfl,ba Y,(Fy h).mono fun v J c=>c⟩
 insert:=by
  intro H S w g x k s h;exact⟨_,_,266,ptr n,rfl,ba Y,(BW h g x k s).mono fun v J c=>c⟩
 min:=by
  intro H S w g h;refine⟨_,_,269,ptr n,rfl,ba Y,(yK h g).mono ?_⟩;rintro v J (⟨y,rfl,p,q⟩| ⟨x,y,rfl,p,q⟩)
  ·exact .inl ⟨y,rfl,br.same p q⟩
  ·exact .inr ⟨x,y,rfl,br.same p q⟩
 extract:=by
  intro H S w g h;exact⟨_,_,265,ptr n,rfl,ba Y,(Ax h g).mono fun v J c=>c⟩
 j9:=by
  intro H S w x k s h;exact⟨_,_,263,ptr n,rfl,ba Y,(yL h x k s).mono fun v J c=>c⟩
 entry:=by
  rintro H S w x ⟨B,ro,C,l,V,ch,ax,kb,eE,rows,rb,rfl,m,f,d,r⟩;obtain⟨o,j,_⟩:=m.own;refine⟨_,_,219,ptr B.c,rfl,cC (off:=0) Y (ae j) rfl,(gG m.cells x).mono ?_⟩;rintro v J ⟨u,A,K⟩;exact⟨⟨B,ro,C,l,V,ch,ax,kb,eE,rows,rb,rfl,m.fresh A,f,d,r⟩,A,K⟩
 len:=by
  rintro H S w g ⟨B,ro,C,l,V,ch,ax,kb,eE,rows,rb,rfl,m,f,d,r⟩;obtain⟨o,j,_⟩:=m.own;exact⟨_,_,224,ptr B.c,rfl,cC (off:=0) Y (ae j) rfl,(eW m.cells g).mono fun v J c=>c⟩
 home:=by
  rintro H S w x h;obtain⟨B,ro,C,l,V,ch,ax,kb,eE,rows,rb,rfl,m,f,d,r⟩:=id h;obtain⟨o,j,_⟩:=m.own;refine⟨_,_,222,ptr B.c,rfl,cC (off:=0) Y (ae j) rfl,(bF m.cells x).mono ?_⟩;rintro v J (⟨y,rfl,rfl⟩| ⟨y,rfl,u,P⟩)
  ·exact .inl ⟨y,rfl,br.same h (aj.refl _ _)⟩
  ·exact .inr ⟨y,rfl,br.same ⟨B,ro,C,l,V,ch,ax,kb,eE,rows,rb,rfl,m.aD u P rfl,f,d,r⟩ (P.mono fun z _ F=>(r z).2 (ei (m.hC z F) nofun))⟩
 delete:=by
  intro H S w x h;exact⟨_,_,264,ptr n,rfl,ba Y,(BY h x).mono fun v J c=>c⟩
 vI:=by
  intro H S w a b h;exact⟨_,_,268,ptr n,rfl,ba Y,(Fx h a b).mono fun v J c=>c⟩
theorem wY(n:Nat)(H:Hp):aF 76 [ptr n,i64 0] H fun v J=>ak (v= .tuple [.iface 148 (ptr n),i64 0].toArray/\J=H):=by
 refine aT nS ?_;refine v1 ajZ ?_;exact⟨rfl,rfl⟩
theorem yN(n:Nat)(H:Hp):aF 78 [ptr n,i64 0] H fun v J=>ak (v= .tuple [.iface 152 (ptr n),i64 0].toArray/\J=H):=by
 refine aT pf ?_;refine v1 ajZ ?_;exact⟨rfl,rfl⟩
theorem yO(n:Nat)(H:Hp):aF 82 [ptr n,i64 0] H fun v J=>ak (v= .tuple [.iface 160 (ptr n),i64 0].toArray/\J=H):=by
 refine aT pg ?_;refine v1 ajZ ?_;exact⟨rfl,rfl⟩
theorem DZ(n:Nat)(H:Hp):aF 84 [ptr n,i64 0] H fun v J=>ak (v= .tuple [.iface 164 (ptr n),i64 0].toArray/\J=H):=by
 refine aT tV ?_;refine v1 ajZ ?_;exact⟨rfl,rfl⟩
theorem D0(n:Nat)(H:Hp):aF 86 [ptr n,i64 0] H fun v J=>ak (v= .tuple [.iface 168 (ptr n),i64 0].toArray/\J=H):=by
 refine aT tW ?_;refine v1 ajZ ?_;exact⟨rfl,rfl⟩
theorem HD{cap:Int}(q:mU kd dd)(r:0<=cap/\cap<=65536)(H:Hp):aF 39 [BO kd dd,i64 cap] H fun v J=>ak (∃t u I x,v= .tuple [.iface t u,i64 0].toArray/\qD (.iface t u) I/\I J x (jD cap)/\af H J/\∀z,x z->H.size<=z):=by
 refine aT Mr ?_;refine vs ?_;have y:af H (H.new 23 [i64 kd,i64 dd]):=bD;have f:(H.new 23 [i64 kd,i64 dd]).own H.size=some [i64 kd,i64 dd]:=am _ _ _;have A:(H.new 23 [i64 kd,i64 dd]).size=H.size+1:=ag _ _ _;generalize H.new 23 [i64 kd,i64 dd]=g at*;obtain rfl|rfl|rfl|rfl|rfl|rfl|rfl|rfl:kd=1\/kd=2\/kd=3\/kd=4\/kd=5\/kd=6\/kd=7\/kd=8:=by have:=q.1;omega
 ·refine ai.bY (by decide) ?_;refine v1 (ae f) ?_;refine ai.bY (by decide) ?_;refine v1 (ae f) ?_;refine(mV q (by decide) g).mono ?_;rintro _ o ⟨rfl,d⟩;refine vs ?_;refine(vy cap _ o).mono ?_;rintro _ a ⟨m,⟨e,rfl⟩| ⟨_,p,rfl⟩| ⟨_,p,n,x,rfl,c,j⟩⟩
  ·exact absurd r e
  ·refine absurd ?_ p;obtain⟨_,h|h⟩:=q
   ·omega
   ·first|exact⟨by decide,by decide⟩|exact absurd rfl h.1
  ·refine vs ?_;refine(sZ n a).mono ?_;rintro _ _ ⟨rfl,rfl⟩;have P:=d.size;refine vs ?_;exact⟨_,_,_,x,rfl,DP n _,⟨0,c⟩,(y.trans d).trans m,Z⟩
 ·refine ai.aX (by decide) ?_;refine vs ?_;refine ai.bY (by decide) ?_;refine v1 (ae f) ?_;refine(mV q (by decide) g).mono ?_;rintro _ o ⟨rfl,d⟩;refine vs ?_;refine(vy cap _ o).mono ?_;rintro _ a ⟨m,⟨e,rfl⟩| ⟨_,p,rfl⟩| ⟨_,p,n,x,rfl,c,j⟩⟩
  ·exact absurd r e
  ·refine absurd ?_ p;obtain⟨_,h|h⟩:=q
   ·first|exact⟨h.2.1,h.2.2⟩|exact absurd h.1 (by decide)
   omega
  ·refine vs ?_;refine(sZ n a).mono ?_;rintro _ _ ⟨rfl,rfl⟩;have P:=d.size;refine vs ?_;exact⟨_,_,_,x,rfl,DP n _,⟨0,c⟩,(y.trans d).trans m,Z⟩
 ·refine ai.aX (by decide) ?_;refine vs ?_;refine ai.aX (by decide) ?_;refine vs ?_;refine ai.bY (by decide) ?_;refine vs ?_;refine(HC cap g).mono ?_;rintro _ a ⟨m,⟨e,rfl⟩| ⟨_,n,x,rfl,c,j⟩⟩
  ·exact absurd r e
  ·refine vs ?_;refine(wY n a).mono ?_;rintro _ _ ⟨rfl,rfl⟩;refine vs ?_;exact⟨_,_,_,x,rfl,Pf n,c,y.trans m,Z⟩
 ·refine ai.aX (by decide) ?_;refine vs ?_;refine ai.aX (by decide) ?_;refine vs ?_;refine ai.aX (by decide) ?_;refine vs ?_;refine ai.bY (by decide) ?_;refine vs ?_;refine(As cap g).mono ?_;rintro _ a ⟨m,⟨e,rfl⟩| ⟨_,n,x,rfl,c,j⟩⟩
  ·exact absurd r e
  ·refine vs ?_;refine(yN n a).mono ?_;rintro _ _ ⟨rfl,rfl⟩;refine vs ?_;exact⟨_,_,_,x,rfl,Hw n,c,y.trans m,Z⟩
 ·refine ai.aX (by decide) ?_;refine vs ?_;refine ai.aX (by decide) ?_;refine vs ?_;refine ai.aX (by decide) ?_;refine vs ?_;refine ai.aX (by decide) ?_;refine vs ?_;refine ai.bY (by decide) ?_;refine vs ?_;refine(Hu cap g).mono ?_;rintro _ a ⟨m,⟨e,rfl⟩| ⟨_,n,x,rfl,c,j⟩⟩
  ·exact absurd r e
  ·refine vs ?_;refine(uL n a).mono ?_;rintro _ _ ⟨rfl,rfl⟩;refine vs ?_;exact⟨_,_,_,x,rfl,OX n,c,y.trans m,Z⟩
 ·refine ai.aX (by decide) ?_;refine vs ?_;refine ai.aX (by decide) ?_;refine vs ?_;refine ai.aX (by decide) ?_;refine vs ?_;refine ai.aX (by decide) ?_;refine vs ?_;refine ai.aX (by decide) ?_;refine vs ?_;refine ai.bY (by decide) ?_;refine vs ?_;refine(Ae cap g).mono ?_;rintro _ a ⟨m,⟨e,rfl⟩| ⟨_,n,x,rfl,c,j⟩⟩
  ·exact absurd r e
  ·refine vs ?_;refine(yO n a).mono ?_;rintro _ _ ⟨rfl,rfl⟩;refine vs ?_;exact⟨_,_,_,x,rfl,Hm n,c,y.trans m,Z⟩
 ·refine ai.aX (by decide) ?_;refine vs ?_;refine ai.aX (by decide) ?_;refine vs ?_;refine ai.aX (by decide) ?_;refine vs ?_;refine ai.aX (by decide) ?_;refine vs ?_;refine ai.aX (by decide) ?_;refine vs ?_;refine ai.aX (by decide) ?_;refine vs ?_;refine ai.bY (by decide) ?_;refine vs ?_;refine(Fv cap g).mono ?_;rintro _ a ⟨m,⟨e,rfl⟩| ⟨_,n,x,rfl,c,j⟩⟩
  ·exact absurd r e
  ·refine vs ?_;refine(DZ n a).mono ?_;rintro _ _ ⟨rfl,rfl⟩;refine vs ?_;exact⟨_,_,_,x,rfl,M3 n,c,y.trans m,Z⟩
 ·refine ai.aX (by decide) ?_;refine vs ?_;refine ai.aX (by decide) ?_;refine vs ?_;refine ai.aX (by decide) ?_;refine vs ?_;refine ai.aX (by decide) ?_;refine vs ?_;refine ai.aX (by decide) ?_;refine vs ?_;refine ai.aX (by decide) ?_;refine vs ?_;refine ai.aX (by decide) ?_;refine vs ?_;refine(Fm cap g).mono ?_;rintro _ a ⟨m,⟨e,rfl⟩| ⟨_,n,x,rfl,c,j⟩⟩
  ·exact absurd r e
  ·refine vs ?_;refine(D0 n a).mono ?_;rintro _ _ ⟨rfl,rfl⟩;refine vs ?_;exact⟨_,_,_,x,rfl,K1 n,⟨0,c⟩,y.trans m,Z⟩
theorem Pg(h:mU kd dd):R4 kd dd:=fun _ x H=>HD h x H
def uO(cap:Int)(mo:Nat):Ar:=⟨List.replicate cap.toNat (0,false),[],0,0,mo⟩
theorem HE{cap:Int}{mo:Nat}(U:mU kd dd)(G:R4 kd dd)(p:0<=cap/\cap<=65536)(hm:0<mo/\mo<=4294967295)(H:Hp):aF 18 [BO kd dd,i64 cap,.int .u32 (mo:Int)] H fun v J=>ak (∃s S,v= .tuple [ptr s,i64 0].toArray/\lf J s S (jD cap) (uO cap mo) 0/\af H J/\∀z,S z->H.size<=z):=by
 refine aT F0 ?_;refine vs ?_;have F:af H (H.new 23 [i64 kd,i64 dd]):=bD;have M:(H.new 23 [i64 kd,i64 dd]).own H.size=some [i64 kd,i64 dd]:=am _ _ _;have z0:(H.new 23 [i64 kd,i64 dd]).size=H.size+1:=ag _ _ _;generalize H.new 23 [i64 kd,i64 dd]=u at*;refine(mh kd dd u).mono ?_;rintro _ P ⟨rfl,y⟩;rw[OG U];have E:=y.own M (fun h=>h);have z1:=y.size;refine vs ?_;refine ai.dec (fun _=>?_) (fun m=>absurd trivial m);refine vs ?_;refine(Dt P p hm).mono ?_;rintro _ A ⟨B,rfl,o,r,hB⟩;have f:=r.own E (fun h=>h);have z2:=r.size;refine vs ?_;refine ai.dec (fun _=>?_) (fun m=>absurd trivial m);refine v1 (ae f) ?_;refine(G _ p A).mono ?_;rintro _ a ⟨t,g,I,d,rfl,n,hi,e,Q⟩;have X:=e.own f (fun h=>h);have z3:=e.size;refine vs ?_;refine ai.dec (fun _=>?_) (fun m=>absurd trivial m);refine v1 (ae X) ?_;have q:=o.slt;have D:=fun z c=>n.slt hi z c;have j:af a (a.new 103 [i64 kd,i64 dd,ptr B.a,.iface t g,u64 0]):=bD;have K:(a.new 103 [i64 kd,i64 dd,ptr B.a,.iface t g,u64 0]).own a.size=some [i64 kd,i64 dd,ptr B.a,.iface t g,u64 0]:=am _ _ _;refine⟨a.size,fun z=>d z\/B.S z\/z=a.size,rfl,⟨t,g,I,d,B,kd,dd,n,n.ext hi j (fun _ _ h=>h),(o.ext e (fun _ _ h=>h)).ext j (fun _ _ h=>h),K,fun z c=>⟨fun h=>?_,?_⟩,fun h=>?_,fun z=>Iff.rfl,⟨by simp[jD,uO],fun x=>?_⟩⟩,(((F.trans y).trans r).trans e).trans j,fun z c=>?_⟩
 ·have:=q z h;have:=Q z c;omega
 ·have:=D z c;omega
 ·have:=q _ h;omega
 ·constructor
  ·intro h;exact absurd (bg.2 h) (iU cap x)
  ·rintro⟨h0,N⟩;simp only[uO,List.getElem?_replicate]at N;grind
 grind
structure Bd(t:iu)(n:Nat):Prop where
 h0:0<t.w.hs.length
 h1:t.w.hs.length<=n+1
 g:∀x,t.A.bf x<=n
 q0:0<=t.q
 q1:t.q<=n
variable {t : iu} {n : Nat}
theorem Bd.up(h:Bd t n):Bd t (n+1):=⟨h.h0,by have:=h.h1;omega,fun x=>by have:=h.g x;omega,h.q0,by have:=h.q1;omega⟩
theorem LW(A:Ar)(x:Int)(v:Nat)(b:Bool)(a:List Int)(z:Nat)(h:Int)(mo:Nat)(y:Int):(Ar.mk (A.g.set x.toNat (v,b)) a z h mo).bf y=v\/(Ar.mk (A.g.set x.toNat (v,b)) a z h mo).bf y=A.bf y:=by
 unfold Ar.bf;simp only[ajR];grind
theorem Ph{A A':Ar}(h:A.pick=some (x,A')):A'.g=A.g:=by
 unfold Ar.pick at h;grind
theorem Pj(h:Bd t n)(x:Int):Bd (yh t x) n:=by
 refine⟨h.h0,h.h1,fun y=>?_,h.q0,h.q1⟩;rcases LW t.A x (t.A.bf x) false (if t.A.bf x<t.A.mo then t.A.wt++[x]else t.A.wt) t.A.nx (t.A.ct - 1) t.A.mo y with e|e
 ·exact akc (Nat.le_of_eq e) (h.g x)
 ·exact akc (Nat.le_of_eq e) (h.g y)
theorem XB(h:Bd t n)(op a b:Nat)(k:Int):Bd (On t op a b k).1 (n+1):=by
 unfold On;split
 ·unfold Dq;split
  ·exact h.up
  ·refine⟨?_,?_,h.up.g,h.q0,h.up.q1⟩
   ·show 0< (t.w.hs++[true]).length;simp
   ·show(t.w.hs++[true]).length<=_;have:=h.h1;simp;omega
 ·unfold E8;split
  ·exact h.up
  ·cases c:t.A.pick with
   |none=>exact h.up
   |some v=>
    obtain⟨x,A'⟩:=v;refine⟨h.h0,h.up.h1,fun y=>?_,by have:=h.q0;show 0<=t.q+1;omega,by have:=h.q1;show t.q+1<=((n+1:Nat):Int);omega⟩;have m:∀z,A'.bf z=t.A.bf z:=fun z=>by unfold Ar.bf;rw[Ph c]
    rcases LW A' x (A'.bf x+1) true A'.wt A'.nx (A'.ct+1) A'.mo y with e|e
    ·refine akc (Nat.le_of_eq e) ?_;rw[m];have:=h.g x;omega
    ·refine akc (Nat.le_of_eq e) ?_;rw[m];have:=h.g y;omega
 ·exact h.up
 ·unfold sJ;dsimp only;split
  ·exact(Pj h _).up
  ·exact h.up
 ·unfold E9;split
  ·exact h.up
  ·split
   ·exact h.up
   ·exact⟨h.h0,h.up.h1,h.up.g,h.q0,h.up.q1⟩
 ·unfold Fa;split
  ·exact h.up
  ·exact(Pj h _).up
 ·unfold Fb;split
  ·exact h.up
  ·split
   ·exact h.up
   ·refine⟨?_,?_,h.up.g,h.q0,h.up.q1⟩
    ·show 0< (t.w.hs.set _ _).length;rw[ajN];exact h.h0
    ·show(t.w.hs.set _ _).length<=_;rw[ajN];exact h.up.h1
 ·exact h.up
 ·exact h.up
 ·exact h.up
 ·exact h.up
end
section
variable{H:Hp}{n c:Nat}{a:Option Addr}
theorem bX.str{ws:List (List UInt8)}(h:bX H 1 (.slice a n c) n (ws.map aL)){i:Nat}{x:List UInt8}(r:ws[i]? =some x):
  i<n/\∃b o z,a=some ⟨b,o,none⟩/\H.rd b=some z/\z[o+i]? =some (aL x):=by
 obtain⟨m,y⟩:=h;rw[aka,ajM]at m;have hi:i<ws.length:=by
  rcases aky i ws.length with h|h
  ·exact h
  ·grind
 refine⟨O,?_⟩;rcases y with ⟨q,_⟩| ⟨b,o,j,l,e,v,p,P⟩
 ·omega
 ·injection e with g f u;refine⟨b,o,l,g,v,?_⟩;have d:(ws.map aL)[i]? =some (aL x):=by rw[aj9,r];rfl
  grind
theorem bX.CA{xs:List Value}(h:bX H 1 (.slice a n c) n xs)(r:n≠0):∀x,a=some x->x.block<H.size:=fun x e=>by
 obtain⟨_,⟨y,_⟩| ⟨b,o,g,l,v,m,_⟩⟩:=h
 ·omega
 ·injection v with z;rw[e]at z;injection z with z;rw[z];exact FY m
theorem bX.off{J:Hp}{xs:List Value}{S:Nat->Prop}(h:bX H 1 (.slice a n c) n xs)(e:aj S H J)(j:n≠0->∀x,a=some x->¬S x.block):bX J 1 (.slice a n c) n xs:=by
 obtain⟨z,h| ⟨b,o,v,l,m,r,g⟩⟩:=h
 ·exact⟨z,.inl h⟩
 ·by_cases y:n=0
  ·exact⟨z,Z⟩
  ·have d:=m;injection d with p;exact⟨z,.inr ⟨b,o,v,l,m,e.rd r (j y _ p),g⟩⟩
theorem D1{ws:List (List UInt8)}(h:bX H 1 (.slice a n c) n (ws.map aL))(e:1<=n)(r:n<=c):
  ∃m c',Value.slice (if(c:Int)=1 then a else Option.map (fun x=>x.add (Int.toNat 1*1)) a) ((n:Int).toNat - Int.toNat 1) ((c:Int).toNat - Int.toNat 1)= .slice m (n - 1) c'/\
   bX H 1 (.slice m (n - 1) c') (n - 1) (ws.tail.map aL)/\n - 1<=c'/\∀x,m=some x->∃y,a=some y/\x.block=y.block:=by
 refine⟨_,_,rfl,?_,O,fun x z=>?_⟩;rotate_left
 ·split at z
  ·grind
  ·cases a with
   |none=>cases z
   |some y=>injection z with z;exact⟨y,rfl,by rw[<-z];rfl⟩
 have g:=h.1;rw[aka,ajM]at g;have v:=bX.sub h (lo:=1) (hi:=n) e (ajU _) (c':=c - 1) (b':=if(c:Int)=1 then a else Option.map (fun x=>x.add (Int.toNat 1*1)) a) Z;rw[ajM,ajM,akE Z,List.drop_one,<-List.map_tail]at v;exact v
theorem La{v:Value}{xs:List Value}{fp:Option Nat}(h:Sl H 1 v n xs fp):∃a c,v= .slice a n c/\n<=c:=by
 obtain⟨_,h⟩:=h;grind
end
end Go.Proofs.YtjkkkibiegfecaaGreatDoor
