/- Texts put behind each other. -/
import Derived.Test.YtnanofhkpglbaaaGreatDoorK30
set_option linter.unusedSimpArgs false
set_option linter.unusedVariables false
set_option maxRecDepth 100000
set_option maxHeartbeats 80000000
namespace Go.Proofs.YtnanofhkpglbaaaGreatDoor
open Go Go.Vc
section
variable{d st x i:Int}{n c a b h f:Nat}{rv:Value}{fp:Option Nat}
theorem yh{ps:List (Option Pl)}{T:Pl}(z:a<ps.length)(l:b<ps.length)(w:a≠b){Q:Pl}(x:((ps.set a (some T)).set b none)[h]? =some (some Q)):
  (h=a/\Q=T)\/(h≠a/\h≠b/\ps[h]? =some (some Q)):=by
 grind
theorem im.two{H:Hp}{p:Nat}{C:Nat->Prop}{q:Option Nat}{w:Nw}{ps:List (Option Pl)}{at_:List Int}(m:im H n c C (.slice (some ⟨f,0,none⟩) ps.length p) (some f) q st w ps at_)(Fh:a≠b){T:Pl}(X:ps[a]? =some (some T)\/ps[b]? =some (some T))
  (ha:a<ps.length)(hb:b<ps.length){lb:List Value}(o:H.own f=some lb):
  im (H.wr f ((lb.set a (ptr T.r)).set b (.pointer none))) n c C (.slice (some ⟨f,0,none⟩) ps.length p) (some f) q st w ((ps.set a (some T)).set b none) at_/\
   aj (fun z=>z=f) H (H.wr f ((lb.set a (ptr T.r)).set b (.pointer none))):=by
 have e:aj (fun z=>z=f) H (H.wr f ((lb.set a (ptr T.r)).set b (.pointer none))):=(aj.refl (fun z=>z=f) _).wr (fun _=>rfl) _;have U:=m.Po f rfl;obtain⟨B,W,F⟩:=m.own;have j:∀ (h:Nat) Q,((ps.set a (some T)).set b none)[h]? =some (some Q)->∃l,ps[l]? =some (some Q)/\((l=h/\h≠a/\h≠b)\/(h=a/\(l=a\/l=b))):=Z;refine⟨⟨⟨B,e.own W (Ne.symm U.2.1),F.ext e Z⟩,m.cells.ext e Z,?_,fun h Q y=>?_,m.nC,m.Po,m.HF,fun h Q y x t=>?_,fun h Q y=>?_,fun h l Q d y K ny x t I=>?_⟩,e⟩
 ·have v:=(m.sl.nG o a (ptr T.r)).nG (ah o) b (.pointer none);rw[JM]at v;rw[alb,alb,alD,alD];exact v
 ·obtain⟨l,v,_⟩:=j h Q y;obtain⟨D,V,G⟩:=m.jf l Q v;have u:∀x,Q.S x->x≠f:=fun x t hz=>(m.pd l Q v x t).2.2.1 Z;exact⟨D,e.own V (u _ (.inl rfl)),G.ext e (fun x t=>u x (.inr t))⟩
 ·obtain⟨l,v,_⟩:=j h Q y;exact m.pd l Q v x t
 ·obtain⟨l,v,_⟩:=j h Q y;exact m.pr l Q v
 ·obtain⟨g,v,M⟩:=j h Q y;obtain⟨L,A,E⟩:=j l d K;exact m.pp g L Q d v A O x t I
theorem uU.join{w:Nw}{ps:List (Option Pl)}{at_ at':List Int}(l:uU w ps at_){a b:Int}(u:w.has a)(K:w.has b)(A:a≠b){g t T:Pl}(d:ps[a.toNat]? =some (some g))(p:ps[b.toNat]? =some (some t))
  (I:ej (aU (w.join a b)) 2 T.l)(X:je T.l at')(U:∀z,z∈T.l↔z∈g.l\/z∈t.l)(ec:T.l.length=g.l.length+t.l.length)(C:at'.length=at_.length)
  (W:∀z:Int,0<=z->z∉g.l->z∉t.l->at'[z.toNat]? =at_[z.toNat]?):uU (w.join a b) ((ps.set a.toNat (some T)).set b.toNat none) at':=by
 have E:=u.1;have QI:=K.1;have j:=(ak8.1 d).1;have q:=(ak8.1 p).1;have o:a.toNat≠b.toNat:=O;have B:((a.toNat:Nat):Int)=a:=O;have F:((b.toNat:Nat):Int)=b:=O;refine⟨by rw[alb,alb,l.hl];simp[Nw.join],fun h=>?_,?_,fun h Q v=>?_,fun h Q v=>?_,fun h Q v z=>?_,fun h Q v=>?_,by rw[C,l.HG];simp[Nw.join]⟩
 ·show(w.hs.set b.toNat false)[h]? =some true↔_;by_cases n:h=b.toNat
  ·grind
  ·rw[alh (Ne.symm n),alh (Ne.symm n)];by_cases m:h=a.toNat
   ·subst m;rw[aln j];exact⟨Z,fun _=>u.2⟩
   ·rw[alh (Ne.symm m)];exact l.hs h
 ·cases l;grind
 ·rcases yh j q o v with ⟨rfl,rfl⟩| ⟨n,m,x⟩
  ·exact I
  ·exact(l.ok h Q x).zW fun z _ y _=>(sn w a b z y).symm
 ·rcases yh j q o v with ⟨rfl,rfl⟩| ⟨n,m,x⟩
  ·omega
  ·exact(l.Ok h Q x).Rv fun z L f=>W z f (l.apart x d n L) (l.apart x p m L)
 ·rw[sk];rcases yh j q o v with ⟨rfl,rfl⟩| ⟨n,m,x⟩
  ·rw[U z,l.mem _ g d z,l.mem _ t p z,B,F];cases w.cs[z.toNat]? with
   |none=>simp
   |some c=>
    obtain⟨V,G⟩:=c;simp only[Option.map_some,alg,Prod.mk.injEq];constructor
    ·rintro(⟨f,e,rfl,rfl⟩| ⟨f,e,rfl,rfl⟩)
     ·simp_all
     grind
    grind
  ·rw[l.mem h Q x z];grind
 ·rw[Nw.Dq w A O O];rcases yh j q o v with ⟨rfl,rfl⟩| ⟨n,m,x⟩
  ·rw[if_pos B];have D:=l.len _ g d;have M:=l.len _ t p;grind
  ·rw[if_neg O,if_neg O];exact l.len h Q x
theorem DG{H:Hp}{S:Nat->Prop}{w:Nw}(h:dF H n S st w)(a b:Int):aD 490 [ptr n,i64 a,i64 b] H fun v J=>ak (
  (¬ (w.has a/\w.has b/\a≠b)/\v= .bool false/\H=J)\/
  ((w.has a/\w.has b/\a≠b)/\v= .bool true/\∃q:Nat,(q:Int)<=min (w.len a) (w.len b)*(ix 2 (w.len a+w.len b):Nat)/\∃S',dF J n S' (min (st+q) 4611686018427387904) (w.join a b)/\aj S H J/\∀z,S' z->S z\/H.size<=z)):=by
 obtain⟨c,C,rv,fr,u,ps,at_,m,l,G⟩:=h;obtain⟨av,ho,hav⟩:=m.own;refine Rh zy ⟨rfl,?_⟩;refine v2 nS.eq_1 (ae ho) ?_;refine(jw m.cells a b).mono ?_;rintro _ H1 (⟨kV,rfl,rfl⟩| ⟨⟨ha,hb,Fh⟩,rfl,c1,e1⟩)
 ·refine vs ?_;exact .inl ⟨kV,rfl,rfl⟩
 obtain⟨d,L⟩:=l.ee ha;obtain⟨p,A⟩:=l.ee hb;have ha1:=ha.1;have QI:=hb.1;have Pn:=(ak8.1 L).1;have Fe:=(ak8.1 A).1;have K:=m.aE c1 e1;obtain⟨av1,o1,agB⟩:=K.own;obtain⟨f,cc,lb,rfl,rfl,of,ga,la⟩:=K.Wj L;obtain⟨f',Km,lb',hv,QL,RA,gb,XV⟩:=K.Wj A;injection QL with QL;subst QL;rw[of]at RA;injection RA with RA;subst RA;refine v1 (ae o1) ?_;refine⟨O,?_⟩;simp(disch:=(first|exact aV|fail)) only[go_sem, ↓reduceIte,Zv,ae of,ae o1,ala,ga,Oj];refine⟨O,?_⟩;simp(disch:=(first|exact aV|fail)) only[go_sem, ↓reduceIte,Zv,ae of,ala,gb,Oj];refine ez (fun e J=>e.find 0=some (ptr n)/\e.find 1=some (i64 a)/\e.find 2=some (i64 b)/\J=H1/\∃T F:Pl,e.find 7=some (ptr T.r)/\e.find 8=some (ptr F.r)/\
  ((T=d/\F=p/\p.l.length<=d.l.length)\/(T=p/\F=d/\d.l.length<p.l.length))) ?_ ?_
 ·refine vs ?_;refine(gL (K.zZ L)).mono ?_;rintro _ _ ⟨rfl,rfl⟩;refine vs ?_;refine(gL (K.zZ A)).mono ?_;rintro _ _ ⟨rfl,rfl⟩;refine vs ?_;refine ai.dec (fun iD=>?_) (fun iD=>?_)<;>refine vs ?_
  ·exact⟨trivial,trivial,trivial,trivial,p,d,rfl,rfl,.inr ⟨rfl,rfl,O⟩⟩
  ·exact⟨trivial,trivial,trivial,trivial,d,p,rfl,rfl,.inl ⟨rfl,rfl,O⟩⟩
 rintro e H1' ⟨e0,ea,eb,hH1,T,F,eT,eF,E⟩;obtain rfl:=hH1.symm;have haa:((a.toNat:Nat):Int)=a:=O;have La:((b.toNat:Nat):Int)=b:=O;have M:a.toNat≠b.toNat:=O;have hT:ps[a.toNat]? =some (some T)\/ps[b.toNat]? =some (some T):=by
  rcases E with ⟨rfl,rfl,_⟩| ⟨rfl,rfl,_⟩
  ·exact .inl L
  ·exact .inr A
 obtain⟨I,iF,D,B,Uh,pG⟩:∃I iF:Nat,ps[I]? =some (some T)/\ps[iF]? =some (some F)/\I≠iF/\0<iF:=by
  rcases E with ⟨rfl,rfl,_⟩| ⟨rfl,rfl,_⟩
  ·exact⟨_,_,L,A,M,O⟩
  ·exact⟨_,_,A,L,Ne.symm M,O⟩
 have Ab:∀z,(z∈T.l\/z∈F.l)↔(z∈d.l\/z∈p.l):=fun z=>by
  rcases E with ⟨rfl,rfl,_⟩| ⟨rfl,rfl,_⟩
  ·exact Iff.rfl
  ·exact Or.comm
 have eLa:=l.len _ d L;have eLb:=l.len _ p A;rw[haa]at eLa;rw[La]at eLb;have ec:T.l.length+F.l.length=d.l.length+p.l.length/\((F.l.length:Nat):Int)=min (w.len a) (w.len b):=by
  rcases E with ⟨rfl,rfl,_⟩| ⟨rfl,rfl,_⟩<;>omega
 clear E;have Pt:∀z∈F.l,z∉T.l:=fun z g=>l.apart B D (Ne.symm Uh) g;have Lm:∀ (i:Nat) Q,ps[i]? =some (some Q)->∀z∈Q.l,cu (w.join a b).cs z:=fun i Q hQ z g=>by
  obtain⟨z0,e,he⟩:=(l.mem i Q hQ z).1 g;have:=l.pos hQ;exact(Dr w O O z).2 ⟨z0,_,he,by simp only;omega⟩
 have uv:=m.cells.yY;have wT:d.l.length+p.l.length<=65536:=by
  have o:=((w.join a b).kl a).2;rw[Nw.Dq w Fh O O,if_pos rfl]at o;have V:(w.join a b).cs.length=w.cs.length:=by simp[Nw.join]
  omega
 have RB:=m.cells.st;obtain⟨m2,e2⟩:=K.two M hT Pn Fe of;obtain⟨sF,oF1,sF1⟩:=K.jf iF F B;have XW:∀x,F.S x->x≠f:=fun x t g=>(m.pd iF F B x t).2.2.1 (ald some g.symm);have oF2:=e2.own oF1 (XW _ (.inl rfl));have sF2:=sF1.ext e2 (fun x t=>XW x (.inr t));have of1:(H1.wr f (lb.set a.toNat (ptr T.r))).own f=some (lb.set a.toNat (ptr T.r)):=ah of;have ab8:lb.length=(lb.set a.toNat (ptr T.r)).length:=(alb ..).symm;have Nb:=(ak8.1 gb).1;have Nf:=(ak8.1 ga).1;refine v6 e0 ea eb eT eF (ae o1) ?_;refine⟨O,?_⟩;refine v7 e0 ea eb eT eF of ala ?_;refine⟨O,?_⟩;refine v1 ak7 ?_;refine⟨O,?_⟩;refine v2 of1 ala ?_;refine⟨by rw[alb];omega,?_⟩;refine v1 ak7 ?_;generalize H1.wr f ((lb.set a.toNat (ptr T.r)).set b.toNat (.pointer none))=H2 at*;obtain⟨a3,c3,rfl⟩:=bD.Dj sF2.rd;refine v6 e0 ea eb eT eF (ae oF2) ?_;have wz:=K.slt;have z1:=e1.size;have z2:=e2.size;have hU:∀j:Nat,j<=F.l.length->ix 2 ((T.l.length+j:Nat):Int)<=ix 2 (w.len a+w.len b):=fun j hj=>jV eV (w.len a+w.len b).toNat _ _ (alj _) O;generalize ix 2 (w.len a+w.len b)=U at*;have hFd:∀x,F.fp=some x->¬ (C x\/T.S x\/u=some x):=fun x t W=>by
  have o:=m.pd iF F B x (.inr t);rcases W with W|W|W
  ·exact o.1 W
  ·exact m.pp I iF T F D B Uh x W (.inr t)
  ·exact o.2.2.2 W
 have Nl:∀ (T':Pl),((ps.set a.toNat (some T')).set b.toNat none)[a.toNat]? =some (some T'):=fun T'=>by
  rw[alh (Ne.symm M),aln Pn]
 refine ba.intro (fun k env J=>∃ (j:Nat) (T':Pl) (q:Nat) (at':List Int),env=[(7,ptr T.r),(56,.slice a3 F.l.length c3),(57,i64 F.l.length),(58,i64 j)]/\k=F.l.length - j/\j<=F.l.length/\T'.r=T.r/\
   im J n c C (.slice (some ⟨f,0,none⟩) ps.length cc) (some f) u (min (st+q) 4611686018427387904) (w.join a b) ((ps.set a.toNat (some T')).set b.toNat none) at'/\ej (aU (w.join a b)) 2 T'.l/\je T'.l at'/\at'.length=at_.length/\
   (∀z:Int,0<=z->z∉d.l->z∉p.l->at'[z.toNat]? =at_[z.toNat]?)/\
   (∀z,z∈T'.l↔z∈T.l\/z∈F.l.take j)/\T'.l.length=T.l.length+j/\q<=j*U/\(∀z,T'.S z->T.S z\/H2.size<=z)/\aj (fun z=>C z\/T.S z\/u=some z) H2 J) F.l.length
  ⟨0,T,0,at_,rfl,O,O,rfl,by rw[show min (st+((0:Nat):Int)) 4611686018427387904=st by omega];exact m2,(l.ok I T D).zW fun z _ y _=>(sn w a b z y).symm,l.Ok I T D,rfl,fun _ _ _ _=>rfl,
   fun z=>by simp,rfl,O,fun z g=>.inl g,aj.refl _ _⟩ ?_
 rintro k env H4 ⟨j,T',q,at',rfl,rfl,hj,hr,m4,Fj,XX,Rx,Ry,X,Pu,hq,SV,e4⟩;refine vs ?_;have Ui:=Nl T';refine ai.dec (fun iD=>?_) (fun iD=>?_)<;>refine vs ?_
 ·obtain⟨x,t⟩:∃x,F.l[j]? =some x:=⟨_,ak9 O⟩;have Wk:=ali t;have sF4:=sF2.ext e4 (fun x t=>hFd x t);obtain⟨bb,bo,bc,bl,q1,q2,q3,q4⟩:=bD.get sF4.rd (i:=j) (j:=0) (x:=i64 x) O (by simp[t]);injection q1 with q1 _ q1';subst q1 q1';refine⟨O,?_⟩;refine v3 q2 Int.toNat_natCast (show bl[bo+j*1]? =some (i64 x)from q4) ?_;rw[<-hr];have hxT:x∉T'.l:=fun hm=>by
   rcases(X x).1 hm with h|h
   ·exact Pt x Wk h
   ·obtain⟨i,hi⟩:=als h;rw[amb]at hi;split at hi
    ·have:=(l.Ok iF F B).zL hi t;omega
    ·cases hi
  have Uj:∀z∈T'.l,cu (w.join a b).cs z:=fun z g=>by
   rcases(X z).1 g with h|h
   ·exact Lm I T D z h
   ·exact Lm iF F B z (List.mem_of_mem_take h)
  have Ub:=Lm iF F B x Wk;obtain⟨j4,xe,XY,_⟩:=id Ub;have tC:=(ak8.1 XY).1;have hjl:(w.join a b).cs.length=w.cs.length:=by simp[Nw.join]
  refine(sH (m4.zZ Ui) XX O ⟨j4,by rw[Rx,l.HG];omega⟩ hxT Ub Uj Fj).mono ?_;rintro _ H5 ⟨rfl,Ii,l',at2,q5,pm,acb,Uk,XZ,aei,aej,X0,hq5,agK,e5,X2⟩;refine vs ?_;have hT5:∀z,(C z\/T'.fp=some z\/u=some z\/z=T'.r)->C z\/T'.S z\/u=some z:=fun z g=>by
   rcases g with g|g|g|g
   ·exact .inl g
   ·exact .inr (.inl (.inr g))
   ·exact .inr (.inr g)
   ·exact .inr (.inl (.inl g))
  have m5:=m4.Cj Ui (P':=⟨T'.r,Ii,l'⟩) rfl pm X2 e5 hT5;rw[List.set_comm _ _ (Ne.symm M),List.set_set,show min (min (st+(q:Int)) 4611686018427387904+((q5:Nat):Int)) 4611686018427387904=min (st+((q+q5:Nat):Int)) 4611686018427387904 by omega]at m5;have z4:=e4.size;have O6:=(Ab x).1 (.inr Wk);have hU5:=hU j hj;rw[<-Pu]at hU5;rw[wrap64 (n:=(j:Int)+1) O O,hr];refine⟨F.l.length - (j+1),O,j+1,⟨T'.r,Ii,l'⟩,q+q5,at2,rfl,rfl,O,hr,m5,Uk,acb,O,fun z z0 o V=>?_,fun z=>?_,by show l'.length=_;omega,?_,fun z g=>?_,e4.lE e5 (fun z hzl g=>?_)⟩
  ·rw[X0 z z0 (fun e=>by rw[e]at o V;exact O6.elim o V) (fun hm=>?_),Ry z z0 o V];rcases(X z).1 hm with h3|h3
   ·exact((Ab z).1 (.inl h3)).elim o V
   ·exact((Ab z).1 (.inr (List.mem_of_mem_take h3))).elim o V
  ·show z∈l'↔_;rw[XZ z,X z,alq,t];simp only[Option.toList_some,alu,alv];constructor
   ·rintro(h|h|h)
    ·exact .inr (.inr h)
    ·exact .inl h
    ·exact .inr (.inl h)
   ·rintro(h|h|h)
    ·exact .inr (.inl h)
    ·exact .inr (.inr h)
    ·exact .inl h
  ·rw[amo,amH];omega
  ·rcases g with g|g
   ·exact SV z (.inl g)
   ·rcases X2 with h| ⟨y,h,h7⟩
    ·exact SV z (.inr (h▸g))
    ·simp only at g;rw[h]at g;injection g with g;exact .inr O
  ·rcases hT5 z g with g|g|g
   ·exact .inl g
   ·rcases SV z g with h|h
    ·exact .inr (.inl h)
    ·exact absurd hzl O
   ·exact .inr (.inr g)
 ·have hjL:j=F.l.length:=O;subst hjL;have Ms:∀z,(C z\/T.S z\/u=some z)->S z:=fun z g=>(G z).1 (by
   rcases g with g|g|g
   ·exact .inl g
   ·exact .inr (.inr (.inr (.inr ⟨_,T,D,g⟩)))
   ·exact .inr (.inr (.inr (.inl g))))
  refine .inr ⟨⟨ha,hb,Fh⟩,rfl,q,?_,ye n C (some f) u ((ps.set a.toNat (some T')).set b.toNat none),⟨c,C,_,some f,u,_,at',m4,l.join ha hb Fh L A Fj XX (fun z=>?_) O Rx Ry,fun z=>Iff.rfl⟩,?_,fun z g=>?_⟩
  ·rw[<-ec.2,<-Int.natCast_mul];exact Int.ofNat_le.2 hq
  ·rw[X z,alx,Ab z]
  ·exact(e1.mono fun z _ g=>Ms z (.inl g)).trans ((e2.mono fun z _ g=>(G z).1 (.inr (.inr (.inl (by rw[g]))))).trans (e4.mono fun z _ g=>Ms z g))
  ·rcases g with g|rfl|g|g| ⟨i,Q,hQ,g⟩
   ·exact .inl ((G z).1 (.inl g))
   ·exact .inl ((G z).1 (.inr (.inl rfl)))
   ·exact .inl ((G z).1 (.inr (.inr (.inl g))))
   ·exact .inl (Ms z (.inr (.inr g)))
   ·rcases yh Pn Fe M hQ with ⟨rfl,rfl⟩| ⟨h5,h6,h7⟩
    ·rcases SV z g with h|h
     ·exact .inl (Ms z (.inr (.inl h)))
     ·exact .inr O
    ·exact .inl ((G z).1 (.inr (.inr (.inr (.inr ⟨i,Q,h7,g⟩)))))
theorem Ac{K:Value}{I:Hp->Nat->Prop}{T:Nat->Prop}{lt:Int->Int->Bool}{D:Int->Prop}(j:Lb K I T lt D){H:Hp}{r:Nat}{S:Nat->Prop}{l:List Int}{pl:Int->Option Int}
  (h:dt H r S d l pl)(L:∀x,S x->¬T x){n:Nat}(hI:I H n)(hf:cV d)(x:Int)(hl:l.length<=1000000)(hp:sj l pl)(m:∀z∈l,D z:=by intros;trivial):
  aD 363 [ptr r,K,i64 x] H fun v J=>ak (
   (pl x=none/\v= .bool false/\H=J)\/
   (∃i,pl x=some i/\v= .bool true/\dt J r S d (cU lt d x l pl i).1 (cU lt d x l pl i).2.1/\I J (n+(cU lt d x l pl i).2.2)/\aj (fun z=>S z\/T z) H J)):=by
 obtain⟨⟨sv,fp,g,a1,a2,a3,s1,s2,p,F⟩,X⟩:=id h;have key:gO true (Value.int .i64 0) ((pl x).map i64)= .tuple [i64 ((pl x).getD 0),.bool (pl x).isSome].toArray:=by cases pl x<;>rfl
 refine aL xD ?_;refine v3 (ae a1) a3.look key ?_;cases hx:pl x with
 |none=>
  simp(disch:=(first|exact aV|fail)) only[go_sem, ↓reduceIte,Zv,Option.isSome_none];exact .inl ⟨rfl,rfl,rfl⟩
 |some i=>
  obtain⟨i0,hxi⟩:=(hp x i).1 hx;have Nd:i.toNat<l.length:=Z;obtain⟨f,rfl⟩:∃f,fp=some f:=by
   cases fp with
   |none=>obtain⟨_,e,_⟩:=a2;omega
   |some f=>grind
  have Q:=a2;obtain⟨_,l1,c,rfl,B,a5,U,W⟩:=Q;have E:∀ (i:Nat) (x:Int),l[i]? =some x->l1[i]? =some (i64 x):=fun i x h=>by
   have iD:=(ak8.1 h).1;have h1:(l.map i64)[i]? =some (i64 x):=by simp[h]
   grind
  have Jt:l[l.length - 1]? =some (l.getD (l.length - 1) 0):=by
   rw[alf,ak9 O];rfl
  have Ul:=E _ _ Jt;have u:IntKind.i64.wrap ((l.length:Int) - 1)=((l.length - 1:Nat):Int):=by rw[wrap64 O O];omega
  simp(disch:=(first|exact aV|fail)) only[go_sem, ↓reduceIte,Zv,Option.isSome_some,Option.getD_some,ae a1,u,Int.toNat_natCast];refine⟨O,?_⟩;refine v5 (ae B) (ae a1) ala Ul u ?_;refine⟨O,?_⟩;obtain⟨QI,RC,Rn⟩:=F f rfl;have Ua:Value.slice (if(c:Int)=((0:Nat):Int)then some (⟨f,0,none⟩:Addr)else Option.map (fun(x:Addr)=>x.add (((0:Nat):Int).toNat*1)) (some (⟨f,0,none⟩:Addr))) (((l.length - 1:Nat):Int).toNat - ((0:Nat):Int).toNat) ((c:Int).toNat - ((0:Nat):Int).toNat)= .slice (some ⟨f,0,none⟩) (l.length - 1) c:=by
   split<;>rfl
  refine v2 (ae a1) a1 ?_;rw[Ua];have t:aj (fun z=>z=r) H (H.wr r [i64 d,.slice (some ⟨f,0,none⟩) (l.length - 1) c,.map (some g)]):=(aj.refl (fun z=>z=r) _).wr (fun _=>rfl) _;have q:(H.wr r [i64 d,.slice (some ⟨f,0,none⟩) (l.length - 1) c,.map (some g)]).own r=some [i64 d,.slice (some ⟨f,0,none⟩) (l.length - 1) c,.map (some g)]:=ah a1;have V:=a3.ext t (Ne.symm p);refine v1 (ae q) ?_;refine V.del fun H2 C y=>?_;rw[Di]at C;have a:aj S H H2:=(t.mono Z).trans (y.mono Z);have hr:dt H2 r S d l.dropLast (lI pl x):=by
   refine⟨⟨.slice (some ⟨f,0,none⟩) (l.length - 1) c,some f,g,y.own q p,⟨by simp,l1,c,Z,(y.own ((t.own B RC)) Rn),Z,U,?_⟩,C,s1,s2,p,F⟩,
    fun z w=>alp (X z w) a.size⟩
   have hx7:((l.map i64).length)=l.length:=by simp
   rw[alV,List.map_dropLast,amc,hx7,<-W,amz];congr 1;omega
  have V7:=j.aW _ _ _ _ hI a Z;refine vs ?_;have wT:l.dropLast.length=l.length - 1:=Z;refine ai.dec (fun he=>?_) (fun he=>?_)<;>refine vs ?_
  ·refine .inr ⟨i,rfl,rfl,?_,?_,a.mono Z⟩
   ·unfold cU;grind
   ·unfold cU;grind
  ·have A:l.getD (l.length - 1) 0∈l:=Z;have Kk:i.toNat≠l.length - 1:=Z;refine(pB j hr L V7 i (l.getD (l.length - 1) 0) ⟨i0,O⟩ O (m _ A) (fun z w=>m z ((amE _).subset w))).mono ?_;rintro _ H3 ⟨rfl,r3,i3,G⟩;have o:=(a.mono Z).trans G;refine vs ?_;refine ai.dec (fun ST=>?_) (fun ST=>?_)<;>refine vs ?_
   ·have hul:=tz lt d (l.getD (l.length - 1) 0) i.toNat l.dropLast (lI pl x) i;refine(Dn j r3 L i3 hf i (l.getD (l.length - 1) 0) ⟨i0,O⟩ O (m _ A) (fun z w=>by
     rcases Ro lt d _ _ _ _ _ i0 O z w with h|h
     ·grind
     ·exact m z ((amE _).subset h))).mono ?_
    rintro _ H4 ⟨r4,i4,M⟩;refine vs ?_;refine .inr ⟨i,rfl,rfl,?_,?_,o.trans M⟩
    ·unfold cU;grind
    ·unfold cU;grind
   ·refine .inr ⟨i,rfl,rfl,?_,?_,o⟩
    ·unfold cU;grind
    ·unfold cU;grind
structure bJ(lt:Int->Int->Bool)(d:Int)(l:List Int)(pl:Int->Option Int):Prop where
 heap:ej lt d l
 pl:sj l pl
theorem bJ.nil(lt:Int->Int->Bool)(d:Int):bJ lt d [] (fun _=>none):=
 ⟨fun j _ h=>by simp at h,fun z k=>by simp⟩
theorem bJ.congr{lt lt':Int->Int->Bool}(a:cV d){l:List Int}{pl:Int->Option Int}(h:bJ lt d l pl)(n:∀z∈l,∀y∈l,lt z y=lt' z y):bJ lt' d l pl:=by
 refine⟨fun j x w=>?_,h.pl⟩;have m:=db a x;have e:∀k,k<l.length->l.getD k 0∈l:=Z;rw[<-n _ (e j w) _ Z];exact h.heap j x w
theorem bJ.add{lt:Int->Int->Bool}(t:bA lt)(m:cV d){l:List Int}{pl:Int->Option Int}(h:bJ lt d l pl)(B:pl x=none):
  bJ lt d (fD lt d x l.length (l++[x]) pl l.length).l (fD lt d x l.length (l++[x]) pl l.length).pl/\
   (∀z,z∈(fD lt d x l.length (l++[x]) pl l.length).l↔z=x\/z∈l)/\(fD lt d x l.length (l++[x]) pl l.length).l.length=l.length+1/\
   (fD lt d x l.length (l++[x]) pl l.length).asked<=ix d l.length:=by
 have f:=m.1;have e:∀k,k<l.length->(l++[x]).getD k 0=l.getD k 0:=Z;have v:∀j:Nat,1<=j->j<l.length+1->pa d j≠l.length:=fun j w n=>by have:=db m w;omega
 have y:Od (l++[x]) pl l.length x:=by
  intro z A k;rw[h.pl z k];constructor
  ·grind
  ·grind
 have L:x∉l:=fun hm=>by
  obtain⟨k,g⟩:=als hm;have:=(h.pl x k).2 Z;grind
 have p:∀z,Gp (l++[x]) l.length z↔z∈l:=by
  intro z;constructor
  ·rintro⟨k,C,K⟩;grind
  ·intro hm;obtain⟨k,g⟩:=als hm;have:=(ak8.1 g).1;exact⟨k,O,Z⟩
 obtain⟨q,o⟩:=zM (lt:=lt) (d:=d) x l.length (l++[x]) pl l.length (by simp) O Z y Z;refine⟨⟨Hy t m x _ _ _ _ (by simp) O Z ⟨fun j w n a c=>?_,fun j w n a c=>?_⟩ (fun j w n a=>?_),q⟩,fun z=>by rw[o z,p z],by rw[tz];simp,?_⟩
 ·simp only[Int.toNat_natCast]at a c;have:j<l.length:=by simp at n;omega
  have u:=db m w;rw[e j this,e _ O];exact h.heap j w this
 ·simp only[Int.toNat_natCast]at a;exact absurd a (v j w (by simpa using n))
 ·simp only[Int.toNat_natCast]at a;exact absurd a (v j w (by simpa using n))
 ·have:=Do lt d x l.length (l++[x]) pl l.length;unfold ix;grind
theorem bJ.Um{lt:Int->Int->Bool}(n:bA lt)(w:cV d){l:List Int}{pl:Int->Option Int}(h:bJ lt d l pl)(m:pl x=some i):
  bJ lt d (cU lt d x l pl i).1 (cU lt d x l pl i).2.1/\(cU lt d x l pl i).1.length=l.length - 1/\
   (∀z,z∈(cU lt d x l pl i).1↔z∈l/\z≠x)/\((cU lt d x l pl i).2.2:Int)<=d*(ix d ((l.length:Int) - 1):Nat)+1:=by
 obtain⟨a,b,c,e,g⟩:=JD n w h.heap h.pl m;exact⟨⟨a,b⟩,c,e,g⟩
theorem bJ.mem{lt:Int->Int->Bool}{l:List Int}{pl:Int->Option Int}(h:bJ lt d l pl)(z:Int):z∈l↔pl z≠none:=by
 constructor
 ·intro hm;obtain⟨k,x⟩:=als hm;rw[(h.pl z k).2 Z];simp
 ·intro w;obtain⟨k,x⟩:=Option.ne_none_iff_exists'.1 w;exact ali ((h.pl z k).1 x).2
theorem bJ.least{lt:Int->Int->Bool}(w:bA lt)(a:cV d){l:List Int}{pl:Int->Option Int}(h:bJ lt d l pl)(e:l[0]? =some x):∀z∈l,z≠x->lt x z=true:=by
 intro z c v;obtain⟨k,n⟩:=als c;have m:=(ak8.1 n).1;have:=Dp w a h.heap k k (alj _) m;cases w;grind
theorem bJ.raise{lt lt':Int->Int->Bool}(C:bA lt)(K:bA lt')(m:cV d){l:List Int}{pl:Int->Option Int}(h:bJ lt d l pl)(F:pl x=some i)(u:∀a∈l,∀b∈l,a≠x->b≠x->lt' a b=lt a b)(A:∀z∈l,z≠x->lt z x=false->lt' z x=false):
  bJ lt' d (fD lt' d x i.toNat l pl i).l (fD lt' d x i.toNat l pl i).pl/\(∀z,z∈(fD lt' d x i.toNat l pl i).l↔z∈l)/\(fD lt' d x i.toNat l pl i).l.length=l.length/\
   (fD lt' d x i.toNat l pl i).asked<=ix d ((l.length:Int) - 1):=by
 obtain⟨i0,hi⟩:=(h.pl x i).1 F;have I:i.toNat<l.length:=(ak8.1 hi).1;have g:∀j,j<l.length->j≠i.toNat->l.getD j 0≠x:=fun j t q e=>by
  have:l[j]? =some x:=by rw[ak9 t,<-e,alf,ak9 t];rfl
  exact q (h.pl.zL this hi)
 have y:∀j,j<l.length->l.getD j 0∈l:=fun j t=>by rw[alf,ak9 t];exact List.getElem_mem t
 have f:=h.heap.but C m i.toNat;have L:¬Gp l i x:=by
  rintro⟨k,G,o⟩;have:=h.pl.zL o hi;omega
 obtain⟨Q,U⟩:=zM (lt:=lt') (d:=d) x i.toNat l pl i (alj _) i0 O (h.pl.aby hi i0) L;refine⟨⟨Hy K m x _ _ _ _ (alj _) i0 O ⟨fun j n w c v=>?_,fun j n w c v=>?_⟩ (fun j n w c=>?_),Q⟩,fun z=>?_,tz _ _ _ _ _ _ _,?_⟩
 ·have:=db m n;rw[u _ (y j w) _ (y _ O) (g j w c) (g _ O v)];exact f.1 j n w c v
 ·have:=db m n;have:=db m v;rw[u _ (y j w) _ (y _ O) (g j w O) (g _ O O)];exact f.2 j n w c v
 ·have V:=db m n;have q:=g j w O;have:=h.heap j n w;rw[c,show l.getD i.toNat 0=x by rw[alf,hi];rfl]at this;exact A _ (y j w) q this
 ·rw[U z];constructor
  ·rintro(rfl| ⟨k,_,o⟩)
   ·exact ali hi
   ·exact ali o
  ·intro hm;obtain⟨k,p⟩:=als hm;by_cases e:(k:Int)=i
   ·rw[show k=i.toNat by omega,hi]at p;injection p with p;exact .inl p.symm
   ·exact .inr ⟨k,e,p⟩
 ·have W:=Do lt' d x i.toNat l pl i;have B:=jV m ((l.length:Int) - 1).toNat i ((l.length:Int) - 1) (alj _) O;unfold ix at B ⊢;omega
structure Rw where
 r:Nat
 S:Nat->Prop
 l:List Int
 pl:Int->Option Int
def Np:Option Rw->Value
 |none=>.pointer none
 |some R=>ptr R.r
structure gA(H:Hp)(n c:Nat)(C:Nat->Prop)(rv:Value)(fp:Option Nat)(d st:Int)(w:Nw)(rs:List (Option Rw)):Prop where
 own:H.own n=some [ptr c,i64 d,rv]
 cells:bj H c C st w
 sl:Sl H 1 rv rs.length (rs.map Np) fp
 row:∀ (h:Nat) R,rs[h]? =some (some R)->dt H R.r R.S d R.l R.pl
 nC:¬C n
 uA:∀b,fp=some b->b≠n/\¬C b
 kW:∀ (h:Nat) R,rs[h]? =some (some R)->∀x,R.S x->¬C x/\x≠n/\fp≠some x
 sI:∀ (h h':Nat) R R',rs[h]? =some (some R)->rs[h']? =some (some R')->h≠h'->∀x,R.S x->¬R'.S x
def yi(n:Nat)(C:Nat->Prop)(fp:Option Nat)(rs:List (Option Rw))(z:Nat):Prop:=C z\/z=n\/fp=some z\/∃ (h:Nat) (R:Rw),rs[h]? =some (some R)/\R.S z
structure Gs(d:Int)(w:Nw)(rs:List (Option Rw)):Prop where
 pK:cV d
 hl:rs.length=w.hs.length
 hs:∀h:Nat,w.hs[h]? =some true↔∃R,rs[h]? =some (some R)
 h0:rs[0]? =some none
 ok:∀ (h:Nat) R,rs[h]? =some (some R)->bJ (aU w) d R.l R.pl
 mem:∀ (h:Nat) R,rs[h]? =some (some R)->∀x:Int,x∈R.l↔0<=x/\∃e,w.cs[x.toNat]? =some (((h:Nat):Int),e)
 len:∀ (h:Nat) R,rs[h]? =some (some R)->(R.l.length:Int)=w.len h
def cX(H:Hp)(n:Nat)(S:Nat->Prop)(d st:Int)(w:Nw):Prop:=∃c C rv fp rs,gA H n c C rv fp d st w rs/\Gs d w rs/\(∀z,yi n C fp rs z↔S z)
theorem gA.slt{H:Hp}{C:Nat->Prop}{w:Nw}{rs:List (Option Rw)}(h:gA H n c C rv fp d st w rs):∀z,yi n C fp rs z->z<H.size:=by
 rintro z (x|rfl|x| ⟨i,R,l,x⟩)
 ·exact h.cells.slt z x
 ·exact aB h.own
 ·exact Sl.lt (x▸h.sl)
 ·exact(h.row i R l).slt z x
theorem gA.ext{H J:Hp}{C T:Nat->Prop}{w:Nw}{rs:List (Option Rw)}(h:gA H n c C rv fp d st w rs)(e:aj T H J)(l:∀z,yi n C fp rs z->¬T z):gA J n c C rv fp d st w rs:=
 ⟨e.own h.own (l n (.inr (.inl rfl))),h.cells.ext e (fun x a=>l x (.inl a)),h.sl.ext e (fun b v=>l b (.inr (.inr (.inl v)))),fun i R m=>(h.row i R m).ext e (fun x a=>l x (.inr Z)),h.nC,h.uA,h.kW,h.sI⟩
theorem cX.slt{H:Hp}{S:Nat->Prop}{w:Nw}(h:cX H n S d st w):∀z,S z->z<H.size:=by
 obtain⟨c,C,rv,fp,rs,m,l,x⟩:=h;exact fun z a=>m.slt z ((x z).2 a)
theorem cX.ext{H J:Hp}{S T:Nat->Prop}{w:Nw}(h:cX H n S d st w)(e:aj T H J)(a:∀z,S z->¬T z):cX J n S d st w:=by
 obtain⟨c,C,rv,fp,rs,m,l,x⟩:=h;exact⟨c,C,rv,fp,rs,m.ext e Z,l,x⟩
theorem cX.fresh{H J:Hp}{S:Nat->Prop}{w:Nw}(h:cX H n S d st w)(e:af H J):cX J n S d st w:=h.ext e fun _ _ h=>h
theorem uW(cap d:Int)(H:Hp):aD 87 [i64 cap,i64 d] H fun v J=>ak (
  af H J/\((¬ (0<=cap/\cap<=65536)/\v= .tuple [.pointer none,i64 31].toArray)\/((0<=cap/\cap<=65536)/\¬cV d/\v= .tuple [.pointer none,i64 22].toArray)\/
   ((0<=cap/\cap<=65536)/\cV d/\∃n S,v= .tuple [ptr n,i64 0].toArray/\cX J n S d 0 ⟨[false],List.replicate cap.toNat (0,0,0)⟩/\∀x,S x->H.size<=x))):=by
 refine aL KT ?_;refine vs ?_;refine(km cap H).mono ?_;rintro _ p ⟨m,⟨a,rfl⟩| ⟨a,c,C,rfl,t,f⟩⟩
 ·refine vs ?_;exact⟨m,.inl ⟨a,rfl⟩⟩
 refine vs ?_;refine(uQ d p).mono ?_;rintro _ l ⟨e,⟨g,rfl⟩| ⟨g,r,S,rfl,B,u⟩⟩
 ·refine vs ?_;exact⟨m.trans e,.inr (.inl ⟨a,g,rfl⟩)⟩
 refine v1 alr ?_;have j:af l ((l.new 216 [.pointer none]).new 221 [ptr c,i64 d,.slice (some ⟨l.size,0,none⟩) 1 1]):=bm.new _ _;have L:=m.size;have A:=e.size;have q:=t.slt;refine⟨(m.trans e).trans j,.inr (.inr ⟨a,g,l.size+1,yi (l.size+1) C (some l.size) [none],rfl,⟨c,C,.slice (some ⟨l.size,0,none⟩) 1 1,some l.size,[none],
  ⟨az (by simp only[ag]),(t.fresh e).fresh j,?_,fun h R w=>?_,Z,fun b a=>?_,fun h R w=>?_,fun h o R R' w=>?_⟩,
  ⟨g,rfl,fun h=>?_,rfl,fun h R w=>?_,fun h R w=>?_,fun h R w=>?_⟩,fun z=>Iff.rfl⟩,fun x y=>?_⟩)⟩
 ·exact(Sl.bs (size:=1) (n:=1) (xs:=[.pointer none]) rfl rfl).ext ((aj.refl (fun _=>False) _).new _ _) (fun _ _ h=>h)
 ·rcases h with _|h<;>simp at w
 ·injection a with a;subst a;exact⟨O,fun h=>by have:=q _ h;omega⟩
 ·rcases h with _|h<;>simp at w
 ·rcases h with _|h<;>simp at w
 ·rcases h with _|h<;>simp
 ·rcases h with _|h<;>simp at w
 ·rcases h with _|h<;>simp at w
 ·rcases h with _|h<;>simp at w
 ·rcases y with y|rfl|y| ⟨i,R,w,y⟩
  ·grind
  ·omega
  ·grind
  grind
theorem yj{C:Nat->Prop}{w:Nw}(t:¬C n):Lb (.iface 165 (ptr n)) (fun H k=>bj H c C (min (st+k) 4611686018427387904) w/\H.own n=some [ptr c,i64 d,rv])
  (fun x=>C x\/x=n) (aU w) (cu w.cs):=by
 refine⟨fun H k a b m g h=>⟨_,_,391,ptr c,rfl,cz (off:=0) Y (ae h.2) rfl,(iN h.1 a b).mono ?_⟩,Xx (x:=(0,391)) Y,fun H J k U h e y=>?_,fun H k h x l=>?_⟩
 ·rintro v J ⟨rfl,z,e⟩;rw[if_pos ⟨m,g⟩]at z;have j:fP (min (st+(k:Nat)) 4611686018427387904) 1=min (st+((k+1:Nat):Int)) 4611686018427387904:=by
   unfold fP;rw[if_neg O];omega
  rw[j]at z;exact⟨by rw[tA m g],⟨z,e.own h.2 t⟩,e.mono Z⟩
 ·exact⟨h.1.ext e Z,e.own h.2 (y n (.inr rfl))⟩
 ·rcases l with l|rfl
  ·exact h.1.slt x l
  ·exact aB h.2
theorem DH{H:Hp}{S:Nat->Prop}{w:Nw}(h:cX H n S d st w):aD 357 [ptr n] H fun v J=>ak (
  (w.hs.length=65537/\v=i64 0/\H=J)\/
  (w.hs.length≠65537/\v=i64 w.hs.length/\∃V,cX J n V d st w.make/\aj S H J/\∀x,V x->S x\/H.size<=x)):=by
 obtain⟨c,C,rv,fp,rs,m,l,j⟩:=h;refine aL zn ?_;refine v1 (ae m.own) ?_;refine(ju m.cells).mono ?_;rintro _ H1 (⟨U,rfl,rfl⟩| ⟨U,rfl,K,G,f,hC'⟩)
 ·refine vs ?_;exact .inl ⟨U,rfl,rfl⟩
 have pG:0<rs.length:=(ak8.1 l.h0).1;have wT:=l.hl;have X:=f.own m.own m.nC;refine vs ?_;refine ai.bK Z ?_;refine v1 (ae X) ?_;refine(uQ d H1).mono ?_;rintro _ B ⟨q,⟨hf,_⟩| ⟨_,r,L,rfl,r2,hSr⟩⟩
 ·exact absurd l.pK hf
 have o2:=q.own X (fun h=>h);refine v1 (ae o2) ?_;have Hv:=m.cells.Hv;have W:=m.slt;have abZ:=G.slt;have Mp:=r2.slt;have z1:=f.size;have z2:=q.size;have F:aj (fun _=>False) B (B.new 216 [ptr r]):=bm;have sl2:=(m.sl.ext f (fun b o h=>(m.uA b o).2 h)).ext q (fun _ _ h=>h);refine Sl.append (sl2.ext F (fun _ _ h=>h)) (Sl.bs (size:=1) (xs:=[ptr r]) rfl rfl).rd rfl (by intro v M;simp only[alv]at M;subst M;rfl) O ?_;intro I H3 Q s3 D ww;have o3:=D.own (F.own o2 (fun h=>h)) (fun e=>(m.uA n e).1 rfl);obtain⟨a',Km,E⟩:=bD.Dj s3.rd;subst E;refine v1 o3 ?_;generalize E:Value.slice a' (rs.length+1) Km=I at*;have u:aj (fun z=>z=n) H3 (H3.wr n [ptr c,i64 d,I]):=(aj.refl (fun z=>z=n) _).wr (fun _=>rfl) _;have hn:=aB m.own;have agN:∀b,fp=some b->b<H.size:=fun b o=>W b (.inr (.inr (.inl o)));have hCl:∀z,C z->z<H.size:=fun z p=>W z (.inl p);have RD:∀b,Q=some b->fp=some b\/B.size<=b:=fun b o=>by
  grind [ag]
 have hC1:∀z,K z->C z\/H.size<=z:=hC';have A:aj (fun z=>fp=some z) B H3:=(F.mono fun _ _ h=>h.elim).lE D (fun z _ h=>h);have t:∀ (h:Nat) R,(rs++[some (⟨r,L,[],fun _=>none⟩:Rw)])[h]? =some (some R)->rs[h]? =some (some R)\/(h=rs.length/\R=⟨r,L,[],fun _=>none⟩):=Z;have hold:∀ (h:Nat) R,rs[h]? =some (some R)->∀x,R.S x->¬C x/\x≠n/\fp≠some x/\x<H.size:=fun h R a x g=>
  ⟨(m.kW h R a x g).1,(m.kW h R a x g).2.1,(m.kW h R a x g).2.2,W x (.inr Z)⟩
 have XR:∀ (x:Nat) (e:Int×Int),w.cs[x]? ≠some (((rs.length:Nat):Int),e):=fun x e g=>by
  have:=(m.cells.home _ (ali g)).2;omega
 refine .inr ⟨U,rfl,yi n K Q (rs++[some ⟨r,L,[],fun _=>none⟩]),⟨c,K,I,Q,rs++[some ⟨r,L,[],fun _=>none⟩],
  ⟨ah o3,?_,?_,fun h R a=>?_,fun h=>?_,fun b o=>⟨?_,fun h=>?_⟩,fun h R a x g=>⟨fun h=>?_,?_,fun h=>?_⟩,fun h h' R R' a hR' ny x g T4=>?_⟩,
  ⟨l.pK,?_,fun h=>?_,?_,fun h R a=>?_,fun h R a x=>?_,fun h R a=>?_⟩,fun z=>Iff.rfl⟩,?_,fun x g=>?_⟩
 ·exact(((G.ext q (fun _ _ h=>h)).ext A (fun x g e=>by
   cases m;grind)).ext u (fun x g e=>by
   cases m;grind))
 ·have:=s3.ext u (fun b o e=>by
   cases m;grind)
  rw[alm,alG];exact this
 ·rcases t h R a with y| ⟨rfl,rfl⟩
  ·exact((((m.row h R y).ext f Z).ext q (fun _ _ h=>h)).ext A Z).ext u Z
  ·exact(r2.ext A Z).ext u Z
 ·cases m;grind
 ·cases m;grind
 ·cases m;grind
 ·rcases t _ R a with y| ⟨_,rfl⟩
  ·grind
  grind
 ·rcases t _ R a with y| ⟨_,rfl⟩
  ·grind
  grind
 ·rcases t _ R a with y| ⟨_,rfl⟩
  ·grind
  grind
 ·cases m;grind
 ·simp[Nw.make,wT]
 ·show(w.hs++[true])[h]? =some true↔_;cases l;grind
 ·cases l;grind
 ·rcases t h R a with y| ⟨rfl,rfl⟩
  ·exact l.ok h R y
  ·exact bJ.nil _ _
 ·rcases t h R a with y| ⟨rfl,rfl⟩
  ·exact l.mem h R y x
  ·simp only[List.not_mem_nil,false_iff];rintro⟨_,e,he⟩;exact XR _ _ he
 ·rcases t h R a with y| ⟨rfl,rfl⟩
  ·exact l.len h R y
  ·show((0:Nat):Int)=w.len _;unfold Nw.len;rw[if_pos O,amI.2 (fun x g=>by
    have:=(m.cells.home x g).2;grind)]
 ·exact((f.mono fun z _ p=>(j z).1 (.inl p)).trans ((q.mono fun _ _ h=>h.elim).trans (A.mono fun z _ p=>(j z).1 (.inr (.inr (.inl p)))))).trans (u.mono fun z _ p=>(j z).1 (.inr (.inl p)))
 ·rcases g with g|rfl|g| ⟨i,R,a,g⟩
  ·rcases hC1 x g with h|h
   ·exact .inl ((j x).1 (.inl h))
   omega
  ·exact .inl ((j x).1 (.inr (.inl rfl)))
  ·rcases RD x g with h|h
   ·exact .inl ((j x).1 (.inr (.inr (.inl h))))
   omega
  ·rcases t _ R a with y| ⟨_,rfl⟩
   ·exact .inl ((j x).1 (.inr Z))
   grind
theorem Gs.ee{w:Nw}{rs:List (Option Rw)}(l:Gs d w rs){g:Int}(h:w.has g):∃R,rs[g.toNat]? =some (some R):=(l.hs g.toNat).1 h.2
theorem uX{H:Hp}{S:Nat->Prop}{w:Nw}(h:cX H n S d st w)(g:Int):aD 359 [ptr n,i64 g] H fun v J=>ak (
  ((¬w.has g/\v= .tuple [i64 0,.bool false].toArray)\/(w.has g/\w.len g=0/\v= .tuple [i64 0,.bool false].toArray)\/
   (w.has g/\∃x,cu w.cs x/\(∃e,w.cs[x.toNat]? =some (g,e))/\v= .tuple [i64 x,.bool true].toArray/\∀y,0<=y->(∃e,w.cs[y.toNat]? =some (g,e))->y≠x->aU w x y=true))/\H=J):=by
 obtain⟨c,C,rv,fp,rs,m,l,U⟩:=h;refine aL Be ?_;refine v1 (ae m.own) ?_;refine(gQ m.cells g).mono ?_;rintro _ _ ⟨rfl,rfl⟩;refine vs ?_;refine ai.dec (fun z=>?_) (fun z=>?_)
 ·obtain⟨R,a⟩:=l.ee z;have Q:=z.1;have W:=(ak8.1 a).1;obtain⟨b,o,c',lb,f,u,K,B⟩:=bD.get m.sl.rd (i:=g.toNat) (j:=0) (x:=ptr R.r) O (by simp[a,Np]);subst f;have p:((g.toNat:Nat):Int)=g:=O;refine v1 (ae m.own) ?_;refine⟨O,?_⟩;refine v2 u (show lb[o+g.toNat*1]? =some (ptr R.r)from B) ?_;refine(Hx (m.row _ R a) 0).mono ?_;rintro _ _ ⟨rfl,rfl⟩;have q:=l.mem _ R a;rw[p]at q;have L:=l.len _ R a;rw[p]at L;rw[show(if(0:Int)<=0 then R.l[Int.toNat 0]? else none)=R.l[0]? from rfl,Rj];cases F:R.l[0]? with
  |none=>
   have:R.l.length=0:=by
    rcases Nat.eq_zero_or_pos R.l.length with h|h
    ·exact h
    ·grind
   simp(disch:=(first|exact aV|fail)) only[go_sem, ↓reduceIte,Zv,Option.isSome_none,Option.getD_none];exact⟨.inr (.inl ⟨z,O,rfl⟩),rfl⟩
  |some x=>
   simp(disch:=(first|exact aV|fail)) only[go_sem, ↓reduceIte,Zv,Option.isSome_some,Option.getD_some];obtain⟨A,e,t⟩:=(q x).1 Z;refine⟨.inr (.inr ⟨z,x,⟨A,_,t,O⟩,⟨e,t⟩,rfl,fun y G V I=>?_⟩),rfl⟩;cases l;grind [bJ.least,ar]
 ·refine vs ?_;exact⟨.inl ⟨z,rfl⟩,rfl⟩
theorem gA.setRow{H J:Hp}{C T:Nat->Prop}{K:Int}{w w':Nw}{rs:List (Option Rw)}(m:gA H n c C rv fp d st w rs){g:Nat}{R R':Rw}(f:rs[g]? =some (some R))(U:R'.r=R.r)
  (row:dt J R'.r R'.S d R'.l R'.pl)(u:∀z,R'.S z->R.S z\/H.size<=z)(e:aj T H J)(V:∀z,T z->C z\/R.S z\/z=n)(cells:bj J c C K w')(own:J.own n=some [ptr c,i64 d,rv]):
  gA J n c C rv fp d K w' (rs.set g (some R')):=by
 have v:=m.slt;have D:=(ak8.1 f).1;have a:∀ (h:Nat) Q,(rs.set g (some R'))[h]? =some (some Q)->(h=g/\Q=R')\/(h≠g/\rs[h]? =some (some Q)):=Z;refine⟨own,cells,?_,fun h Q l=>?_,m.nC,m.uA,fun h Q l x y=>?_,fun h L Q B l A M x y I=>?_⟩
 ·have t:(rs.set g (some R')).map Np=rs.map Np:=by
   rw[alD];refine alB fun i=>?_;by_cases hi:i=g
   ·subst hi;rw[aln Z,alz,f];simp[Np,U]
   ·grind
  rw[t,alb];exact m.sl.ext e (fun b G W=>by
   cases m;grind)
 ·rcases a h Q l with ⟨rfl,rfl⟩| ⟨t,j⟩
  ·exact row
  ·exact(m.row h Q j).ext e (fun x y W=>by
    cases m;grind)
 ·rcases a h Q l with ⟨rfl,rfl⟩| ⟨t,j⟩
  ·rcases u x y with p|p
   ·exact m.kW _ R f x p
   ·refine⟨fun q=>?_,fun q=>?_,fun q=>?_⟩
    ·have:=v x (.inl q);omega
    ·have:=v n (.inr (.inl rfl));omega
    ·have:=v x (.inr (.inr (.inl q)));omega
  ·exact m.kW h Q j x y
 ·rcases a h Q l with ⟨rfl,rfl⟩| ⟨t,j⟩
  ·rcases a L B A with ⟨rfl,rfl⟩| ⟨p,F⟩
   ·omega
   ·rcases u x y with o|o
    ·cases m;grind
    ·have:=v x (.inr Z);omega
  ·rcases a L B A with ⟨rfl,rfl⟩| ⟨p,F⟩
   ·rcases u x I with o|o
    ·cases m;grind
    ·have:=v x (.inr Z);omega
   cases m;grind
theorem RE(lt:Int->Int->Bool)(z:cV d)(x:Int){m:Nat}(l:List Int)(pl:Int->Option Int)(hi:1<=i)(hm:i.toNat<=m):0< (fD lt d x m l pl i).asked:=by
 obtain⟨q,rfl⟩:∃q,m=q+1:=⟨m - 1,O⟩;have h:bu d i=some ((i - 1) / d):=by unfold bu;grind
 simp only[fD,h];split<;>simp
theorem Ad{H:Hp}{S:Nat->Prop}{w:Nw}(h:cX H n S d st w)(g x k s:Int):aD 355 [ptr n,i64 g,i64 x,ms k s] H fun v J=>ak (
  (¬ (w.has g/\(0<=x/\x<w.cs.length)/\¬cu w.cs x)/\v= .bool false/\cX J n S d st w/\aj S H J)\/
  ((w.has g/\(0<=x/\x<w.cs.length)/\¬cu w.cs x)/\v= .bool true/\∃ (u:Nat->Prop) (q:Nat),(q:Int)<=ix d (w.len g).toNat/\(0<w.len g->0<q)/\cX J n u d (min (st+q) 4611686018427387904) (w.put x (g,k,s))/\aj S H J/\∀z,u z->S z\/H.size<=z)):=by
 obtain⟨c,C,rv,fp,rs,m,l,L⟩:=h;refine aL vK ?_;refine vs ?_;have A:af H (H.new 148 [i64 k,u64 s]):=bm;have b0:(H.new 148 [i64 k,u64 s]).own H.size=some [i64 k,u64 s]:=am _ _ _;have B:=m.ext A (fun _ _ h=>h);generalize H.new 148 [i64 k,u64 s]=H0 at*;refine v2 (ae B.own) (ae b0) ?_;refine(kq B.cells g x k s).mono ?_;rintro _ H1 (⟨kV,rfl,F,f⟩| ⟨HI,rfl,F,f⟩)
 ·refine vs ?_;refine .inl ⟨kV,rfl,⟨c,C,rv,fp,rs,?_,l,L⟩,(A.mono fun _ _ h=>h.elim).trans (f.mono fun z _ a=>(L z).1 (.inl a))⟩;exact⟨f.own B.own m.nC,F,B.sl.ext f (fun b W h=>(m.uA b W).2 h),fun i R t=>(B.row i R t).ext f (fun x D=>(m.kW i R t x D).1),m.nC,m.uA,m.kW,m.sI⟩
 ·obtain⟨hh,⟨j4,ED⟩,mj⟩:=id HI;obtain⟨R,t⟩:=l.ee hh;have h1:=hh.1;have Pp:((g.toNat:Nat):Int)=g:=O;have pC:=l.mem _ R t;have ec:=l.len _ R t;rw[Pp]at pC ec;obtain⟨c0,hc0⟩:∃c0,w.cs[x.toNat]? =some c0:=Z;have Dx:¬0<c0.1:=fun h=>mj ⟨j4,c0,hc0,h⟩;have j1:(w.put x (g,k,s)).cs[x.toNat]? =some (g,k,s):=aln O;have yf:∀y:Nat,y≠x.toNat->(w.put x (g,k,s)).cs[y]? =w.cs[y]? :=fun y K=>alh (Ne.symm K);have Uc:∀ (i:Nat) Q,rs[i]? =some (some Q)->x∉Q.l:=fun i Q p hm=>by
   cases l;grind
  have V:∀ (i:Nat) Q,rs[i]? =some (some Q)->∀y∈Q.l,0<=y/\y.toNat≠x.toNat:=fun i Q p y K=>by
   cases l;grind
  have XS:∀ (i:Nat) Q,rs[i]? =some (some Q)->bJ (aU (w.put x (g,k,s))) d Q.l Q.pl:=fun i Q p=>
   bJ.congr l.pK (l.ok i Q p) fun z a y K=>(gS w x _ (V i Q p z a).2 (V i Q p y K).2).symm
  have DF:∀z∈R.l,cu (w.put x (g,k,s)).cs z:=fun z a=>by
   obtain⟨z0,e,he⟩:=(pC z).1 a;exact⟨z0,_,by rw[yf _ (V _ R t z a).2];exact he,O⟩
  have Ud:cu (w.put x (g,k,s)).cs x:=⟨j4,_,j1,O⟩;have o1:=f.own B.own m.nC;have RB:=m.cells.st;have M:gA H1 n c C rv fp d st (w.put x (g,k,s)) rs:=⟨o1,F,B.sl.ext f (fun b W h=>(m.uA b W).2 h),fun i R t=>(B.row i R t).ext f (fun x D=>(m.kW i R t x D).1),m.nC,m.uA,m.kW,m.sI⟩;have iD:=(ak8.1 t).1;obtain⟨b,o,c',lb,q1,q2,q3,q4⟩:=bD.get M.sl.rd (i:=g.toNat) (j:=0) (x:=ptr R.r) O (by simp[t,Np]);subst q1;refine v1 (ae o1) ?_;refine⟨O,?_⟩;refine v2 q2 (show lb[o+g.toNat*1]? =some (ptr R.r)from q4) ?_;have uv:=m.cells.yY;have wT:R.l.length<=65536:=by have:=(w.kl g).2;omega
  refine(uS (yj (c:=c) (rv:=.slice (some ⟨b,o,none⟩) rs.length c') (d:=d) (st:=st) (w:=w.put x (g,k,s)) m.nC) (M.row _ R t) (fun z a ht=>?_) (n:=0) Z x O Ud DF).mono ?_
  ·cases m;grind
  rintro _ H2 (⟨G,_,_⟩| ⟨G,rfl,u,r2,⟨E,o2⟩,X,X3⟩)
  ·exact absurd ((bJ.mem (l.ok _ R t) x).2 G) (Uc _ R t)
  obtain⟨p1,p2,p3,p4⟩:=bJ.add (ar (w.put x (g,k,s))) l.pK (XS _ R t) G;have hq:0<R.l.length->0< (fD (aU (w.put x (g,k,s))) d x R.l.length (R.l++[x]) R.pl R.l.length).asked:=fun h=>RE _ l.pK x _ _ O O;generalize hU:fD (aU (w.put x (g,k,s))) d x R.l.length (R.l++[x]) R.pl R.l.length=U at*;rw[ak7]at E;refine vs ?_;have Ms:∀z,(R.S z\/C z\/z=n)->S z:=fun z a=>(L z).1 (by
   rcases a with a|a|a
   ·exact .inr Z
   ·exact .inl a
   ·exact .inr (.inl a))
  have I:∀ (h:Nat) Q,(rs.set g.toNat (some (⟨R.r,u,U.l,U.pl⟩:Rw)))[h]? =some (some Q)->(h=g.toNat/\Q=⟨R.r,u,U.l,U.pl⟩)\/(h≠g.toNat/\rs[h]? =some (some Q)):=Z;refine .inr ⟨HI,rfl,yi n C fp (rs.set g.toNat (some ⟨R.r,u,U.l,U.pl⟩)),U.asked,?_,O,
   ⟨c,C,_,fp,rs.set g.toNat (some ⟨R.r,u,U.l,U.pl⟩),M.setRow t (R':=⟨R.r,u,U.l,U.pl⟩) rfl r2 X3 X (fun z a=>?_) E o2,
    ⟨l.pK,by rw[alb];exact l.hl,fun h=>?_,?_,fun h Q p=>?_,fun h Q p y=>?_,fun h Q p=>?_⟩,fun z=>Iff.rfl⟩,?_,fun z a=>?_⟩
  ·grind
  ·grind
  ·show w.hs[h]? =some true↔_;rw[l.hs h];grind
  ·cases l;grind
  ·grind
  ·rcases I h Q p with ⟨rfl,rfl⟩| ⟨h5,h6⟩
   ·grind
   cases l;grind
  ·rcases I h Q p with ⟨rfl,rfl⟩| ⟨h5,h6⟩
   ·grind [Nw.gm]
   cases l;grind [Nw.gm]
  ·exact(A.mono fun _ _ h=>h.elim).trans ((f.mono Z).trans (X.mono Z))
  ·have z0:=A.size;have z1:=f.size;rcases a with a|rfl|a| ⟨i,Q,p,a⟩
   ·grind
   ·grind
   ·exact .inl ((L z).1 (.inr (.inr (.inl a))))
   ·rcases I i Q p with ⟨rfl,rfl⟩| ⟨h5,h6⟩
    ·grind
    ·exact .inl ((L z).1 (.inr Z))
theorem gA.aE{H z:Hp}{C:Nat->Prop}{v:Int}{w:Nw}{rs:List (Option Rw)}(m:gA H n c C rv fp d st w rs)(e:bj z c C v w)(l:aj C H z):gA z n c C rv fp d v w rs:=
 ⟨l.own m.own m.nC,e,m.sl.ext l (fun b g h=>(m.uA b g).2 h),fun i R a=>(m.row i R a).ext l (fun x y=>(m.kW i R a x y).1),m.nC,m.uA,m.kW,m.sI⟩
theorem og{H:Hp}{S:Nat->Prop}{w:Nw}(h:cX H n S d st w)(x:Int):aD 350 [ptr n,i64 x] H fun v J=>ak (
  (¬cu w.cs x/\v= .bool false/\H=J)\/
  (cu w.cs x/\v= .bool true/\∃ (c0:Ce) (q:Nat),w.cs[x.toNat]? =some c0/\(q:Int)<=d*(ix d (w.len c0.1 - 1):Nat)+1/\∃E,cX J n E d (min (st+q) 4611686018427387904) (w.put x (0,0,0))/\aj S H J/\∀z,E z->S z\/H.size<=z)):=by
 obtain⟨c,C,rv,fp,rs,m,l,F⟩:=h;refine aL vI ?_;refine v1 (ae m.own) ?_;refine(cW m.cells x).mono ?_;rintro _ M (⟨V,rfl,rfl⟩| ⟨I,c0,W,rfl,c1,u⟩)
 ·refine vs ?_;exact .inl ⟨V,rfl,rfl⟩
 obtain⟨j4,c0',B,pG⟩:=id I;rw[W]at B;injection B with B;subst B;obtain⟨R,g⟩:=(l.hs c0.1.toNat).1 (m.cells.live _ Z pG);have Pp:((c0.1.toNat:Nat):Int)=c0.1:=O;have pC:=l.mem _ R g;have ec:=l.len _ R g;rw[Pp]at pC ec;have j1:(w.put x (0,0,0)).cs[x.toNat]? =some (0,0,0):=aln Z;have yf:∀y:Nat,y≠x.toNat->(w.put x (0,0,0)).cs[y]? =w.cs[y]? :=fun y f=>alh (Ne.symm f);have o1:=u.own m.own m.nC;have D:gA M n c C rv fp d st w rs:=⟨o1,c1,m.sl.ext u (fun b hb h=>(m.uA b hb).2 h),fun i R g=>(m.row i R g).ext u (fun x hx=>(m.kW i R g x hx).1),m.nC,m.uA,m.kW,m.sI⟩;have iD:=(ak8.1 g).1;have hxR:x∈R.l:=Z;have DF:∀z∈R.l,cu w.cs z:=fun z a=>by
  obtain⟨z0,e,he⟩:=(pC z).1 a;exact⟨z0,_,he,pG⟩
 obtain⟨b,o,c',lb,q1,q2,q3,q4⟩:=bD.get D.sl.rd (i:=c0.1.toNat) (j:=0) (x:=ptr R.r) O (by simp[g,Np]);subst q1;have RB:=m.cells.st;have uv:=m.cells.yY;have wT:R.l.length<=65536:=by have:=(w.kl c0.1).2;omega
 refine v1 (ae o1) ?_;refine⟨O,?_⟩;refine v2 q2 (show lb[o+c0.1.toNat*1]? =some (ptr R.r)from q4) ?_;refine(Ac (yj (c:=c) (rv:=.slice (some ⟨b,o,none⟩) rs.length c') (d:=d) (st:=st) (w:=w) m.nC) (D.row _ R g) (fun z a ht=>?_) (n:=0) Z l.pK x O (l.ok _ R g).pl DF).mono ?_
 ·cases m;grind
 rintro _ H2 (⟨G,_,_⟩| ⟨i,G,rfl,r2,⟨X,o2⟩,e2⟩)
 ·exact absurd G ((bJ.mem (l.ok _ R g) x).1 hxR)
 obtain⟨p1,p2,p3,p4⟩:=bJ.Um (ar w) l.pK (l.ok _ R g) G;generalize hU:cU (aU w) d x R.l R.pl i=U at*;rw[ak7]at X;refine v1 (ae o2) ?_;refine(jv X x).mono ?_;rintro _ H3 (⟨V,_,_⟩| ⟨_,rfl,c3,A⟩)
 ·exact absurd I V
 refine vs ?_;have o3:=A.own o2 m.nC;have O7:aj (fun z=>R.S z\/C z\/z=n) M H3:=e2.trans (A.mono Z);have r3:=r2.ext A (fun z a=>(m.kW _ R g z a).1);have Ms:∀z,(R.S z\/C z\/z=n)->S z:=fun z a=>(F z).1 (by
  rcases a with a|a|a
  ·exact .inr Z
  ·exact .inl a
  ·exact .inr (.inl a))
 have L:∀ (h:Nat) Q,(rs.set c0.1.toNat (some (⟨R.r,R.S,U.1,U.2.1⟩:Rw)))[h]? =some (some Q)->(h=c0.1.toNat/\Q=⟨R.r,R.S,U.1,U.2.1⟩)\/(h≠c0.1.toNat/\rs[h]? =some (some Q)):=Z;have Nc:∀ (h:Nat) Q,rs[h]? =some (some Q)->0<h:=fun h Q t=>by
  cases l;grind
 have ny:∀ (h:Nat) Q,h≠c0.1.toNat->rs[h]? =some (some Q)->∀y∈Q.l,y.toNat≠x.toNat:=fun h Q hh t y f e=>by
  obtain⟨y0,e',he⟩:=(l.mem h Q t y).1 f;grind
 have Ug:∀y∈U.1,y.toNat≠x.toNat:=Z;refine .inr ⟨I,rfl,c0,U.2.2,W,?_,yi n C fp (rs.set c0.1.toNat (some ⟨R.r,R.S,U.1,U.2.1⟩)),
  ⟨c,C,_,fp,rs.set c0.1.toNat (some ⟨R.r,R.S,U.1,U.2.1⟩),D.setRow g (R':=⟨R.r,R.S,U.1,U.2.1⟩) rfl r3 Z O7 (fun z a=>?_) c3 o3,
   ⟨l.pK,by rw[alb];exact l.hl,fun h=>?_,?_,fun h Q t=>?_,fun h Q t y=>?_,fun h Q t=>?_⟩,fun z=>Iff.rfl⟩,?_,fun z a=>?_⟩
 ·grind
 ·grind
 ·show w.hs[h]? =some true↔_;rw[l.hs h];grind
 ·rw[alh O];exact l.h0
 ·rcases L h Q t with ⟨rfl,rfl⟩| ⟨K,p⟩
  ·exact bJ.congr l.pK p1 fun z a y f=>(gS w x _ (Ug z a) (Ug y f)).symm
  ·exact bJ.congr l.pK (l.ok h Q p) fun z a y f=>(gS w x _ Z Z).symm
 ·by_cases Oc:y.toNat=x.toNat
  ·grind
  ·rw[yf _ Oc];rcases L h Q t with ⟨rfl,rfl⟩| ⟨K,p⟩
   ·grind
   ·exact l.mem h Q p y
 ·rcases L h Q t with ⟨rfl,rfl⟩| ⟨K,p⟩
  ·grind [Nw.gm]
  ·have:=Nc h Q p;rw[l.len h Q p,Nw.gm W h,if_neg O,if_neg O];omega
 ·exact(u.mono Z).trans (O7.mono Z)
 ·rcases a with a|rfl|a| ⟨i,Q,t,a⟩
  ·grind
  ·grind
  ·exact .inl ((F z).1 (.inr (.inr (.inl a))))
  ·rcases L i Q t with ⟨rfl,rfl⟩| ⟨K,p⟩
   ·grind
   ·exact .inl ((F z).1 (.inr Z))
theorem yk{H:Hp}{S:Nat->Prop}{w:Nw}(h:cX H n S d st w)(g:Int):aD 352 [ptr n,i64 g] H fun v J=>ak (
  ((¬w.has g\/(w.has g/\w.len g=0))/\v= .tuple [i64 0,.bool false].toArray/\H=J)\/
  (w.has g/\∃x,cu w.cs x/\(∃e,w.cs[x.toNat]? =some (g,e))/\(∀y,0<=y->(∃e,w.cs[y.toNat]? =some (g,e))->y≠x->aU w x y=true)/\v= .tuple [i64 x,.bool true].toArray/\
   ∃q:Nat,(q:Int)<=d*(ix d (w.len g - 1):Nat)+1/\∃l,cX J n l d (min (st+q) 4611686018427387904) (w.put x (0,0,0))/\aj S H J/\∀z,l z->S z\/H.size<=z)):=by
 refine aL tQ ?_;refine vs ?_;refine(uX h g).mono ?_;rintro _ _ ⟨⟨c,rfl⟩| ⟨m,f,rfl⟩| ⟨m,x,j,t,rfl,L⟩,rfl⟩
 ·refine vs ?_;exact .inl ⟨.inl c,rfl,rfl⟩
 ·refine vs ?_;exact .inl ⟨.inr ⟨m,f⟩,rfl,rfl⟩
 ·refine vs ?_;refine(og h x).mono ?_;rintro _ C (⟨c,_,_⟩| ⟨_,rfl,K,q,B,A,l,p,o,u⟩)
  ·exact absurd j c
  refine vs ?_;obtain⟨e,a⟩:=id t;rw[B]at a;injection a with a;subst a;exact .inr ⟨m,x,j,t,L,rfl,q,A,l,p,o,u⟩
theorem Nq(w:Nw){y:Ce}{k s:Int}(n:w.cs[x.toNat]? =some y)(d:¬dY y.2.1 y.2.2 k s){z:Int}(p:z.toNat≠x.toNat)(h:aU w z x=false):aU (w.put x (y.1,k,s)) z x=false:=by
 have c:w.key x=y.2.1:=by unfold Nw.key;rw[alf,n];rfl
 have v:w.seq x=y.2.2:=by unfold Nw.seq;rw[alf,n];rfl
 have m:=aln (l:=w.cs) (a:=(y.1,k,s)) (ak8.1 n).1;have e:(w.put x (y.1,k,s)).key x=k:=by unfold Nw.key Nw.put;simp only[alf];rw[m];rfl
 have g:(w.put x (y.1,k,s)).seq x=s:=by unfold Nw.seq Nw.put;simp only[alf];rw[m];rfl
 have t:(w.put x (y.1,k,s)).key z=w.key z:=by unfold Nw.key Nw.put;simp only[alf];grind
 have j:(w.put x (y.1,k,s)).seq z=w.seq z:=by unfold Nw.seq Nw.put;simp only[alf];grind
 unfold aU at h ⊢;rw[e,g,t,j];rw[c,v]at h;simp only[decide_eq_false_iff_not,dY]at*;omega
theorem wC{H:Hp}{S:Nat->Prop}{w:Nw}(h:cX H n S d st w)(x k s:Int):aD 349 [ptr n,i64 x,ms k s] H fun v J=>ak (
  (¬ (cu w.cs x/\∀y,w.cs[x.toNat]? =some y->¬dY y.2.1 y.2.2 k s)/\v= .bool false/\cX J n S d st w/\af H J)\/
  (cu w.cs x/\∃y,w.cs[x.toNat]? =some y/\¬dY y.2.1 y.2.2 k s/\v= .bool true/\∃q:Nat,(q:Int)<=ix d (w.len y.1 - 1)/\∃X,cX J n X d (min (st+q) 4611686018427387904) (w.put x (y.1,k,s))/\aj S H J/\∀z,X z->S z\/H.size<=z)):=by
 obtain⟨c,C,rv,fp,rs,m,l,B⟩:=h;refine aL rN ?_;refine vs ?_;have F:af H (H.new 148 [i64 k,u64 s]):=bm;have b0:(H.new 148 [i64 k,u64 s]).own H.size=some [i64 k,u64 s]:=am _ _ _;have f:=m.ext F (fun _ _ h=>h);generalize H.new 148 [i64 k,u64 s]=H0 at*;refine v2 (ae f.own) (ae b0) ?_;refine(iM f.cells x k s).mono ?_;rintro _ H1 (⟨I,rfl,c1,u⟩| ⟨mj,rfl,y,D,lU,c1,u⟩)
 ·refine vs ?_;exact .inl ⟨I,rfl,⟨c,C,rv,fp,rs,f.ext u (fun _ _ h=>h),l,B⟩,F.trans u⟩
 have o1:=u.own f.own m.nC;refine v1 (ae o1) ?_;obtain⟨j4,y',L,G⟩:=id mj;rw[D]at L;injection L with L;subst L;have j1:(w.put x (y.1,k,s)).cs[x.toNat]? =some (y.1,k,s):=aln Z;have yf:∀z:Nat,z≠x.toNat->(w.put x (y.1,k,s)).cs[z]? =w.cs[z]? :=fun z g=>alh (Ne.symm g);have Rz:cu (w.put x (y.1,k,s)).cs x:=⟨j4,_,j1,G⟩;refine(cW c1 x).mono ?_;rintro _ H2 (⟨I,_,_⟩| ⟨_,y2,A,rfl,c2,e2⟩)
 ·exact absurd Rz I
 rw[j1]at A;injection A with A;subst A;have K:=u.trans e2;obtain⟨R,t⟩:=(l.hs y.1.toNat).1 (m.cells.live _ Z G);have Pp:((y.1.toNat:Nat):Int)=y.1:=O;have Ps:∀ (h:Nat) Q,rs[h]? =some (some Q)->∀z:Int,z∈Q.l↔0<=z/\∃e,(w.put x (y.1,k,s)).cs[z.toNat]? =some (((h:Nat):Int),e):=fun h Q p z=>by
  cases l;grind
 have pC:=Ps _ R t;have ec:=l.len _ R t;rw[Pp]at pC ec;have hxR:x∈R.l:=Z;have DF:∀z∈R.l,cu (w.put x (y.1,k,s)).cs z:=fun z g=>by
  obtain⟨z0,e,he⟩:=(pC z).1 g;exact⟨z0,_,he,G⟩
 have o2:=e2.own o1 m.nC;have E:gA H2 n c C rv fp d st (w.put x (y.1,k,s)) rs:=⟨o2,c2,f.sl.ext K (fun b W h=>(m.uA b W).2 h),fun i R t=>(f.row i R t).ext K (fun x hx=>(m.kW i R t x hx).1),m.nC,m.uA,m.kW,m.sI⟩;have iD:=(ak8.1 t).1;obtain⟨b,o,c',lb,q1,q2,q3,q4⟩:=bD.get E.sl.rd (i:=y.1.toNat) (j:=0) (x:=ptr R.r) O (by simp[t,Np]);subst q1;have RB:=m.cells.st;have uv:=m.cells.yY;have wT:R.l.length<=65536:=by have:=(w.kl y.1).2;omega
 refine v1 (ae o2) ?_;refine⟨O,?_⟩;refine v2 q2 (show lb[o+y.1.toNat*1]? =some (ptr R.r)from q4) ?_;refine(Bz (yj (c:=c) (rv:=.slice (some ⟨b,o,none⟩) rs.length c') (d:=d) (st:=st) (w:=w.put x (y.1,k,s)) m.nC) (E.row _ R t) (fun z g ht=>?_) (n:=0) Z x O (fun i hi=>by
  obtain⟨h1,h2⟩:=((l.ok _ R t).pl x i).1 hi;grind) Rz DF).mono ?_
 ·cases m;grind
 rintro _ H3 (⟨V,_,_⟩| ⟨i,V,rfl,r3,⟨c3,o3⟩,e3⟩)
 ·exact absurd V ((bJ.mem (l.ok _ R t) x).1 hxR)
 have M:∀z∈R.l,z≠x->z.toNat≠x.toNat:=Z;obtain⟨p1,p2,p3,p4⟩:=bJ.raise (ar w) (ar (w.put x (y.1,k,s))) l.pK (l.ok _ R t) V (fun a ha b W wA zS=>gS w x _ (M a ha wA) (M b W zS)) (fun z g hzx hl=>Nq w D lU (M z g hzx) hl);generalize hU:fD (aU (w.put x (y.1,k,s))) d x i.toNat R.l R.pl i=U at*;rw[ak7]at c3;refine vs ?_;have Ms:∀z,(R.S z\/C z\/z=n)->S z:=fun z g=>(B z).1 (by
  rcases g with g|g|g
  ·exact .inr Z
  ·exact .inl g
  ·exact .inr (.inl g))
 have TF:∀ (h:Nat) Q,(rs.set y.1.toNat (some (⟨R.r,R.S,U.l,U.pl⟩:Rw)))[h]? =some (some Q)->(h=y.1.toNat/\Q=⟨R.r,R.S,U.l,U.pl⟩)\/(h≠y.1.toNat/\rs[h]? =some (some Q)):=Z;have ny:∀ (h:Nat) Q,h≠y.1.toNat->rs[h]? =some (some Q)->∀z∈Q.l,z.toNat≠x.toNat:=Z;have Wd:∀h:Int,(w.put x (y.1,k,s)).len h=w.len h:=fun h=>by
  grind [Nw.gm]
 refine .inr ⟨mj,y,D,lU,rfl,U.asked,Z,yi n C fp (rs.set y.1.toNat (some ⟨R.r,R.S,U.l,U.pl⟩)),
  ⟨c,C,_,fp,rs.set y.1.toNat (some ⟨R.r,R.S,U.l,U.pl⟩),E.setRow t (R':=⟨R.r,R.S,U.l,U.pl⟩) rfl r3 Z e3 (fun z g=>?_) c3 o3,
   ⟨l.pK,by rw[alb];exact l.hl,fun h=>?_,?_,fun h Q p=>?_,fun h Q p z=>?_,fun h Q p=>?_⟩,fun z=>Iff.rfl⟩,?_,fun z g=>?_⟩
 ·grind
 ·show w.hs[h]? =some true↔_;rw[l.hs h];grind
 ·rw[alh O];exact l.h0
 ·rcases TF h Q p with ⟨rfl,rfl⟩| ⟨h5,h6⟩
  ·exact p1
  ·exact bJ.congr l.pK (l.ok h Q h6) fun z g v hv=>(gS w x _ Z Z).symm
 ·grind
 ·cases l;grind
 ·exact(F.mono fun _ _ h=>h.elim).trans ((K.mono Z).trans (e3.mono Z))
 ·rcases g with g|rfl|g| ⟨j,Q,p,g⟩
  ·grind
  ·grind
  ·exact .inl ((B z).1 (.inr (.inr (.inl g))))
  ·rcases TF j Q p with ⟨rfl,rfl⟩| ⟨h5,h6⟩
   ·grind
   ·exact .inl ((B z).1 (.inr Z))
theorem gA.at_{H:Hp}{C:Nat->Prop}{w:Nw}{rs:List (Option Rw)}(m:gA H n c C rv fp d st w rs){i:Nat}{o:Option Rw}(h:rs[i]? =some o):
  ∃f x lb,rv= .slice (some ⟨f,0,none⟩) rs.length x/\fp=some f/\H.own f=some lb/\lb[i]? =some (Np o)/\i<rs.length:=by
 have hi:=(ak8.1 h).1;obtain⟨t,hm⟩:=id m.sl;cases fp with
 |none=>obtain⟨e,_⟩:=hm;omega
 |some f=>
  obtain⟨lb,x,l,z,a,v,g⟩:=hm;refine⟨f,x,lb,l,rfl,z,?_,hi⟩;have y:(rs.map Np)[i]? =some (Np o):=by rw[alz,h];rfl
  grind
theorem Ln{rs:List (Option Rw)}{T:Rw}(z:a<rs.length)(l:b<rs.length)(w:a≠b){Q:Rw}(x:((rs.set a (some T)).set b none)[h]? =some (some Q)):
  (h=a/\Q=T)\/(h≠a/\h≠b/\rs[h]? =some (some Q)):=by
 grind
theorem gA.two{H:Hp}{q:Nat}{C:Nat->Prop}{w:Nw}{rs:List (Option Rw)}(m:gA H n c C (.slice (some ⟨f,0,none⟩) rs.length q) (some f) d st w rs)(V:a≠b){T:Rw}(W:rs[a]? =some (some T)\/rs[b]? =some (some T))
  (I:a<rs.length)(G:b<rs.length){lb:List Value}(o:H.own f=some lb):
  gA ((H.wr f (lb.set a (ptr T.r))).wr f ((lb.set a (ptr T.r)).set b (.pointer none))) n c C (.slice (some ⟨f,0,none⟩) rs.length q) (some f) d st w ((rs.set a (some T)).set b none)/\
   aj (fun z=>z=f) H ((H.wr f (lb.set a (ptr T.r))).wr f ((lb.set a (ptr T.r)).set b (.pointer none))):=by
 have e:aj (fun z=>z=f) H ((H.wr f (lb.set a (ptr T.r))).wr f ((lb.set a (ptr T.r)).set b (.pointer none))):=((aj.refl (fun z=>z=f) _).wr (fun _=>rfl) _).wr (fun _=>rfl) _;have A:=m.uA f rfl;have j:∀ (h:Nat) Q,((rs.set a (some T)).set b none)[h]? =some (some Q)->∃l,rs[l]? =some (some Q)/\((l=h/\h≠a/\h≠b)\/(h=a/\(l=a\/l=b))):=Z;refine⟨⟨e.own m.own (Ne.symm A.1),m.cells.ext e Z,?_,fun h Q y=>?_,m.nC,m.uA,fun h Q y x t=>?_,fun h l Q p y L D x t K=>?_⟩,e⟩
 ·have v:=(m.sl.nG o a (ptr T.r)).nG (ah o) b (.pointer none);rw[alb,alb,alD,alD];exact v
 ·obtain⟨l,v,_⟩:=j h Q y;exact(m.row l Q v).ext e (fun x t M=>(m.kW l Q v x t).2.2 Z)
 ·obtain⟨l,v,_⟩:=j h Q y;exact m.kW l Q v x t
 ·obtain⟨g,v,F⟩:=j h Q y;obtain⟨u,B,U⟩:=j l p L;exact m.sI g u Q p v B O x t K
theorem Gs.join{w:Nw}{rs:List (Option Rw)}(l:Gs d w rs){a b:Int}(o:w.has a)(L:w.has b)(V:a≠b){x n T:Rw}(p:rs[a.toNat]? =some (some x))(q:rs[b.toNat]? =some (some n))
  (K:bJ (aU (w.join a b)) d T.l T.pl)(C:∀z,z∈T.l↔z∈x.l\/z∈n.l)(D:T.l.length=x.l.length+n.l.length):Gs d (w.join a b) ((rs.set a.toNat (some T)).set b.toNat none):=by
 have I:=o.1;have G:=L.1;have j:=(ak8.1 p).1;have f:=(ak8.1 q).1;have u:a.toNat≠b.toNat:=O;have B:((a.toNat:Nat):Int)=a:=O;have A:((b.toNat:Nat):Int)=b:=O;refine⟨l.pK,by rw[alb,alb,l.hl];simp[Nw.join],fun h=>?_,?_,fun h Q g=>?_,fun h Q g z=>?_,fun h Q g=>?_⟩
 ·show(w.hs.set b.toNat false)[h]? =some true↔_;by_cases m:h=b.toNat
  ·grind
  ·rw[alh (Ne.symm m),alh (Ne.symm m)];by_cases v:h=a.toNat
   ·subst v;rw[aln j];exact⟨Z,fun _=>o.2⟩
   ·rw[alh (Ne.symm v)];exact l.hs h
 ·cases l;grind
 ·rcases Ln j f u g with ⟨rfl,rfl⟩| ⟨m,v,t⟩
  ·exact K
  ·exact bJ.congr l.pK (l.ok h Q t) fun z _ y _=>(sn w a b z y).symm
 ·rw[sk];rcases Ln j f u g with ⟨rfl,rfl⟩| ⟨m,v,t⟩
  ·rw[C z,l.mem _ x p z,l.mem _ n q z,B,A];cases w.cs[z.toNat]? with
   |none=>simp
   |some c=>
    obtain⟨U,W⟩:=c;simp only[Option.map_some,alg,Prod.mk.injEq];constructor
    ·rintro(⟨F,e,rfl,rfl⟩| ⟨F,e,rfl,rfl⟩)
     ·simp_all
     grind
    grind
  ·rw[l.mem h Q t z];grind
 cases l;grind [Nw.Dq]
theorem DI{H:Hp}{S:Nat->Prop}{w:Nw}(h:cX H n S d st w)(a b:Int):aD 358 [ptr n,i64 a,i64 b] H fun v J=>ak (
  (¬ (w.has a/\w.has b/\a≠b)/\v= .bool false/\H=J)\/
  ((w.has a/\w.has b/\a≠b)/\v= .bool true/\∃q:Nat,(q:Int)<=min (w.len a) (w.len b)*(ix d (w.len a+w.len b):Nat)/\∃S',cX J n S' d (min (st+q) 4611686018427387904) (w.join a b)/\aj S H J/\∀z,S' z->S z\/H.size<=z)):=by
 obtain⟨c,C,rv,fp,rs,m,l,E⟩:=h;refine Rh zo ⟨rfl,?_⟩;refine v2 nL.eq_1 (ae m.own) ?_;refine(jw m.cells a b).mono ?_;rintro _ H1 (⟨kV,rfl,rfl⟩| ⟨⟨ha,t,Fh⟩,rfl,c1,G⟩)
 ·refine vs ?_;exact .inl ⟨kV,rfl,rfl⟩
 obtain⟨p,L⟩:=l.ee ha;obtain⟨o,A⟩:=l.ee t;have ha1:=ha.1;have QI:=t.1;have Pn:=(ak8.1 L).1;have Fe:=(ak8.1 A).1;have o1:=G.own m.own m.nC;have I:gA H1 n c C rv fp d st (w.join a b) rs:=⟨o1,c1,m.sl.ext G (fun b t h=>(m.uA b t).2 h),fun i R hR=>(m.row i R hR).ext G (fun x K=>(m.kW i R hR x K).1),m.nC,m.uA,m.kW,m.sI⟩;obtain⟨f,cc,lb,rfl,rfl,of,ga,la⟩:=I.at_ L;obtain⟨f',Km,lb',hv,QL,RA,gb,XV⟩:=I.at_ A;injection QL with QL;subst QL;rw[of]at RA;injection RA with RA;subst RA;refine v1 (ae o1) ?_;refine⟨O,?_⟩;simp(disch:=(first|exact aV|fail)) only[go_sem, ↓reduceIte,Zv,ae of,ae o1,ala,ga,Np];refine⟨O,?_⟩;simp(disch:=(first|exact aV|fail)) only[go_sem, ↓reduceIte,Zv,ae of,ala,gb,Np];refine ez (fun e J=>e.find 0=some (ptr n)/\e.find 1=some (i64 a)/\e.find 2=some (i64 b)/\J=H1/\∃T F:Rw,e.find 7=some (ptr T.r)/\e.find 8=some (ptr F.r)/\
  ((T=p/\F=o/\o.l.length<=p.l.length)\/(T=o/\F=p/\p.l.length<o.l.length))) ?_ ?_
 ·refine vs ?_;refine(uR (I.row _ p L)).mono ?_;rintro _ _ ⟨rfl,rfl⟩;refine vs ?_;refine(uR (I.row _ o A)).mono ?_;rintro _ _ ⟨rfl,rfl⟩;refine vs ?_;refine ai.dec (fun iD=>?_) (fun iD=>?_)<;>refine vs ?_
  ·exact⟨trivial,trivial,trivial,trivial,o,p,rfl,rfl,.inr ⟨rfl,rfl,O⟩⟩
  ·exact⟨trivial,trivial,trivial,trivial,p,o,rfl,rfl,.inl ⟨rfl,rfl,O⟩⟩
 rintro e H1' ⟨e0,ea,eb,hH1,T,F,eT,eF,X4⟩;obtain rfl:=hH1.symm;have haa:((a.toNat:Nat):Int)=a:=O;have La:((b.toNat:Nat):Int)=b:=O;have ny:a.toNat≠b.toNat:=O;have hT:rs[a.toNat]? =some (some T)\/rs[b.toNat]? =some (some T):=by
  rcases X4 with ⟨rfl,rfl,_⟩| ⟨rfl,rfl,_⟩
  ·exact .inl L
  ·exact .inr A
 obtain⟨W,iF,X,D,Uh,pG⟩:∃W iF:Nat,rs[W]? =some (some T)/\rs[iF]? =some (some F)/\W≠iF/\0<iF:=by
  rcases X4 with ⟨rfl,rfl,_⟩| ⟨rfl,rfl,_⟩
  ·exact⟨_,_,L,A,ny,O⟩
  ·exact⟨_,_,A,L,Ne.symm ny,O⟩
 have Ab:∀z,(z∈T.l\/z∈F.l)↔(z∈p.l\/z∈o.l):=fun z=>by
  rcases X4 with ⟨rfl,rfl,_⟩| ⟨rfl,rfl,_⟩
  ·exact Iff.rfl
  ·exact Or.comm
 have eLa:=l.len _ p L;have eLb:=l.len _ o A;rw[haa]at eLa;rw[La]at eLb;have ec:T.l.length+F.l.length=p.l.length+o.l.length/\((F.l.length:Nat):Int)=min (w.len a) (w.len b):=by
  rcases X4 with ⟨rfl,rfl,_⟩| ⟨rfl,rfl,_⟩<;>omega
 clear X4;have Pt:∀z∈F.l,z∉T.l:=fun z g hz'=>by
  obtain⟨_,G,h1⟩:=(l.mem iF F D z).1 g;obtain⟨_,e2,B⟩:=(l.mem W T X z).1 hz';rw[h1]at B;injection B with B;injection B with B _;omega
 have Lm:∀ (i:Nat) Q,rs[i]? =some (some Q)->0<i->∀z∈Q.l,cu (w.join a b).cs z:=fun i Q M hi z g=>by
  obtain⟨z0,e,he⟩:=(l.mem i Q M z).1 g;exact(Dr w O O z).2 ⟨z0,_,he,by simp only;omega⟩
 have Nc:∀ (h:Nat) Q,rs[h]? =some (some Q)->0<h:=fun h Q M=>by
  rcases Nat.eq_zero_or_pos h with hi|hi
  ·subst hi;rw[l.h0]at M;cases M
  ·exact hi
 have uv:=m.cells.yY;have wT:p.l.length<=65536/\o.l.length<=65536:=by have:=(w.kl a).2;have:=(w.kl b).2;omega
 have RB:=m.cells.st;have B:=I.two ny hT Pn Fe of;rw[JM]at B;obtain⟨m2,e2⟩:=B;have X5:dt (H1.wr f ((lb.set a.toNat (ptr T.r)).set b.toNat (.pointer none))) F.r F.S d F.l F.pl:=(I.row iF F D).ext e2 (fun x K g=>(m.kW iF F D x K).2.2 (ald some g.symm));have of1:(H1.wr f (lb.set a.toNat (ptr T.r))).own f=some (lb.set a.toNat (ptr T.r)):=ah of;have ab8:lb.length=(lb.set a.toNat (ptr T.r)).length:=(alb ..).symm;have Nb:=(ak8.1 gb).1;have Nf:=(ak8.1 ga).1;refine v6 e0 ea eb eT eF (ae o1) ?_;refine⟨O,?_⟩;refine v7 e0 ea eb eT eF of ala ?_;refine⟨O,?_⟩;refine v1 ak7 ?_;refine⟨O,?_⟩;refine v2 of1 ala ?_;refine⟨by rw[alb];omega,?_⟩;refine v1 ak7 ?_;generalize H1.wr f ((lb.set a.toNat (ptr T.r)).set b.toNat (.pointer none))=H2 at*;refine v5 e0 ea eb eT eF ?_;refine(Ff X5 O).mono ?_;rintro v3 H3 ⟨f3,fp3,s3,Un⟩;obtain⟨a3,c3,rfl⟩:=bD.Dj s3.rd;refine v5 e0 ea eb eT eF ?_;have m3:=m2.ext f3 (fun _ _ h=>h);have wz:=I.slt;have z1:=G.size;have z2:=e2.size;have z3:=f3.size;have hU:∀j:Nat,j<=F.l.length->ix d ((T.l.length+j:Nat):Int)<=ix d (w.len a+w.len b):=fun j hj=>jV l.pK (w.len a+w.len b).toNat _ _ (alj _) O;generalize ix d (w.len a+w.len b)=U at*;refine ba.intro (fun k env J=>∃ (j:Nat) (T':Rw) (q:Nat),env=[(0,ptr n),(7,ptr T.r),(54,.slice a3 F.l.length c3),(55,i64 F.l.length),(56,i64 j)]/\k=F.l.length - j/\j<=F.l.length/\T'.r=T.r/\
   gA J n c C (.slice (some ⟨f,0,none⟩) rs.length cc) (some f) d (min (st+q) 4611686018427387904) (w.join a b) ((rs.set a.toNat (some T')).set b.toNat none)/\bJ (aU (w.join a b)) d T'.l T'.pl/\
   (∀z,z∈T'.l↔z∈T.l\/z∈F.l.take j)/\T'.l.length=T.l.length+j/\q<=j*U/\(∀z,T'.S z->T.S z\/H3.size<=z)/\aj (fun z=>T.S z\/C z\/z=n) H3 J/\Sl J 1 (.slice a3 F.l.length c3) F.l.length (F.l.map i64) fp3/\
   (∀b,fp3=some b->¬T'.S b/\¬C b/\b≠n)) F.l.length
  ⟨0,T,0,rfl,O,O,rfl,by rw[show min (st+((0:Nat):Int)) 4611686018427387904=st by omega];exact m3,bJ.congr l.pK (l.ok W T X) fun z _ y _=>(sn w a b z y).symm,
   fun z=>by simp,rfl,O,fun z g=>.inl g,aj.refl _ _,s3,fun b t=>⟨fun h=>by have:=Un b t;have:=wz b (.inr (.inr (.inr ⟨W,T,X,h⟩)));omega,fun h=>by have:=Un b t;have:=wz b (.inl h);omega,fun h=>by have:=Un b t;have:=aB o1;omega⟩⟩ ?_
 rintro k env H4 ⟨j,T',q,rfl,rfl,hj,hr,V,Fj,pC,Pu,hq,SV,e4,s4,Pv⟩;refine vs ?_;have Ui:((rs.set a.toNat (some T')).set b.toNat none)[a.toNat]? =some (some T'):=by
  rw[alh (Ne.symm ny),aln Pn]
 refine ai.dec (fun iD=>?_) (fun iD=>?_)<;>refine vs ?_
 ·obtain⟨x,K⟩:∃x,F.l[j]? =some x:=⟨_,ak9 O⟩;have Wk:=ali K;obtain⟨bb,bo,bc,bl,q1,q2,q3,q4⟩:=bD.get s4.rd (i:=j) (j:=0) (x:=i64 x) O (by simp[K]);injection q1 with q1 _ q1';subst q1 q1';refine⟨O,?_⟩;refine v3 q2 Int.toNat_natCast (show bl[bo+j*1]? =some (i64 x)from q4) ?_;rw[<-hr];have hxT:x∉T'.l:=fun hm=>by
   rcases(pC x).1 hm with h|h
   ·exact Pt x Wk h
   ·obtain⟨i,hi⟩:=als h;rw[amb]at hi;split at hi
    ·have:=(l.ok iF F D).pl.zL hi K;omega
    ·cases hi
  have Nr:T'.pl x=none:=by
   cases hp:T'.pl x with
   |none=>rfl
   |some i=>exact absurd ((bJ.mem Fj x).2 (by rw[hp];simp)) hxT
  have Uj:∀z∈T'.l,cu (w.join a b).cs z:=fun z g=>by
   rcases(pC z).1 g with h|h
   ·exact Lm W T X (Nc W T X) z h
   ·exact Lm iF F D pG z (List.mem_of_mem_take h)
  refine(uS (yj (c:=c) (rv:=.slice (some ⟨f,0,none⟩) rs.length cc) (d:=d) (st:=min (st+q) 4611686018427387904) (w:=w.join a b) m.nC) (V.row _ T' Ui) (fun z g ht=>?_) (n:=0)
   ⟨by rw[show min (min (st+(q:Int)) 4611686018427387904+((0:Nat):Int)) 4611686018427387904=min (st+q) 4611686018427387904 by omega];exact V.cells,V.own⟩ x O (Lm iF F D pG x Wk) Uj).mono ?_
  ·rcases ht with ht|ht
   ·exact(V.kW _ T' Ui z g).1 ht
   ·exact(V.kW _ T' Ui z g).2.1 ht
  rintro _ H5 (⟨hp,_,_⟩| ⟨_,rfl,S',r5,⟨c5,o5⟩,e5,X3⟩)
  ·exact absurd Nr hp
  obtain⟨p1,p2,p3,p4⟩:=bJ.add (ar (w.join a b)) l.pK Fj Nr;generalize hUp:fD (aU (w.join a b)) d x T'.l.length (T'.l++[x]) T'.pl T'.l.length=u at*;rw[ak7]at c5;refine vs ?_;have hq5:u.asked<=U:=by
   have:=hU j hj;rw[Pu]at p4;omega
  have m5:=V.setRow Ui (R':=⟨T'.r,S',u.l,u.pl⟩) rfl r5 X3 e5 (fun z g=>by
   rcases g with g|g|g
   ·exact .inr (.inl g)
   ·exact .inl g
   ·exact .inr (.inr g)) c5 o5
  rw[List.set_comm _ _ (Ne.symm ny),List.set_set,show min (min (st+(q:Int)) 4611686018427387904+((u.asked:Nat):Int)) 4611686018427387904=min (st+((q+u.asked:Nat):Int)) 4611686018427387904 by omega]at m5;have z4:=e4.size;have Lj:∀b,fp3=some b->b<H4.size:=fun b t=>Sl.lt (t▸s4);rw[wrap64 (n:=(j:Int)+1) O O,hr];refine⟨F.l.length - (j+1),O,j+1,⟨T'.r,S',u.l,u.pl⟩,q+u.asked,rfl,rfl,O,hr,m5,p1,fun z=>?_,by show u.l.length=_;omega,?_,fun z g=>?_,e4.lE e5 (fun z hzl g=>?_),s4.ext e5 (fun b t g=>?_),fun b t=>⟨fun g=>?_,(Pv b t).2⟩⟩
  ·show z∈u.l↔_;rw[p2 z,pC z,alq,K];simp only[Option.toList_some,alu,alv];constructor
   ·rintro(h|h|h)
    ·exact .inr (.inr h)
    ·exact .inl h
    ·exact .inr (.inl h)
   ·rintro(h|h|h)
    ·exact .inr (.inl h)
    ·exact .inr (.inr h)
    ·exact .inl h
  ·rw[amo,amH];omega
  ·rcases X3 z g with h|h
   ·exact SV z h
   ·exact .inr O
  ·rcases g with g|g|g
   ·rcases SV z g with h|h
    ·exact .inl h
    ·exact absurd hzl O
   ·exact .inr (.inl g)
   ·exact .inr (.inr g)
  ·rcases g with g|g|g
   ·exact(Pv b t).1 g
   ·exact(Pv b t).2.1 g
   ·exact(Pv b t).2.2 g
  ·rcases X3 b g with h|h
   ·exact(Pv b t).1 h
   ·have:=Lj b t;omega
 ·have hjL:j=F.l.length:=O;subst hjL;have Ms:∀z,(T.S z\/C z\/z=n)->S z:=fun z g=>(E z).1 (by
   rcases g with g|g|g
   ·exact .inr (.inr (.inr ⟨_,T,X,g⟩))
   ·exact .inl g
   ·exact .inr (.inl g))
  refine .inr ⟨⟨ha,t,Fh⟩,rfl,q,?_,yi n C (some f) ((rs.set a.toNat (some T')).set b.toNat none),⟨c,C,_,some f,_,V,l.join ha t Fh L A Fj (fun z=>?_) O,fun z=>Iff.rfl⟩,?_,fun z g=>?_⟩
  ·rw[<-ec.2,<-Int.natCast_mul];exact Int.ofNat_le.2 hq
  ·rw[pC z,alx,Ab z]
  ·exact(G.mono fun z _ g=>Ms z (.inr (.inl g))).trans ((e2.mono fun z _ g=>(E z).1 (.inr (.inr (.inl (by rw[g]))))).trans ((f3.mono fun _ _ h=>h.elim).trans (e4.mono fun z _ g=>Ms z g)))
  ·rcases g with g|rfl|g| ⟨i,Q,M,g⟩
   ·exact .inl ((E z).1 (.inl g))
   ·exact .inl ((E z).1 (.inr (.inl rfl)))
   ·exact .inl ((E z).1 (.inr (.inr (.inl g))))
   ·rcases Ln Pn Fe ny M with ⟨rfl,rfl⟩| ⟨h5,h6,h7⟩
    ·rcases SV z g with h|h
     ·exact .inl (Ms z (.inl h))
     ·exact .inr O
    ·exact .inl ((E z).1 (.inr (.inr (.inr ⟨i,Q,h7,g⟩))))
theorem Lo(n:Nat):qq (.iface 189 (ptr n)) (fun H S w=>∃st,dF H n S st w) where
 slt:=by rintro H S w ⟨st,h⟩;exact h.slt
 ext:=by rintro H J S w T ⟨st,h⟩ e D;exact⟨st,h.ext e D⟩
 cells:=by
  rintro H S w ⟨st,c,C,rv,K,A,ps,at_,m,l,L⟩;exact⟨c,C,st,m.cells⟩
 has:=by
  rintro H S w g ⟨st,c,C,rv,K,A,ps,at_,m,l,L⟩;obtain⟨F,B,_⟩:=m.own;exact⟨_,_,353,ptr c,rfl,cz (off:=0) Y (ae B) rfl,(gQ m.cells g).mono fun v J Q=>Q⟩
 make:=by
  rintro H S w ⟨st,h⟩;refine⟨_,_,489,ptr n,rfl,aZ Y,(DE h).mono ?_⟩;rintro v J (⟨t,rfl,rfl⟩| ⟨t,rfl,d,p,j,o⟩)
  ·exact .inl ⟨t,rfl,br.same ⟨st,h⟩ (aj.refl _ _)⟩
  ·exact .inr ⟨t,rfl,d,⟨_,p⟩,j,o⟩
 insert:=by
  rintro H S w g x k s ⟨st,h⟩;refine⟨_,_,488,ptr n,rfl,aZ Y,(Aa h g x k s).mono ?_⟩;rintro v J (⟨t,rfl,p,j⟩| ⟨t,rfl,d,q,p,_,j,o,u⟩)
  ·exact .inl ⟨t,rfl,br.same ⟨st,p⟩ j⟩
  ·exact .inr ⟨t,rfl,d,⟨_,j⟩,o,u⟩
 min:=by
  rintro H S w g ⟨st,h⟩;refine⟨_,_,491,ptr n,rfl,aZ Y,(uV h g).mono ?_⟩;rintro v J ⟨t,rfl⟩;rcases t with ⟨t,rfl⟩| ⟨x,p,rfl⟩
  ·exact .inl ⟨t,rfl,br.same ⟨st,h⟩ (aj.refl _ _)⟩
  ·exact .inr ⟨x,p,rfl,br.same ⟨st,h⟩ (aj.refl _ _)⟩
 extract:=by
  rintro H S w g ⟨st,h⟩;refine⟨_,_,487,ptr n,rfl,aZ Y,(yg h g).mono ?_⟩;rintro v J (⟨t,rfl,rfl⟩| ⟨x,t,rfl,q,M,d,u,V,G⟩)
  ·exact .inl ⟨t,rfl,br.same ⟨st,h⟩ (aj.refl _ _)⟩
  ·exact .inr ⟨x,t,rfl,d,⟨_,u⟩,V,G⟩
 jZ:=by
  rintro H S w x k s ⟨st,h⟩;refine⟨_,_,485,ptr n,rfl,aZ Y,(wB h x k s).mono ?_⟩;rintro v J (⟨t,rfl,p,j⟩| ⟨t,y,U,p,rfl,q,M,d,j,o,u⟩)
  ·exact .inl ⟨t,rfl,br.same ⟨st,p⟩ (j.mono fun _ _ h=>h.elim)⟩
  ·exact .inr ⟨⟨t,Z⟩,rfl,y,U,d,⟨_,j⟩,o,u⟩
 entry:=by
  rintro H S w x ⟨st,h⟩;obtain⟨c,C,rv,K,A,ps,at_,m,l,L⟩:=id h;obtain⟨F,B,_⟩:=m.own;refine⟨_,_,351,ptr c,rfl,cz (off:=0) Y (ae B) rfl,(iL m.cells x).mono ?_⟩;rintro v J ⟨_,f,E⟩;exact⟨⟨st,h.fresh f⟩,f,E⟩
 len:=by
  rintro H S w g ⟨st,c,C,rv,K,A,ps,at_,m,l,L⟩;obtain⟨F,B,_⟩:=m.own;exact⟨_,_,356,ptr c,rfl,cz (off:=0) Y (ae B) rfl,(gR m.cells g).mono fun v J Q=>Q⟩
 home:=by
  rintro H S w x ⟨st,h⟩;obtain⟨c,C,rv,K,A,ps,at_,m,l,L⟩:=id h;obtain⟨F,B,_⟩:=m.own;refine⟨_,_,354,ptr c,rfl,cz (off:=0) Y (ae B) rfl,(cW m.cells x).mono ?_⟩;rintro v J (⟨t,rfl,rfl⟩| ⟨t,y,U,rfl,I,W⟩)
  ·exact .inl ⟨t,rfl,br.same ⟨st,h⟩ (aj.refl _ _)⟩
  ·exact .inr ⟨t,by rw[iO t.1 U],br.same ⟨st,c,C,rv,K,A,ps,at_,m.aE I W,l,L⟩ (W.mono fun z _ X=>(L z).1 (.inl X))⟩
 delete:=by
  rintro H S w x ⟨st,h⟩;refine⟨_,_,486,ptr n,rfl,aZ Y,(oe h x).mono ?_⟩;rintro v J (⟨t,rfl,rfl⟩| ⟨t,rfl,_,_,_,_,d,j,o,u⟩)
  ·exact .inl ⟨t,rfl,br.same ⟨st,h⟩ (aj.refl _ _)⟩
  ·exact .inr ⟨t,rfl,d,⟨_,j⟩,o,u⟩
 vl:=by
  rintro H S w a b ⟨st,h⟩;refine⟨_,_,490,ptr n,rfl,aZ Y,(DG h a b).mono ?_⟩;rintro v J (⟨t,rfl,rfl⟩| ⟨t,rfl,_,_,d,j,o,u⟩)
  ·exact .inl ⟨t,rfl,br.same ⟨st,h⟩ (aj.refl _ _)⟩
  ·exact .inr ⟨t,rfl,d,⟨_,j⟩,o,u⟩
theorem DJ(n:Nat)(d:Int):qq (.iface 165 (ptr n)) (fun H S w=>∃st,cX H n S d st w) where
 slt:=by rintro H S w ⟨st,h⟩;exact h.slt
 ext:=by rintro H J S w T ⟨st,h⟩ e D;exact⟨st,h.ext e D⟩
 cells:=by
  rintro H S w ⟨st,c,C,rv,fp,rs,m,l,L⟩;exact⟨c,C,st,m.cells⟩
 has:=by
  rintro H S w g ⟨st,c,C,rv,fp,rs,m,l,L⟩;exact⟨_,_,353,ptr c,rfl,cz (off:=0) Y (ae m.own) rfl,(gQ m.cells g).mono fun v J K=>K⟩
 make:=by
  rintro H S w ⟨st,h⟩;refine⟨_,_,357,ptr n,rfl,aZ Y,(DH h).mono ?_⟩;rintro v J (⟨t,rfl,rfl⟩| ⟨t,rfl,u,o,j,p⟩)
  ·exact .inl ⟨t,rfl,br.same ⟨st,h⟩ (aj.refl _ _)⟩
  ·exact .inr ⟨t,rfl,u,⟨_,o⟩,j,p⟩
 insert:=by
  rintro H S w g x k s ⟨st,h⟩;refine⟨_,_,355,ptr n,rfl,aZ Y,(Ad h g x k s).mono ?_⟩;rintro v J (⟨t,rfl,o,j⟩| ⟨t,rfl,u,q,o,_,j,p,B⟩)
  ·exact .inl ⟨t,rfl,br.same ⟨st,o⟩ j⟩
  ·exact .inr ⟨t,rfl,u,⟨_,j⟩,p,B⟩
 min:=by
  rintro H S w g ⟨st,h⟩;refine⟨_,_,359,ptr n,rfl,aZ Y,(uX h g).mono ?_⟩;rintro v J ⟨t,rfl⟩;have A:=br.same (I:=fun H S w=>∃st,cX H n S d st w) ⟨st,h⟩ (aj.refl S H);obtain⟨c,C,rv,fp,rs,m,l,L⟩:=h;rcases t with ⟨t,rfl⟩| ⟨t,o,rfl⟩| ⟨t,x,o,j,rfl,p⟩
  ·refine .inl ⟨Nw.Fg.2 ?_,rfl,A⟩;by_cases M:g<=0
   ·omega
   ·refine .inr fun i c G e=>t ⟨O,?_⟩;have:=m.cells.live c Z O;grind
  ·grind
  ·exact .inr ⟨x,⟨by have:=t.1;omega,o.1,j,p⟩,rfl,A⟩
 extract:=by
  rintro H S w g ⟨st,h⟩;refine⟨_,_,352,ptr n,rfl,aZ Y,(yk h g).mono ?_⟩;rintro v J (⟨t,rfl,rfl⟩| ⟨t,x,o,j,p,rfl,q,E,u,B,W,V⟩)
  ·have A:=br.same (I:=fun H S w=>∃st,cX H n S d st w) ⟨st,h⟩ (aj.refl S H);obtain⟨c,C,rv,fp,rs,m,l,L⟩:=h;rcases t with t| ⟨_,t⟩
   ·refine .inl ⟨Nw.Fg.2 ?_,rfl,A⟩;by_cases M:g<=0
    ·omega
    ·refine .inr fun i c G e=>t ⟨O,?_⟩;have:=m.cells.live c Z O;grind
   grind
  ·exact .inr ⟨x,⟨by have:=t.1;omega,o.1,j,p⟩,rfl,u,⟨_,B⟩,W,V⟩
 jZ:=by
  rintro H S w x k s ⟨st,h⟩;refine⟨_,_,349,ptr n,rfl,aZ Y,(wC h x k s).mono ?_⟩;rintro v J (⟨t,rfl,o,j⟩| ⟨t,y,F,o,rfl,q,E,u,j,p,B⟩)
  ·exact .inl ⟨t,rfl,br.same ⟨st,o⟩ (j.mono fun _ _ h=>h.elim)⟩
  ·exact .inr ⟨⟨t,Z⟩,rfl,y,F,u,⟨_,j⟩,p,B⟩
 entry:=by
  rintro H S w x ⟨st,h⟩;obtain⟨c,C,rv,fp,rs,m,l,L⟩:=id h;refine⟨_,_,351,ptr c,rfl,cz (off:=0) Y (ae m.own) rfl,(iL m.cells x).mono ?_⟩;rintro v J ⟨_,f,X⟩;exact⟨⟨st,h.fresh f⟩,f,X⟩
 len:=by
  rintro H S w g ⟨st,c,C,rv,fp,rs,m,l,L⟩;exact⟨_,_,356,ptr c,rfl,cz (off:=0) Y (ae m.own) rfl,(gR m.cells g).mono fun v J K=>K⟩
 home:=by
  rintro H S w x ⟨st,h⟩;obtain⟨c,C,rv,fp,rs,m,l,L⟩:=id h;refine⟨_,_,354,ptr c,rfl,cz (off:=0) Y (ae m.own) rfl,(cW m.cells x).mono ?_⟩;rintro v J (⟨t,rfl,rfl⟩| ⟨t,y,F,rfl,U,Q⟩)
  ·exact .inl ⟨t,rfl,br.same ⟨st,h⟩ (aj.refl _ _)⟩
  ·exact .inr ⟨t,by rw[iO t.1 F],br.same ⟨st,c,C,rv,fp,rs,m.aE U Q,l,L⟩ (Q.mono fun z _ hz=>(L z).1 (.inl hz))⟩
 delete:=by
  rintro H S w x ⟨st,h⟩;refine⟨_,_,350,ptr n,rfl,aZ Y,(og h x).mono ?_⟩;rintro v J (⟨t,rfl,rfl⟩| ⟨t,rfl,_,_,_,_,u,j,p,B⟩)
  ·exact .inl ⟨t,rfl,br.same ⟨st,h⟩ (aj.refl _ _)⟩
  ·exact .inr ⟨t,rfl,u,⟨_,j⟩,p,B⟩
 vl:=by
  rintro H S w a b ⟨st,h⟩;refine⟨_,_,358,ptr n,rfl,aZ Y,(DI h a b).mono ?_⟩;rintro v J (⟨t,rfl,rfl⟩| ⟨t,rfl,_,_,u,j,p,B⟩)
  ·exact .inl ⟨t,rfl,br.same ⟨st,h⟩ (aj.refl _ _)⟩
  ·exact .inr ⟨t,rfl,u,⟨_,j⟩,p,B⟩
structure fV(H:Hp)(r nb pb:Nat)(N P:List Int):Prop where
 own:H.own r=some [.slice (some ⟨nb,0,none⟩) N.length N.length,.slice (some ⟨pb,0,none⟩) P.length P.length]
 Mt:H.own nb=some (N.map i64)
 SW:H.own pb=some (P.map i64)
 len:P.length=N.length
 ne:r≠nb/\r≠pb/\nb≠pb
def bY(N:List Int)(x:Int):Int:=if 0<=x/\x<N.length then N.getD x.toNat 0 else x
theorem DK{N:List Int}(h:0<=x/\x<N.length):N[x.toNat]? =some (bY N x):=by
 grind [bY]
theorem Uo{N:List Int}(h:¬ (0<=x/\x<N.length)):bY N x=x:=by unfold bY;omega
theorem Ck{N:List Int}(h:0<=x/\x<N.length)(v z:Int):bY (N.set x.toNat v) z=if z=x then v else bY N z:=by
 grind [bY]
theorem Lp{N P:List Int}(h:w9 (bY N) (bY P))(l:0<=x/\x<N.length):0<=bY N x/\bY N x<N.length:=by
 apply alt;intro z;have w:=Uo z;cases h;grind
section
variable {H J : Hp} {r nb pb : Nat} {N P : List Int} {T : Nat → Prop}
theorem fV.ext(h:fV H r nb pb N P)(e:aj T H J)(x:¬T r)(z:¬T nb)(w:¬T pb):fV J r nb pb N P:=⟨e.own h.own x,e.own h.Mt z,e.own h.SW w,h.len,h.ne⟩
theorem gM(h:fV H r nb pb N P)(x:Int):aD 449 [ptr r,i64 x] H fun v J=>ak (v= .bool (decide (0<=x/\x<N.length))/\J=H):=by
 refine aL zt ?_;refine vs ?_;refine ai.dec (fun z=>?_) (fun z=>?_)<;>refine v1 (ae h.own) ?_
 ·refine⟨?_,rfl⟩;rw[show(decide (0<=x/\x< (N.length:Int)))=decide (x< (N.length:Int)) by simp[z]];rfl
 ·refine⟨?_,rfl⟩;rw[alc (fun h=>z h.1)];rfl
theorem DL(h:fV H r nb pb N P)(z:0<=x/\x<N.length):aD 451 [ptr r,i64 x] H fun v J=>ak (v= .tuple [i64 (bY N x),.bool true].toArray/\J=H):=by
 refine aL xI ?_;refine vs ?_;refine(gM h x).mono ?_;rintro _ J ⟨rfl,e⟩;obtain rfl:=e.symm;rw[ale z];have w:(N.map i64)[x.toNat]? =some (i64 (bY N x)):=by rw[alz,DK z];rfl
 refine v1 (ae h.own) ?_;refine⟨O,?_⟩;refine v4 (ae h.Mt) ak7 ala w ?_;exact⟨rfl,rfl⟩
theorem cY(h:fV H r nb pb N P)(hi:w9 (bY N) (bY P)){y:Int}(n:0<=x/\x<N.length)(t:0<=y/\y<N.length):aD 448 [ptr r,i64 x,i64 y] H fun v J=>ak (v= .bool true/\
  ∃a P',fV J r nb pb a P'/\a.length=N.length/\bY a=qZ (bY N) x y/\w9 (bY a) (bY P')/\aj (fun z=>z=nb\/z=pb) H J):=by
 refine aL ui ?_;refine vs ?_;refine(gM h x).mono ?_;rintro _ J ⟨rfl,e⟩;obtain rfl:=e.symm;rw[ale n];refine vs ?_;refine(gM h y).mono ?_;rintro _ J ⟨rfl,e⟩;obtain rfl:=e.symm;rw[ale t];have Q:(N.map i64)[x.toNat]? =some (i64 (bY N x)):=by rw[alz,DK n];rfl
 have U:(N.map i64)[y.toNat]? =some (i64 (bY N y)):=by rw[alz,DK t];rfl
 obtain⟨a0,a1⟩:=Lp hi n;obtain⟨b0,G⟩:=Lp hi t;obtain⟨j,L,d⟩:=h.ne;have F:=h.len;refine v1 (ae h.own) ?_;refine⟨O,?_⟩;refine v5 (ae h.Mt) (ae h.own) ak7 ala Q ?_;refine⟨O,?_⟩;refine v5 (ae h.Mt) (ae h.own) ak7 ala U ?_;refine⟨O,?_⟩;refine v3 h.Mt ak7 ala ?_;refine⟨Z,?_⟩;refine vs ?_;have p:aj (fun z=>z=nb) H (H.wr nb ((N.map i64).set x.toNat (i64 (bY N y)))):=(aj.refl (fun z=>z=nb) _).wr (fun _=>rfl) _;have u:(H.wr nb ((N.map i64).set x.toNat (i64 (bY N y)))).own nb=some ((N.map i64).set x.toNat (i64 (bY N y))):=ah h.Mt;generalize H.wr nb ((N.map i64).set x.toNat (i64 (bY N y)))=w at*;refine⟨O,?_⟩;refine v3 u ak7 ala ?_;refine⟨Z,?_⟩;refine vs ?_;have A:aj (fun z=>z=nb) w (w.wr nb (((N.map i64).set x.toNat (i64 (bY N y))).set y.toNat (i64 (bY N x)))):=(aj.refl (fun z=>z=nb) _).wr (fun _=>rfl) _;have V:(w.wr nb (((N.map i64).set x.toNat (i64 (bY N y))).set y.toNat (i64 (bY N x)))).own nb=some (((N.map i64).set x.toNat (i64 (bY N y))).set y.toNat (i64 (bY N x))):=ah u;generalize w.wr nb (((N.map i64).set x.toNat (i64 (bY N y))).set y.toNat (i64 (bY N x)))=l at*;have c:=p.trans A;have o:=c.own h.own j;have f:=c.own h.SW (Ne.symm d);have W:=p.own h.own j;refine v2 (ae W) (ae o) ?_;refine⟨O,?_⟩;refine v3 f ak7 ala ?_;refine⟨Z,?_⟩;refine vs ?_;have C:aj (fun z=>z=pb) l (l.wr pb ((P.map i64).set (bY N y).toNat (i64 x))):=(aj.refl (fun z=>z=pb) _).wr (fun _=>rfl) _;have B:(l.wr pb ((P.map i64).set (bY N y).toNat (i64 x))).own pb=some ((P.map i64).set (bY N y).toNat (i64 x)):=ah f;generalize l.wr pb ((P.map i64).set (bY N y).toNat (i64 x))=m at*;refine⟨O,?_⟩;refine v3 B ak7 ala ?_;refine⟨Z,?_⟩;refine vs ?_;have K:aj (fun z=>z=pb) m (m.wr pb (((P.map i64).set (bY N y).toNat (i64 x)).set (bY N x).toNat (i64 y))):=(aj.refl (fun z=>z=pb) _).wr (fun _=>rfl) _;have M:(m.wr pb (((P.map i64).set (bY N y).toNat (i64 x)).set (bY N x).toNat (i64 y))).own pb=some (((P.map i64).set (bY N y).toNat (i64 x)).set (bY N x).toNat (i64 y)):=ah B;have g:=C.trans K;have q:bY ((N.set x.toNat (bY N y)).set y.toNat (bY N x))=qZ (bY N) x y:=by
  funext z;rw[Ck Z,Ck n];unfold qZ;by_cases D:z=x
  ·grind
  ·omega
 have I:bY ((P.set (bY N y).toNat x).set (bY N x).toNat y)=QU (bY N) (bY P) x y:=by
  funext z;rw[Ck Z,Ck O];rfl
 refine⟨rfl,(N.set x.toNat (bY N y)).set y.toNat (bY N x),(P.set (bY N y).toNat x).set (bY N x).toNat y,⟨?_,?_,?_,by simp[F],h.ne⟩,by simp,q,?_,(c.mono fun z _ h=>.inl h).trans (g.mono fun z _ h=>.inr h)⟩
 ·rw[alb,alb,alb,alb];exact g.own o L
 ·rw[alD,alD];exact g.own V d
 ·simp_all
 ·rw[q,I];exact hi.qZ x y
theorem iW(h:fV H r nb pb N P)(hi:w9 (bY N) (bY P))(l:0<=x/\x<N.length):aD 442 [ptr r,i64 x] H fun v J=>ak (v= .bool true/\
  ∃w P',fV J r nb pb w P'/\w.length=N.length/\bY w=qZ (bY N) x (bY P x)/\w9 (bY w) (bY P')/\aj (fun z=>z=nb\/z=pb) H J):=by
 have n:w9 (bY P) (bY N):=⟨hi.np,hi.pn⟩;have g:=h.len;have t:=Lp n (x:=x) O;have m:(P.map i64)[x.toNat]? =some (i64 (bY P x)):=by rw[alz,DK O];rfl
 refine aL xH ?_;refine vs ?_;refine(gM h x).mono ?_;rintro _ J ⟨rfl,e⟩;obtain rfl:=e.symm;rw[ale l];refine v1 (ae h.own) ?_;refine⟨O,?_⟩;refine v4 (ae h.SW) ak7 ala m ?_;refine(cY h hi l (y:=bY P x) O).mono ?_;rintro _ c ⟨rfl,a⟩;refine vs ?_;exact⟨rfl,a⟩
theorem ng(h:fV H r nb pb N P){A:List Int}(K:mi (bY N) (x::A))(V:(x::A).Nodup)(t:∀c∈x::A,0<=c/\c<N.length)(hN:N.length<=65536):aD 443 [ptr r,i64 x] H fun v J=>ak (∃b,
  Sl J 1 v (x::A).length ((x::A).map i64) (some b)/\H.size<=b/\af H J):=by
 have f:=t x (by simp);have I:=ck V t;have wz:r<H.size/\nb<H.size/\pb<H.size:=⟨aB h.own,aB h.Mt,aB h.SW⟩;have u:∀ {z:Int},0<=z/\z<N.length->(N.map i64)[z.toNat]? =some (i64 (bY N z)):=fun M=>by rw[alz,DK M];rfl
 refine aL zs ?_;refine vs ?_;refine(gM h x).mono ?_;rintro _ J ⟨rfl,e⟩;obtain rfl:=e.symm;rw[ale f];refine vs ?_;have q:af H (H.new 3 [i64 x]):=bm;have s0:Sl (H.new 3 [i64 x]) 1 (.slice (some ⟨H.size,0,none⟩) 1 1) [x].length ([x].map i64) (some H.size):=Sl.bs (size:=1) (n:=1) (xs:=[i64 x]) rfl rfl;have g:=h.ext q (fun h=>h) (fun h=>h) (fun h=>h);generalize H.new 3 [i64 x]=X at*;refine v2 (ae g.own) (ae h.own) ?_;refine⟨O,?_⟩;refine v5 (ae g.Mt) (ae h.Mt) ak7 ala (u f) ?_;have D:kO (bY N) x A x:=K;have W:∀ {a z:Int} {l:List Int},kO (bY N) a l z->bY N a=l.headD z:=fun{a z l} h=>by
  cases l with
  |nil=>exact h
  |cons b l=>exact h.1
 refine ba.intro (fun mm env J=>∃ (d s:List Int) (j:Value) (b:Nat),mm=s.length/\A=d++s/\fV J r nb pb N P/\H.size<=b/\Sl J 1 j (x::d).length ((x::d).map i64) (some b)/\aj (fun z=>H.size<=z) H J/\
  env=[(0,ptr r),(1,i64 x),(5,j),(6,i64 (s.headD x))]) _ ⟨[],A,_,H.size,rfl,rfl,g,alj _,s0,q.mono fun _ _ h=>h.elim,Z⟩ ?_
 rintro mm env H1 ⟨d,s,j,b,rfl,w,L,o,s1,m,rfl⟩;have z1:=m.size;refine vs ?_;cases s with
 |nil=>
  refine ai.dec (fun _=>?_) (fun h=>absurd rfl h);refine vs ?_;rw[alE]at w;subst w;exact⟨b,s1,o,m.mono O⟩
 |cons c s=>
  have F:c∈A:=by rw[w];simp
  have U:=t c (alT _ F);have Q:c≠x:=Z;have wT:d.length+(s.length+1)=A.length:=Z;rw[alk]at I;refine ai.dec (fun h=>absurd h Q) (fun _=>?_);refine vs ?_;refine XB (B:=H.size) o O s1 c Z fun w' H2 b' C E p=>?_;refine vs ?_;have y:=L.ext p O O O;simp(disch:=(first|exact aV|fail)) only[go_sem, ↓reduceIte,Zv,ae y.own,List.headD_cons];refine⟨⟨O,O⟩,?_⟩;refine v4 (ae y.Mt) ak7 ala (u U) ?_;have G:bY N c=s.headD x:=W (kO.VT.1 (by rw[<-w];exact D)).2;exact⟨s.length,by simp,d++[c],s,w',b',rfl,Z,y,C,E,m.trans p,by rw[G]⟩
end
end
end Go.Proofs.YtnanofhkpglbaaaGreatDoor
