/- Texts put behind each other. -/
import Derived.Test.YtjkkkibiegfecaaGreatDoorK43
import Derived.Test.YtjkkkibiegfecaaGreatDoorK45
import Derived.Test.YtjkkkibiegfecaaGreatDoorK46
import Derived.Test.YtjkkkibiegfecaaGreatDoorK47
set_option linter.unusedSimpArgs false
set_option linter.unusedVariables false
set_option maxRecDepth 100000
set_option maxHeartbeats 8000000
namespace Go.Proofs.YtjkkkibiegfecaaGreatDoor
open Go Go.Vc
section
variable{H:Hp}{a:Option Addr}{n c i mo:Nat}{kd dd:Int}
def aae(r:R):List Value:=[i64 r.op,u32 r.a,u32 r.b,i64 r.k]
def aai(rs:List R):List Value:=rs.flatMap aae
theorem aab(r:R)(rs:List R):aai (r::rs)=aae r++aai rs:=rfl
theorem aav(rs:List R):(aai rs).length=rs.length*4:=by
 induction rs with
 |nil=>rfl
 |cons r rs x=>grind [aae,aab]
theorem aaC:∀ (rs:List R) (i:Nat) (r:R),rs[i]? =some r->((aai rs).drop (i*4)).take 4=aae r:=by
 intro rs;induction rs with
 |nil=>grind
 |cons x rs z=>
  intro i r h;cases i with
  |zero=>
   simp only[akp,ajS]at h;subst h;rfl
  |succ i=>
   rw[aab,show(i+1)*4=4+i*4 by omega,<-List.drop_drop,List.drop_left' (by rfl)];grind
theorem bX.aaH{rs:List R}(h:bX H 4 (.slice a n c) n (aai rs)){r:R}(t:rs[i]? =some r):
  i<n/\∃b o x,a=some ⟨b,o,none⟩/\H.rd b=some x/\o+i*4+4<=x.length/\(x.drop (o+i*4)).take 4=aae r:=by
 obtain⟨w,y⟩:=h;rw[aav]at w;have hi:i<rs.length:=by
  rcases aky i rs.length with h|h
  ·exact h
  ·grind
 refine⟨O,?_⟩;rcases y with ⟨p,_⟩| ⟨b,o,j,l,v,m,d,g⟩
 ·omega
 ·injection v with e q f;refine⟨b,o,l,e,m,O,?_⟩;have z:=aaC rs i r t;rw[<-g,List.drop_take,alb,List.drop_drop,Nat.min_eq_left O]at z;exact z
def okR(r:R):Prop:=gM r.a r.b r.k
noncomputable def runT(t:iu):List R->iu
 | []=>t
 |r::rs=>runT (D7 t r.op r.a r.b r.k).1 rs
noncomputable def aaf(t:iu):List R->List Rp
 | []=>[]
 |r::rs=>(D7 t r.op r.a r.b r.k).2::aaf (D7 t r.op r.a r.b r.k).1 rs
theorem aap(t:iu)(a:List R)(r:R):runT t (a++[r])=(D7 (runT t a) r.op r.a r.b r.k).1:=by
 induction a generalizing t with
 |nil=>rfl
 |cons x a h=>exact h _
theorem aaq(t:iu)(a:List R)(r:R):aaf t (a++[r])=aaf t a++[(D7 (runT t a) r.op r.a r.b r.k).2]:=by
 induction a generalizing t with
 |nil=>rfl
 |cons x a h=>exact ajP _ (h _)
theorem aak(t:iu)(a:List R):(aaf t a).length=a.length:=by
 induction a generalizing t with
 |nil=>rfl
 |cons x a h=>exact ajP _ (h _)
theorem aaz{t:iu}(h:Bd t n)(a:List R):Bd (runT t a) (n+a.length):=by
 induction a generalizing t n with
 |nil=>exact h
 |cons x a z=>
  have:=z (XB h (ti x.op) (zh (ti x.op) x.a) (AZ (ti x.op) x.b) (Cl (ti x.op) x.k));rw[ajX,show n+(a.length+1)=n+1+a.length by omega];exact this
def ZX(l:List Rp):List Value:=l.flatMap BF
theorem aah(l:List Rp):(ZX l).length=l.length*6:=by
 induction l with
 |nil=>rfl
 |cons r l x=>
  show(BF r++ZX l).length=_;have e:(r::l).length=l.length+1:=rfl;rw[ajW,x,e];show 6+_=_;omega
theorem aaw(a b:List Rp):ZX (a++b)=ZX a++ZX b:=List.flatMap_append ..
theorem aaE(L:List Rp):dR (ZX L):=by
 intro v h;obtain⟨r,_,x⟩:=List.mem_flatMap.1 h;simp only[BF,akk,List.not_mem_nil,or_false]at x;rcases x with rfl|rfl|rfl|rfl|rfl|rfl<;>rfl
theorem aaD{T:TypeId}{w:Value}{L:List Rp}{r:Rp}{fp:Option Nat}{K:Value->Hp->Prop}(s:Sl H 6 w L.length (ZX L) fp)(o:H.own n=some (BF r))(l:L.length<=1000000)
  (h:∀w' J x,(x=fp\/∃b,x=some b/\H.size<=b/\b<J.size)->Sl J 6 w' (L++[r]).length (ZX (L++[r])) x->aj (fun z=>fp=some z) H J->K w' J):
  eI T 6 48 AP w (.slice (some ⟨n,0,none⟩) 1 1) H K:=by
 have q:bX H 6 (.slice (some ⟨n,0,none⟩) 1 1) 1 (ZX [r]):=Sl.rd (fp:=some n) ⟨rfl,_,1,rfl,o,O,by simp,rfl⟩;grind [Sl.append,aaE,aaw]
theorem aam{cap:Int}(Q:0<=cap/\cap<=65536)(hm:mo<=4294967295){rs:List R}(h:bX H 4 (.slice a rs.length c) rs.length (aai rs))(hr:∀r∈rs,okR r)(hl:rs.length<=60000):
  aF 15 [BO kd dd,i64 cap,.int .u32 (mo:Int),.slice a rs.length c] H fun v J=>ak (af H J/\∃w n fp,v= .tuple [w,i64 (B4 kd dd mo)].toArray/\Sl J 6 w n (if B4 kd dd mo=0 then ZX (aaf ⟨jD cap,uO cap mo,0⟩ rs)else[]) fp):=by
 refine aT aat ?_;refine vs ?_;have F:af H (H.new 23 [i64 kd,i64 dd]):=bD;have z0:(H.new 23 [i64 kd,i64 dd]).size=H.size+1:=ag _ _ _;generalize H.new 23 [i64 kd,i64 dd]=A at*;by_cases e:B4 kd dd mo=0
 ·have B:KX kd dd=0:=by
   apply aj3;intro h;unfold B4 at e;rw[if_pos h]at e;exact h e
  have hmo:mo≠0:=by
   intro h;unfold B4 at e;rw[if_neg (fun h=>h B),if_pos h]at e;cases e
  rw[e];refine(HE (Jl.1 B) (Pg (Jl.1 B)) Q ⟨O,hm⟩ A).mono ?_;rintro _ C ⟨s,S,rfl,P,f,hS⟩;refine vs ?_;refine ai.dec (fun _=>?_) (fun hh=>absurd trivial hh);refine vs ?_;have X:=bd0 cap mo;have P:lf C s S (⟨jD cap,uO cap mo,0⟩:iu).w (⟨jD cap,uO cap mo,0⟩:iu).A (⟨jD cap,uO cap mo,0⟩:iu).q:=P;generalize (⟨jD cap,uO cap mo,0⟩:iu)=y at*;refine bj.intro (fun m env J=>∃ (j:Nat) (v:Value) (fp:Option Nat) (t:Nat->Prop),m=rs.length - j/\j<=rs.length/\af H J/\lf J s t (runT y (rs.take j)).w (runT y (rs.take j)).A (runT y (rs.take j)).q/\(∀z,t z->H.size<=z)/\
   Sl J 6 v (aaf y (rs.take j)).length (ZX (aaf y (rs.take j))) fp/\(∀b,fp=some b->H.size<=b/\¬t b)/\env=[(10,ptr s),(12,v),(25,.slice a rs.length c),(26,i64 rs.length),(27,i64 j)]) rs.length
   ⟨0,_,none,S,O,O,F.trans f,P,Z,Sl.nil _ _,Z,rfl⟩ ?_
  rintro m env H2 ⟨j,v,fp,t,rfl,hj,d,D,W6,s2,yc,rfl⟩;refine vs ?_;refine ai.dec (fun iC=>?_) (fun iC=>?_)<;>refine vs ?_
  ·obtain⟨r,W⟩:∃r,rs[j]? =some r:=⟨_,ajL O⟩;obtain⟨_,b,o,lb,rfl,Nv,hle,L⟩:=bX.aaH (h.fresh d) W;refine⟨O,?_⟩;refine v2 Nv Int.toNat_natCast ?_;refine⟨O,?_⟩;have L:(lb.drop (o+j*4)).take 4=[i64 r.op,u32 r.a,u32 r.b,i64 r.k]:=L;refine v1 L ?_;obtain⟨p,V,z3⟩:=oz H2 52 PQ [i64 r.op,u32 r.a,u32 r.b,i64 r.k];generalize (H2.new 52 PQ).wr H2.size [i64 r.op,u32 r.a,u32 r.b,i64 r.k]=H3 at*;refine v1 (ae V) ?_;have l:=aaz X (rs.take j);have U:(rs.take j).length=j:=by rw[akf];omega
   rw[U]at l;have M:=D.ext p (fun _ _ h=>h);have ht:rs.take (j+1)=rs.take j++[r]:=by rw[aj2,W];rfl
   refine(FJ M (by have:=l.h1;omega) (fun x _ _=>by have:=l.g x;omega) ⟨l.q0,by have:=l.q1;omega⟩ r.op (hr r Z)).mono ?_;rintro _ H4 ⟨rfl,K,N,q,d4⟩;have z2:=p.size;have z4:=q.size;have zf2:=d.size;have s4:=(s2.ext p (fun _ _ h=>h)).ext q Z;have I:af H H4:=(d.trans p).then q O;refine vs ?_;have u:af H4 (H4.new 31 (BF (D7 (runT y (rs.take j)) r.op r.a r.b r.k).2)):=bD;refine aaD (s4.ext u (fun _ _ h=>h)) (am _ _ _) (by rw[aak,U];omega) fun w' H6 G hf6 s6 T=>?_;refine vs ?_;rw[wrap64 O O];have hfb:∀b,fp=some b->b<H2.size:=fun b l=>by
    subst l;obtain⟨_,_,_,_,o,_⟩:=s2;exact aC o
   have key:∀z,K z->¬fp=some z:=Z;refine⟨rs.length - (j+1),O,j+1,w',G,K,rfl,O,(I.trans u).then T Z,?_,fun z hz=>?_,?_,fun b l=>?_,rfl⟩
   ·rw[ht,aap];exact(N.ext u (fun _ _ h=>h)).ext T key
   ·grind
   ·grind [aaq]
   ·rcases hf6 with rfl| ⟨b',rfl,E,_⟩
    ·grind
    ·injection l with l;subst l;rw[ag]at E;exact⟨O,fun h=>by have:=N.slt _ h;omega⟩
  ·rw[akE O]at s2;exact⟨d,v,_,fp,rfl,by rw[if_pos rfl];exact s2⟩
 ·refine(FK Q e A).mono ?_;rintro _ C ⟨rfl,f⟩;refine vs ?_;refine ai.dec (fun g=>absurd g e) (fun _=>?_);refine vs ?_;rw[if_neg e];exact⟨F.trans f,_,0,none,rfl,Sl.nil _ _⟩
theorem aal{cap:Int}(hc:0<=cap/\cap<=65536)(hm:mo<=4294967295){rs:List R}(h:bX H 4 (.slice a rs.length c) rs.length (aai rs))(hr:∀r∈rs,okR r)(hl:rs.length<=60000):
  aF 16 [BO kd dd,i64 cap,.int .u32 (mo:Int),.slice a rs.length c] H fun v J=>ak (af H J/\∃w n fp,v= .tuple [w,i64 (B4 kd dd mo)].toArray/\Sl J 6 w n (if B4 kd dd mo=0 then ZX (aaf ⟨jD cap,uO cap mo,0⟩ rs)else[]) fp):=by
 refine aT aao ?_;refine vs ?_;have f0:af H (H.new 23 [i64 kd,i64 dd]):=bD;have z0:(H.new 23 [i64 kd,i64 dd]).size=H.size+1:=ag _ _ _;generalize H.new 23 [i64 kd,i64 dd]=H0 at*;refine(B6 hc hm H0).mono ?_;rintro v0 u ⟨f1,e1⟩;by_cases E:B4 kd dd mo=0
 ·rw[if_pos E]at e1;obtain⟨l,rfl,o1⟩:=e1;obtain⟨X,tc,N,gc,I,D,L,C,T,G,rfl,_⟩:=id o1;rw[E];obtain⟨f2,b2,z2⟩:=oz u 86 Iw [i64 (uO cap mo).g.length,.int .u32 ((uO cap mo).mo:Int),.slice X T.length tc,.slice N G.length gc,.slice I (jD cap).hs.length D,.slice L (jD cap).cs.length C,u64 0];refine vs ?_;generalize U8:u.size=cs at*;have o2:=o1.fresh f2;generalize (u.new 86 Iw).wr cs [i64 (uO cap mo).g.length,.int .u32 ((uO cap mo).mo:Int),.slice X T.length tc,.slice N G.length gc,.slice I (jD cap).hs.length D,.slice L (jD cap).cs.length C,u64 0]=y at*;refine ai.dec (fun _=>?_) (fun hh=>absurd trivial hh);refine vs ?_;have XO:=bd0 cap mo;have o2:mF y [i64 (uO cap mo).g.length,.int .u32 ((uO cap mo).mo:Int),.slice X T.length tc,.slice N G.length gc,.slice I (jD cap).hs.length D,.slice L (jD cap).cs.length C,u64 0] (⟨jD cap,uO cap mo,0⟩:iu) _ 0:=o2;generalize [i64 (uO cap mo).g.length,.int .u32 ((uO cap mo).mo:Int),.slice X T.length tc,.slice N G.length gc,.slice I (jD cap).hs.length D,.slice L (jD cap).cs.length C,u64 0]=l0 at*;generalize (⟨jD cap,uO cap mo,0⟩:iu)=d at*;have zf1:=f1.size;have s0:Sl (y.new 31 []) 6 (.slice (some ⟨y.size,0,none⟩) 0 0) 0 (ZX []) (some y.size):=Sl.lit _ _ 6 0 [] rfl;have f3:af y (y.new 31 []):=bD;have z3:(y.new 31 []).size=y.size+1:=ag _ _ _;refine bj.intro (fun m env J=>∃ (j:Nat) (v:Value) (fp:Option Nat) (f:Nat->Prop) (l:List Value),m=rs.length - j/\j<=rs.length/\af H J/\J.own cs=some l/\mF J l (runT d (rs.take j)) f j/\(∀z,f z->H.size<=z/\z≠cs)/\
   Sl J 6 v (aaf d (rs.take j)).length (ZX (aaf d (rs.take j))) fp/\(∀b,fp=some b->H.size<=b/\b≠cs/\¬f b)/\env=[(10,ptr cs),(12,v),(28,.slice a rs.length c),(29,i64 rs.length),(30,i64 j)]) rs.length
   ⟨0,_,some y.size,_,l0,O,O,((f0.trans f1).trans f2).trans f3,f3.own b2 (fun h=>h),o2.fresh f3,O,s0,fun b t=>?_,rfl⟩ ?_
  ·grind
  rintro m env H4 ⟨j,v,fp,f,l,rfl,hj,f4,b4,o4,hB,s4,yc,rfl⟩;refine vs ?_;refine ai.dec (fun iC=>?_) (fun iC=>?_)<;>refine vs ?_
  ·obtain⟨r,hx⟩:∃r,rs[j]? =some r:=⟨_,ajL O⟩;obtain⟨_,b,o,lb,rfl,Nv,hle,htk⟩:=bX.aaH (h.fresh f4) hx;refine⟨O,?_⟩;refine v2 Nv Int.toNat_natCast ?_;refine⟨O,?_⟩;have htk:(lb.drop (o+j*4)).take 4=[i64 r.op,u32 r.a,u32 r.b,i64 r.k]:=htk;refine v1 htk ?_;obtain⟨F,b5,z5⟩:=oz H4 52 PQ [i64 r.op,u32 r.a,u32 r.b,i64 r.k];generalize (H4.new 52 PQ).wr H4.size [i64 r.op,u32 r.a,u32 r.b,i64 r.k]=H5 at*;have c5:=F.own b4 (fun h=>h);have o5:=o4.fresh F;obtain⟨X,tc,N,gc,I,D,L,C,T,G,rfl,_⟩:=id o5;refine v2 (ae b5) (ae c5) ?_;have t:=aaz XO (rs.take j);have hlj:(rs.take j).length=j:=by rw[akf];omega
   rw[hlj]at t;have ht:rs.take (j+1)=rs.take j++[r]:=by rw[aj2,hx];rfl
   refine(Ea o5 O t.h0 (fun x=>by have:=t.g x;omega) ⟨t.q0,by have:=t.q1;omega⟩ r.op (hr r Z)).mono ?_;rintro _ p ⟨f6,l6,rfl,o6⟩;obtain⟨ta6,tc6,Q,U,V,M,A,K,P,B,rfl,_⟩:=id o6;have c6:=f6.own c5 (fun h=>h);have eT:runT d (rs.take (j+1))=(D7 (runT d (rs.take j)) r.op r.a r.b r.k).1:=by rw[ht,aap]
   have RF:aaf d (rs.take (j+1))=aaf d (rs.take j)++[(D7 (runT d (rs.take j)) r.op r.a r.b r.k).2]:=by rw[ht,aaq]
   generalize D7 (runT d (rs.take j)) r.op r.a r.b r.k=W at*;obtain⟨f7,b7,b8,z7⟩:=OE p 86 31 Iw AP [i64 W.1.A.g.length,.int .u32 (W.1.A.mo:Int),.slice ta6 P.length tc6,.slice Q B.length U,.slice V W.1.w.hs.length M,.slice A W.1.w.cs.length K,u64 W.1.q] (BF W.2);have b7':(((p.new 86 Iw).new 31 AP).wr p.size [i64 W.1.A.g.length,.int .u32 (W.1.A.mo:Int),.slice ta6 P.length tc6,.slice Q B.length U,.slice V W.1.w.hs.length M,.slice A W.1.w.cs.length K,u64 W.1.q]).rd p.size=some [i64 W.1.A.g.length,.int .u32 (W.1.A.mo:Int),.slice ta6 P.length tc6,.slice Q B.length U,.slice V W.1.w.hs.length M,.slice A W.1.w.cs.length K,u64 W.1.q]:=ae (ah (l':=Iw) (by grind [ay,ag,am]));refine vs ?_;generalize h6s:p.size=Uq at*;generalize (((p.new 86 Iw).new 31 AP).wr Uq [i64 W.1.A.g.length,.int .u32 (W.1.A.mo:Int),.slice ta6 P.length tc6,.slice Q B.length U,.slice V W.1.w.hs.length M,.slice A W.1.w.cs.length K,u64 W.1.q]).wr (Uq+1) (BF W.2)=H7 at*;have c7:=f7.own c6 (fun h=>h);refine v2 b7' c7 ?_;generalize [i64 W.1.A.g.length,.int .u32 (W.1.A.mo:Int),.slice ta6 P.length tc6,.slice Q B.length U,.slice V W.1.w.hs.length M,.slice A W.1.w.cs.length K,u64 W.1.q]=L6 at*;have zc:=aC b4;have z5':=F.size;have z6:=f6.size;have z4:=f4.size;have b9:(H7.wr cs L6).own (Uq+1)=some (BF W.2):=by rw[aG O];exact b8
   have b10:(H7.wr cs L6).own cs=some L6:=ah c7;have ahT:H.size<=cs:=O;have NE:af H (H7.wr cs L6):=(((f4.trans F).trans f6).trans f7).then (bS H7 cs L6) O;have gb:∀z,jA f H5 p z->H.size<=z/\z≠cs:=fun z q=>by
    rcases q with q|q
    ·grind
    ·omega
   have o8:=(o6.fresh f7).ext (bS H7 cs L6) Z;have s8:=((((s4.ext F (fun _ _ h=>h)).ext f6 (fun _ _ h=>h)).ext f7 (fun _ _ h=>h)).ext (bS H7 cs L6) Z);have hfb:∀b,fp=some b->b<H4.size:=fun b t=>by
    subst t;obtain⟨_,_,_,_,o,_⟩:=s4;exact aC o
   have key:∀z,jA f H5 p z->¬fp=some z:=fun z q e=>by
    rcases q with q|q
    ·grind
    grind
   have zE:(H7.wr cs L6).size=H7.size:=bH ..
   generalize H7.wr cs L6=H8 at*;refine v1 (ae b9) ?_;have f9:af H8 (H8.new 31 (BF W.2)):=bD;refine aaD (s8.ext f9 (fun _ _ h=>h)) (am _ _ _) (by rw[aak,hlj];omega) fun w' H10 LM aiu s10 ZD=>?_;refine vs ?_;rw[wrap64 O O];have o10:=(o8.fresh f9).ext ZD key;refine⟨rs.length - (j+1),O,j+1,w',LM,_,_,rfl,O,(NE.trans f9).then ZD Z,ZD.own (f9.own b10 (fun h=>h)) Z,?_,gb,?_,fun b t=>?_,rfl⟩
   ·grind
   ·grind
   grind [ag]
  ·rw[akE O]at s4;exact⟨f4,v,_,fp,rfl,by rw[if_pos rfl];exact s4⟩
 ·rw[if_neg E]at e1;subst e1;obtain⟨f2,b2,z2⟩:=oz u 86 Iw Iw;refine vs ?_;generalize (u.new 86 Iw).wr u.size Iw=y at*;refine ai.dec (fun g=>absurd g E) (fun _=>?_);refine vs ?_;rw[if_neg E];exact⟨(f0.trans f1).trans f2,_,0,none,rfl,Sl.nil _ _⟩
theorem aar(p q:Rp):ri [(0,none,.int),(1,none,.int),(2,some 2,.s [(0,none,.int),(1,none,.int)]),(4,none,.int),(5,none,.int)] (BF p) (BF q)=some (decide (p=q)):=by
 obtain⟨c,h,s,g,k,n⟩:=p;obtain⟨c',z,j,x,t,r⟩:=q;simp only[Rp.mk.injEq];have v:((g:Int)=x)=(g=x):=Z;by_cases w:c=c'<;>by_cases l:h=z<;>by_cases a:s=j<;>by_cases m:g=x<;>by_cases e:k=t<;>by_cases y:n=r<;>simp[ri,Vc.lV,xf,cV,w,l,a,v,m,e,y]
theorem aaA(L:List Rp)(i:Nat)(r:Rp)(h:L[i]? =some r):((ZX L).drop (i*6)).take 6=BF r:=by
 induction L generalizing i with
 |nil=>simp at h
 |cons x L z=>
  have e:ZX (x::L)=BF x++ZX L:=rfl;cases i with
  |zero=>grind
  |succ i=>
   grind
theorem bX.rep{L:List Rp}(h:bX H 6 (.slice a n c) n (ZX L)){r:Rp}(w:L[i]? =some r):
  i<n/\∃b o x,a=some ⟨b,o,none⟩/\H.rd b=some x/\o+i*6+6<=x.length/\(x.drop (o+i*6)).take 6=BF r:=by
 obtain⟨m,t⟩:=h;rw[aah]at m;have hi:=(ajK.1 w).1;refine⟨O,?_⟩;rcases t with ⟨p,_⟩| ⟨b,o,j,l,e,v,d,y⟩
 ·omega
 ·injection e with g q f;refine⟨b,o,l,g,v,O,?_⟩;have z:=aaA L i r w;rw[<-y,List.drop_take,alb,List.drop_drop,Nat.min_eq_left O]at z;exact z
theorem aaj{v w:Value}{L M:List Rp}(h:bX H 6 v L.length (ZX L))(z:bX H 6 w M.length (ZX M))(K:L.length<=100000)(hm:M.length<=100000):aF 17 [v,w] H fun r J=>ak (r= .bool (decide (L=M))/\af H J):=by
 obtain⟨a1,g,rfl⟩:=bX.Dh h;obtain⟨a2,y,rfl⟩:=bX.Dh z;refine aT aan ?_;refine vs ?_;by_cases N:L.length=M.length
 ·rw[ajQ O];refine vs ?_;refine bj.intro (fun m env J=>∃j:Nat,m=L.length - j/\j<=L.length/\af H J/\L.take j=M.take j/\env=[(0,.slice a1 L.length g),(1,.slice a2 M.length y),(12,i64 L.length),(13,i64 j)]) L.length ⟨0,O,O,aj.refl _ _,rfl,rfl⟩ ?_;rintro m env B ⟨j,rfl,C,x,c,rfl⟩;refine vs ?_;refine ai.dec (fun t=>?_) (fun t=>?_)<;>refine vs ?_
  ·obtain⟨p,l⟩:∃p,L[j]? =some p:=⟨_,ajL O⟩;obtain⟨q,n⟩:∃q,M[j]? =some q:=Z;obtain⟨_,b,o,Q,rfl,d,T,e⟩:=bX.rep (h.fresh x) l;obtain⟨_,b',W,U,rfl,f,F,u⟩:=bX.rep (z.fresh x) n;refine⟨O,?_⟩;refine v2 d Int.toNat_natCast ?_;refine⟨O,?_⟩;refine v1 e ?_;refine⟨O,?_⟩;refine v2 f Int.toNat_natCast ?_;refine⟨O,?_⟩;refine v2 u aar ?_;have P:L.take (j+1)=L.take j++[p]:=by rw[aj2,l];rfl
   have A:M.take (j+1)=M.take j++[q]:=by rw[aj2,n];rfl
   rw[e,aar];by_cases a:p=q
   ·rw[ajQ a];simp only[Option.map_some];refine vs ?_;rw[wrap64 O O];grind
   ·rw[ajO a];simp only[Option.map_some];refine vs ?_;exact⟨by rw[ajO Z];rfl,x⟩
  ·rw[akE O,akE O]at c;exact⟨by rw[ajQ c];rfl,x⟩
 ·rw[ajO O];refine vs ?_;exact⟨by rw[ajO Z];rfl,aj.refl _ _⟩
theorem aax{rows:List (List Value)}(h:∀r∈rows,lP MA [.i .i64,.i .u32,.i .u32,.i .i64] r):∃rs:List R,rows.flatten=aai rs/\rs.length=rows.length/\∀r∈rs,r.PM:=by
 induction rows with
 |nil=>exact⟨[],rfl,rfl,Z⟩
 |cons x rows t=>
  obtain⟨rs,j,e,d⟩:=t Z;obtain⟨_,_,rfl,⟨op,rfl,w⟩,_,_,rfl,⟨a,rfl,g⟩,_,_,rfl,⟨b,rfl,y⟩,_,_,rfl,⟨k,rfl,z⟩,rfl⟩:=h x Z;have n:IntKind.i64.min= -9223372036854775808:=rfl;have m:IntKind.i64.max=9223372036854775807:=rfl;have c:IntKind.u32.min=0:=rfl;have v:IntKind.u32.max=4294967295:=rfl;simp only[Lit.wf,aki,ak1,n,m,c,v]at w g y z;refine⟨⟨op,a.toNat,b.toNat,k⟩::rs,?_,by simp[e],fun r l=>?_⟩
  ·grind [aae,aab]
  ·rcases akk.1 l with rfl|l
   ·exact⟨⟨Z,Z,z.1,z.2⟩,w.1,w.2⟩
   grind
theorem aaa{x:Hp}(G:uP x){v0 v1:Value}(Q:zL x (true,[.k (.i .i64),.k (.i .i64),.k (.i .u8),.k (.i .u32)]) v0)(H:zL x (false,[.sl [.i .i64,.i .u32,.i .u32,.i .i64]]) v1):aF 5 [v0,v1] x fun v J=>ak (v= .bool true/\af x J):=by
 obtain⟨kd,dd,z,mo,rfl,V,D⟩:=Lm Q;obtain⟨rows,l,P,E,a,c,rfl,I⟩:=aay H;obtain⟨rs,p,m,M⟩:=aax P;rw[p,<-m]at l;rw[<-m]at I ⊢;clear p m P H E;refine aT aac ?_;refine vs ?_;have q:af x (x.new 26 [i64 kd,i64 dd,.int .u8 (z:Int),.int .u32 (mo:Int)]):=bD;have C:(x.new 26 [i64 kd,i64 dd,.int .u8 (z:Int),.int .u32 (mo:Int)]).own x.size=some [i64 kd,i64 dd,.int .u8 (z:Int),.int .u32 (mo:Int)]:=am _ _ _;generalize x.new 26 [i64 kd,i64 dd,.int .u8 (z:Int),.int .u32 (mo:Int)]=H0 at*;refine(to (G.fresh q)).mono ?_;rintro _ A ⟨rfl,o⟩;have c3:=o.own C (fun h=>h);have y:=q.trans o;refine vs ?_;refine ai.dec (fun U=>?_) (fun U=>?_)<;>refine v1 (ae c3) ?_
 ·exact⟨rfl,y⟩
 refine(AJ A kd dd V D).mono ?_;rintro _ n ⟨rfl,T⟩;refine vs ?_;obtain⟨F,d,z5⟩:=oz n 23 [.int .i64 0,.int .i64 0] [i64 kd,i64 dd];generalize (n.new 23 [.int .i64 0,.int .i64 0]).wr n.size [i64 kd,i64 dd]=H5 at*;have t:=(y.trans T).trans F;refine v1 (ae d) ?_;have B:∀r∈rs,okR r:=fun r l=>(M r l).1;refine(aam O O (l.fresh t) B O).mono ?_;rintro _ H6 ⟨f,w,X,fp6,rfl,s6⟩;have K:=f.own d (fun h=>h);have j:=t.trans f;refine v1 (ae K) ?_;refine(aal O O (l.fresh j) B O).mono ?_;rintro _ H7 ⟨u,w',n7,fp7,rfl,g⟩;have e:=s6.ext u (fun _ _ h=>h);obtain⟨L,W⟩:∃L:List Rp,(if B4 kd dd mo=0 then ZX (aaf ⟨jD ((z%30:Nat):Int),uO ((z%30:Nat):Int) mo,0⟩ rs)else[])=ZX L/\L.length<=60:=by
  split
  ·exact⟨_,rfl,by rw[aak];omega⟩
  ·exact⟨[],rfl,by simp⟩
 rw[W.1]at e g;have n6L:X=L.length:=by have:=e.1;rw[aah]at this;omega
 have n7L:n7=L.length:=by have:=g.1;rw[aah]at this;omega
 subst n6L n7L;refine v1 ajZ ?_;refine(aaj e.rd g.rd O O).mono ?_;rintro _ H8 ⟨rfl,N⟩;refine v1 ajZ ?_;exact⟨rfl,(j.trans u).trans N⟩
end
end Go.Proofs.YtjkkkibiegfecaaGreatDoor
