/- Texts put behind each other. -/
import Derived.Test.YtjkkkibiegfecaaGreatDoorK27
set_option linter.unusedSimpArgs false
set_option linter.unusedVariables false
set_option maxRecDepth 100000
set_option maxHeartbeats 8000000
set_option maxHeartbeats 4000000
namespace Go.Proofs.YtjkkkibiegfecaaGreatDoor
open Go Go.Vc
section
variable{L:List (Int×Nat)}{n i c:Nat}{x:Int}{J:Hp}
abbrev eB(A:Ar)(h:Option Addr)(T:List (Int×Nat))(z:Nat)(x:Option Addr)(G:List (Int×Nat))(gc:Nat):List Value:=[i64 A.g.length,.int .u32 (A.mo:Int),.slice h T.length z,.slice x G.length gc]
def ij(L:List (Int×Nat)):List Value:=L.flatMap fun h=>[i64 h.1,.int .u32 (h.2:Int)]
theorem MO(L:List (Int×Nat)):(ij L).length=L.length*2:=by
 induction L with
 |nil=>rfl
 |cons c r x=>simp only[ij,alo,ajW,ajX,akB]at*;omega
theorem MP(a b:List (Int×Nat)):ij (a++b)=ij a++ij b:=List.flatMap_append ..
theorem OB(L:List (Int×Nat)):dR (ij L):=by
 induction L with
 |nil=>intro v x;cases x
 |cons a r h=>
  intro v x;rcases akk.1 x with rfl|x
  ·rfl
  ·rcases akk.1 x with rfl|x
   ·rfl
   ·exact h v x
theorem S9{y:Int×Nat}(hi:L[i]? =some y):(ij L)[i*2]? =some (i64 y.1)/\(ij L)[i*2+1]? =some (.int .u32 (y.2:Int)):=by
 induction L generalizing i with
 |nil=>grind
 |cons a r x=>
  have e:ij (a::r)=i64 a.1:: .int .u32 (a.2:Int)::ij r:=rfl;grind
theorem bX.eU{H:Hp}{a:Option Addr}(h:bX H 2 (.slice a n c) n (ij L)){y:Int×Nat}(z:L[i]? =some y):
  ∃b o l,a=some ⟨b,o,none⟩/\H.rd b=some l/\i<n/\o+i*2+2<=l.length/\(l.drop (o+i*2)).take 2=[i64 y.1,.int .u32 (y.2:Int)]:=by
 have hi:=(ajK.1 z).1;have t:=MO L;obtain⟨x1,x2⟩:=S9 z;obtain⟨p,⟨rfl,_,_,e⟩| ⟨b,o,c',l,e,g,j,d⟩⟩:=h
 ·omega
 ·injection e with m _ _;subst m;have get:∀k,k<n*2->l[o+k]? =(ij L)[k]? :=Z;have r:=(get (i*2) O).trans x1;have x:=(get (i*2+1) O).trans x2;rw[<-Nat.add_assoc]at x;have v:o+i*2+2<=l.length:=by have:=(ajK.1 x).1;omega
  refine⟨b,o,l,rfl,g,O,v,?_⟩;apply akb;grind
def Ez(H:Hp)(l:List Value)(A:Ar)(T G:List (Int×Nat))(Bs:Nat->Prop)(N:Nat):Prop:=
 ∃z a h gc,l=(eB A z T a h G gc)/\bX H 2 (.slice z T.length a) T.length (ij T)/\bX H 2 (.slice h G.length gc) G.length (ij G)/\
  (∀x,z=some x->Bs x.block)/\(∀x,h=some x->Bs x.block)/\Nk A T G/\oP A/\T.length<=N/\G.length<=N
theorem OC(k s x h:Int):ri [(0,none,.int),(1,none,.int)] [i64 k,.int .u32 s] [i64 x,.int .u32 h]=some (decide (k=x/\s=h)):=by
 by_cases z:k=x<;>by_cases a:s=h<;>simp[ri,Vc.lV,xf,cV,z,a]
theorem me{H:Hp}{a:Option Addr}(h:bX H 2 (.slice a L.length c) L.length (ij L))(hm:L.length<=100000)(x:Int)(g:Nat):
  aF 155 [.slice a L.length c,eU x g] H fun v J=>ak (v= .bool (decide ((x,g)∈L))/\af H J):=by
 refine aT IP ?_;refine vs ?_;have n:af H (H.new 29 [i64 x,.int .u32 (g:Int)]):=bD;have b0:(H.new 29 [i64 x,.int .u32 (g:Int)]).own H.size=some [i64 x,.int .u32 (g:Int)]:=am _ _ _;generalize H.new 29 [i64 x,.int .u32 (g:Int)]=H0 at*;refine bj.intro (fun m env J=>af H0 J/\∃j:Nat,m=L.length - j/\j<=L.length/\(x,g)∉L.take j/\env=[(3,ptr H.size),(7,.slice a L.length c),(8,i64 L.length),(9,i64 j)]) L.length ⟨aj.refl _ _,0,O,O,by simp,rfl⟩ ?_;rintro m env H1 ⟨z,j,rfl,W,f,rfl⟩;have u:=z.own b0 (fun h=>h);refine vs ?_;refine ai.dec (fun K=>?_) (fun K=>?_)<;>refine vs ?_
 ·obtain⟨y,p⟩:∃y,L[j]? =some y:=⟨_,ajL O⟩;obtain⟨b,o,l,rfl,C,U,c3,c4⟩:=bX.eU (h.fresh (n.trans z)) p;refine⟨O,?_⟩;refine v2 C Int.toNat_natCast ?_;refine⟨O,?_⟩;refine v1 c4 ?_;obtain⟨t,B,I⟩:=oz H1 29 cI [i64 y.1,.int .u32 (y.2:Int)];generalize (H1.new 29 cI).wr H1.size [i64 y.1,.int .u32 (y.2:Int)]=H2 at*;have P:=t.own u (fun h=>h);refine v3 (ae B) (ae P) OC ?_;simp(disch:=(first|exact aV|fail)) only[go_sem, ↓reduceIte,Zv,Option.map_some];have F:L.take (j+1)=L.take j++[y]:=by rw[aj2,p];rfl
  refine ai.dec (fun d=>?_) (fun d=>?_)<;>refine vs ?_
  ·have e:(x,g)∈L:=by
    have:=ajV p;rwa[show y=(x,g)from Prod.ext d.1 O]at this
   exact⟨by rw[ajQ e];rfl,n.trans (z.trans t)⟩
  ·rw[wrap64 O O];refine⟨L.length - (j+1),O,z.trans t,j+1,rfl,O,?_,rfl⟩;rw[F,aj4,aj6];rintro(r|r)
   ·exact f r
   ·exact d (by rw[<-r];exact⟨rfl,rfl⟩)
 ·have e:(x,g)∉L:=by rwa[akE O]at f
  exact⟨by rw[ajO e];rfl,n.trans z⟩
theorem RU{H:Hp}{T:TypeId}{u:Value}{K:Value->Hp->Prop}(o:H.own n=some [])(r:bX H 2 u L.length (ij L))(j:L.length<=1000000)
  (m:∀w' J b,(b=n\/H.size<=b)->Sl J 2 w' L.length (ij L) (some b)->aj (fun z=>z=n) H J->K w' J):
  eI T 2 16 cI (.slice (some ⟨n,0,none⟩) 0 0) u H K:=by
 have s:Sl H 2 (.slice (some ⟨n,0,none⟩) 0 0) 0 [] (some n):=⟨rfl,[],0,rfl,o,O,by simp,rfl⟩;refine Sl.append s r rfl (OB L) O fun c J y x h e=>?_;rw[ajJ,akh]at x;have a:aj (fun z=>z=n) H J:=⟨h.size,fun z g d=>h.be z g Z⟩;rcases e with rfl| ⟨b,rfl,v,t⟩
 ·exact m c J n (.inl rfl) x a
 ·exact m c J b (.inr v) x a
theorem RV{H:Hp}{T:TypeId}{b:Nat}{w:Value}{h:Int×Nat}{K:Value->Hp->Prop}(s:Sl H 2 w L.length (ij L) (some b))(o:H.own n=some [i64 h.1,.int .u32 (h.2:Int)])(e:L.length<=1000000)
  (v:∀w' J b',(b'=b\/H.size<=b')->Sl J 2 w' (L++[h]).length (ij (L++[h])) (some b')->aj (fun z=>z=b) H J->K w' J):
  eI T 2 16 cI w (.slice (some ⟨n,0,none⟩) 1 1) H K:=by
 have r:bX H 2 (.slice (some ⟨n,0,none⟩) 1 1) 1 (ij [h]):=Sl.rd (fp:=some n) ⟨rfl,_,1,rfl,o,O,by simp,rfl⟩;refine Sl.append s r rfl (OB [h]) O fun g J m x a c=>?_;rw[<-MP]at x;grind
theorem bS(H:Hp)(b:Nat)(l:List Value):aj (fun x=>x=b) H (H.wr b l):=(aj.refl (fun x=>x=b) _).wr (fun _=>rfl) _
section
variable {H : Hp} {l : List Value} {A : Ar} {T G : List (Int × Nat)} {Bs Q : Nat → Prop} {N : Nat}
theorem Ez.ext(h:Ez H l A T G Bs N)(e:aj Q H J)(y:∀b,Bs b->¬Q b):Ez J l A T G Bs N:=by
 obtain⟨v,g,x,gc,rfl,z,a,n,m,c⟩:=h;exact⟨v,g,x,gc,rfl,bX.be z e Z,bX.be a e Z,n,m,c⟩
theorem Ez.fresh(h:Ez H l A T G Bs N)(e:af H J):Ez J l A T G Bs N:=h.ext e fun _ _ h=>h
theorem Ez.mono{B2:Nat->Prop}(h:Ez H l A T G Bs N)(g:∀b,Bs b->B2 b):Ez H l A T G B2 N:=by
 obtain⟨m,c,x,gc,rfl,z,a,v,e,n⟩:=h;exact⟨m,c,x,gc,rfl,z,a,Z,Z,n⟩
theorem fv(h:Ez H l A T G Bs N)(B:N<=100000)(x:Int)(g:Nat):aF 117 [.agg l.toArray,eU x g] H fun v J=>ak (v= .bool (decide (A.yg x g))/\af H J):=by
 obtain⟨n,m,a,gc,rfl,f,u,_,_,r,_,P,L⟩:=h;refine aT GX ?_;refine vs ?_;have c:af H ((H.new 80 (eB A n T m a G gc)).new 29 [i64 x,.int .u32 (g:Int)]):=bD.new _ _;have b0:((H.new 80 (eB A n T m a G gc)).new 29 [i64 x,.int .u32 (g:Int)]).own H.size=some (eB A n T m a G gc):=by rw[ay (by simp only[ag];omega),am]
 have j:((H.new 80 (eB A n T m a G gc)).new 29 [i64 x,.int .u32 (g:Int)]).own (H.size+1)=some [i64 x,.int .u32 (g:Int)]:=az (by simp only[ag]);generalize (H.new 80 (eB A n T m a G gc)).new 29 [i64 x,.int .u32 (g:Int)]=H0 at*;refine(me (f.fresh c) O x g).mono ?_;rintro _ H1 ⟨rfl,z⟩;have d:=z.own b0 (fun h=>h);have p:=z.own j (fun h=>h);have t:=r.live x g;by_cases y:(x,g)∈T
 ·rw[ajQ y];refine v2 (ae d) (ae p) ?_;refine(me (u.fresh (c.trans z)) O x g).mono ?_;rintro _ H2 ⟨rfl,o⟩;refine vs ?_;refine⟨ajP Value.bool ?_,c.trans (z.trans o)⟩;by_cases e:(x,g)∈G
  ·rw[ajQ e,ajO (fun h:A.yg x g=>(t.2 ⟨h.1,h.2.symm⟩).2 e)];rfl
  ·have:=t.1 ⟨y,e⟩;rw[ajO e,ajQ (show A.yg x g from⟨this.1,this.2.symm⟩)];rfl
 ·rw[ajO y];refine vs ?_;exact⟨ajP Value.bool (ajO (fun h=>y (t.2 ⟨h.1,h.2.symm⟩).1)).symm,c.trans z⟩
theorem qE(h:Ez H l A T G Bs N)(F:N<=100000)(L:0<=x):aF 151 [.agg l.toArray,i64 x] H fun v J=>ak (v= .int .u32 (A.bf x:Int)/\af H J):=by
 obtain⟨a,n,t,gc,rfl,f,K,_,_,r,_,I,V⟩:=h;refine aT GZ ?_;refine vs ?_;have e:af H (H.new 80 (eB A a T n t G gc)):=bD;generalize H.new 80 (eB A a T n t G gc)=H0 at*;refine bj.intro (fun m env J=>af H0 J/\∃j:Nat,m=T.length - j/\j<=T.length/\env=[(1,i64 x),(5,.int .u32 (fH (T.take j) x 0:Int)),(9,.slice a T.length n),(10,i64 T.length),(11,i64 j)]) T.length ⟨aj.refl _ _,0,O,O,rfl⟩ ?_;rintro m env H1 ⟨z,j,rfl,U,rfl⟩;refine vs ?_;refine ai.dec (fun B=>?_) (fun B=>?_)<;>refine vs ?_
 ·obtain⟨y,d⟩:∃y,T[j]? =some y:=⟨_,ajL O⟩;obtain⟨b,o,l,rfl,p,C,c3,c4⟩:=bX.eU (f.fresh (e.trans z)) d;have P:T.take (j+1)=T.take j++[y]:=by rw[aj2,d];rfl
  refine⟨O,?_⟩;refine v2 p Int.toNat_natCast ?_;refine⟨O,?_⟩;refine v1 c4 ?_;obtain⟨g,c,D⟩:=oz H1 29 cI [i64 y.1,.int .u32 (y.2:Int)];generalize (H1.new 29 cI).wr H1.size [i64 y.1,.int .u32 (y.2:Int)]=H2 at*;refine v1 (ae c) ?_;have W:fH (T.take (j+1)) x 0=if y.1=x then y.2 else fH (T.take j) x 0:=by rw[P,zi]
  refine ai.dec (fun u=>?_) (fun u=>?_)<;>refine v1 (ae c) ?_
  ·rw[wrap64 O O];exact⟨T.length - (j+1),O,z.trans g,j+1,rfl,O,Z⟩
  ·rw[wrap64 O O];exact⟨T.length - (j+1),O,z.trans g,j+1,rfl,O,Z⟩
 ·refine⟨?_,e.trans z⟩;rw[akE O,r.VU x L];rfl
theorem oA(h:Ez H l A T G Bs N)(F:N<=100000):aF 150 [.agg l.toArray] H fun v J=>ak (v=i64 A.nx/\af H J):=by
 obtain⟨z,a,e,gc,rfl,f,K,_,_,r,_,I,V⟩:=h;refine aT EX ?_;refine vs ?_;have n:af H (H.new 80 (eB A z T a e G gc)):=bD;generalize H.new 80 (eB A z T a e G gc)=H0 at*;refine bj.intro (fun m env J=>af H0 J/\∃j:Nat,m=T.length - j/\j<=T.length/\env=[(3,i64 (((T.take j).countP fun h=>h.2==1:Nat):Int)),(7,.slice z T.length a),(8,i64 T.length),(9,i64 j)]) T.length ⟨aj.refl _ _,0,O,O,rfl⟩ ?_;rintro m env H1 ⟨x,j,rfl,U,rfl⟩;refine vs ?_;refine ai.dec (fun P=>?_) (fun P=>?_)<;>refine vs ?_
 ·obtain⟨y,g⟩:∃y,T[j]? =some y:=⟨_,ajL O⟩;obtain⟨b,o,l,rfl,d,C,c3,c4⟩:=bX.eU (f.fresh (n.trans x)) g;have L:T.take (j+1)=T.take j++[y]:=by rw[aj2,g];rfl
  refine⟨O,?_⟩;refine v2 d Int.toNat_natCast ?_;refine⟨O,?_⟩;refine v1 c4 ?_;obtain⟨c,t,D⟩:=oz H1 29 cI [i64 y.1,.int .u32 (y.2:Int)];generalize (H1.new 29 cI).wr H1.size [i64 y.1,.int .u32 (y.2:Int)]=H2 at*;refine v1 (ae t) ?_;have u:=ak7 (p:=fun h:Int×Nat=>h.2==1) (l:=T.take j);have W:(T.take (j+1)).countP (fun h=>h.2==1)=(T.take j).countP (fun h=>h.2==1)+if y.2=1 then 1 else 0:=by
   rw[L,List.countP_append,List.countP_singleton];simp
  rw[akf]at u;refine ai.dec (fun B=>?_) (fun B=>?_)<;>refine vs ?_
  ·rw[wrap64 O O,wrap64 O O];exact⟨T.length - (j+1),O,x.trans c,j+1,rfl,O,Z⟩
  ·rw[wrap64 O O];exact⟨T.length - (j+1),O,x.trans c,j+1,rfl,O,Z⟩
 ·refine⟨?_,n.trans x⟩;rw[akE O,r.fr];rfl
theorem Ff(h:Ez H l A T G Bs N)(hN:N<=100000)(hx:A.live x):aF 115 [.agg l.toArray,i64 x] H fun v J=>ak (v= .tuple [eU x (A.bf x),.bool true].toArray/\af H J):=by
 obtain⟨c,e,d,gc,rfl,h1,h2,_,_,r,_,WK,WL⟩:=h;refine aT Kp ?_;refine vs ?_;have u:af H ((H.new 80 (eB A c T e d G gc)).new 29 cI):=bD.new _ _;have b0:((H.new 80 (eB A c T e d G gc)).new 29 cI).own H.size=some (eB A c T e d G gc):=by rw[ay (by simp only[ag];omega),am]
 have C:((H.new 80 (eB A c T e d G gc)).new 29 cI).own (H.size+1)=some cI:=az (by simp only[ag]);generalize (H.new 80 (eB A c T e d G gc)).new 29 cI=H0 at*;refine bj.intro (fun m env J=>af H0 J/\∃j:Nat,m=T.length - j/\j<=T.length/\(∀h∈T.take j,h.1=x->h∈G)/\env=[(1,i64 x),(2,ptr H.size),(4,ptr (H.size+1)),(9,.slice c T.length e),(10,i64 T.length),(11,i64 j)]) T.length ⟨aj.refl _ _,0,O,O,by simp,rfl⟩ ?_;rintro m env H1 ⟨z,j,rfl,hj,mT,rfl⟩;have F:=z.own b0 (fun h=>h);have I:=z.own C (fun h=>h);refine vs ?_;refine ai.dec (fun iC=>?_) (fun iC=>?_)<;>refine vs ?_
 ·obtain⟨y,P⟩:∃y,T[j]? =some y:=⟨_,ajL O⟩;obtain⟨b,o,l,rfl,U,c2,c3,c4⟩:=bX.eU (h1.fresh (u.trans z)) P;have ht:T.take (j+1)=T.take j++[y]:=by rw[aj2,P];rfl
  refine⟨O,?_⟩;refine v2 U Int.toNat_natCast ?_;refine⟨O,?_⟩;refine v1 c4 ?_;obtain⟨t,f,z2⟩:=oz H1 29 cI [i64 y.1,.int .u32 (y.2:Int)];generalize MQ:H1.size=W at*;generalize (H1.new 29 cI).wr W [i64 y.1,.int .u32 (y.2:Int)]=H2 at*;have c5:=t.own F (fun h=>h);have V:=t.own I (fun h=>h);refine v1 (ae f) ?_;have next:∀g,af H2 g->(y.1=x->y∈G)->af H0 g/\∃n:Nat,T.length - (j+1)=T.length - n/\n<=T.length/\(∀h∈T.take n,h.1=x->h∈G)/\n=j+1:=fun g a VW=>by
   refine⟨(z.trans t).trans a,j+1,rfl,O,fun h hh Ou=>?_,rfl⟩;grind
  by_cases B:y.1=x
  ·refine v3 (ajQ B) (ae c5) (ae f) ?_;refine(me (h2.fresh ((u.trans z).trans t)) O y.1 y.2).mono ?_;rintro _ g ⟨rfl,a⟩;by_cases p:y∈G
   ·rw[ajQ (show(y.1,y.2)∈G from p)];refine vs ?_;rw[wrap64 O O];obtain⟨M,n,E,X,g4,g5⟩:=next g a (fun _=>p);grind
   ·rw[ajO (show¬ (y.1,y.2)∈G from p)];have hyT:(y.1,y.2)∈T:=ajV P;have hl:=(r.live y.1 y.2).1 ⟨hyT,p⟩;have K:=a.own f (fun h=>h);have L:=a.own V (fun h=>h);refine v2 (ae K) L ?_;refine v1 (cf L) ?_;rw[hl.2,B];have D:=(u.trans z).trans (t.trans a);exact⟨rfl,D.then (bS _ _ _) O⟩
  ·refine v1 (ajO B) ?_;rw[wrap64 O O];obtain⟨M,n,E,X,g4,g5⟩:=next H2 (aj.refl _ _) O;grind
 ·exfalso;have:=(r.live x (A.bf x)).2 ⟨hx,rfl⟩;grind
theorem Aa(h:Ez H l A T G Bs N)(hN:N<=100000):aF 149 [.agg l.toArray] H fun v J=>ak (∃fp,Sl J 1 v A.wt.length (A.wt.reverse.map i64) fp/\af H J):=by
 obtain⟨x,a,d,gc,rfl,h1,I,_,_,r,KV,WK,WL⟩:=h;refine uS EW ⟨rfl,?_⟩;refine v1 vi.eq_1 ?_;have f0:af H ((H.new 80 (eB A x T a d G gc)).new 3 []):=bD.new _ _;have b0:((H.new 80 (eB A x T a d G gc)).new 3 []).own H.size=some (eB A x T a d G gc):=by rw[ay (by simp only[ag];omega),am]
 have s0:Sl ((H.new 80 (eB A x T a d G gc)).new 3 []) 1 (.slice (some ⟨H.size+1,0,none⟩) 0 0) 0 (([]:List Int).map i64) (some (H.size+1)):=Sl.bJ (size:=1) (n:=0) (xs:=[]) rfl (by simp only[ag]);generalize (H.new 80 (eB A x T a d G gc)).new 3 []=H0 at*;rw[wrap64 O O];refine bj.intro (fun m env J=>∃ (j:Nat) (v:Value) (b:Nat),m=j/\j<=G.length/\af H J/\J.own H.size=some (eB A x T a d G gc)/\H.size<b/\
  Sl J 1 v ((((G.drop j).reverse.filter fun h=>decide (h.2<A.mo) && (fH T h.1 0==h.2)).map (·.1)).length) ((((G.drop j).reverse.filter fun h=>decide (h.2<A.mo) && (fH T h.1 0==h.2)).map (·.1)).map i64) (some b)/\env=[(1,ptr H.size),(3,v),(4,i64 ((j:Int) - 1))]) G.length ⟨G.length,_,H.size+1,rfl,O,f0,b0,O,by rw[ald];exact s0,rfl⟩ ?_
 rintro m env H1 ⟨j,v,b,rfl,hj,t,L,V,s1,rfl⟩;refine vs ?_;refine ai.dec (fun iC=>?_) (fun iC=>?_)<;>refine vs ?_
 ·obtain⟨i,rfl⟩:∃i,m=i+1:=⟨m - 1,O⟩;rw[show((i+1:Nat):Int) - 1=i by omega]at*;obtain⟨y,P⟩:∃y,G[i]? =some y:=⟨_,ajL O⟩;obtain⟨u,o,l,rfl,c1,c2,c3,c4⟩:=bX.eU (I.fresh t) P;have B:((G.drop i).reverse.filter fun h=>decide (h.2<A.mo) && (fH T h.1 0==h.2)).map (·.1)=if y.2<A.mo/\fH T y.1 0=y.2 then((G.drop (i+1)).reverse.filter fun h=>decide (h.2<A.mo) && (fH T h.1 0==h.2)).map (·.1)++[y.1]else((G.drop (i+1)).reverse.filter fun h=>decide (h.2<A.mo) && (fH T h.1 0==h.2)).map (·.1):=by
   have:G.drop i=y::G.drop (i+1):=by
    obtain⟨hh,e⟩:=ajK.1 P;rw[<-e,<-akm hh]
   rw[this,List.reverse_cons,akY,akn];by_cases h:y.2<A.mo/\fH T y.1 0=y.2
   ·rw[if_pos h];simp[h.1,h.2]
   ·rw[if_neg h];have:([y].filter fun h=>decide (h.2<A.mo) && (fH T h.1 0==h.2))=[]:=by simp;omega
    rw[this];simp
  refine v1 (ae L) ?_;refine⟨O,?_⟩;refine v2 c1 Int.toNat_natCast ?_;refine⟨O,?_⟩;refine v1 c4 ?_;obtain⟨g,C,z2⟩:=oz H1 29 cI [i64 y.1,.int .u32 (y.2:Int)];generalize MQ:H1.size=F at*;generalize (H1.new 29 cI).wr F [i64 y.1,.int .u32 (y.2:Int)]=H2 at*;have c5:=g.own L (fun h=>h);refine cZ.intro (fun J=>J.own H.size=some (eB A x T a (some ⟨u,o,none⟩) G gc)/\J.own F=some [i64 y.1,.int .u32 (y.2:Int)]) ⟨c5,C⟩ ?_;refine vs ?_;refine bG.intro (.int .u32 (y.2:Int)) (fun J c=>?_) ?_
  ·refine v1 (ae c.2) ?_;exact⟨trivial,trivial⟩
  refine vs ?_;refine bG.intro (.int .u32 (A.mo:Int)) (fun J c=>?_) ?_
  ·refine v1 (ae c.1) ?_;exact⟨trivial,trivial⟩
  refine vs ?_;refine ai.dec (fun D=>?_) (fun D=>?_)<;>refine vs ?_
  ·refine bG.intro (.agg (eB A x T a (some ⟨u,o,none⟩) G gc).toArray) (fun J c=>?_) ?_
   ·refine v1 (ae c.1) ?_;trivial
   refine vs ?_;refine bG.intro (i64 y.1) (fun J c=>?_) ?_
   ·refine v1 (ae c.2) ?_;exact⟨trivial,trivial⟩
   refine vs ?_;refine bG.intro (.int .u32 (y.2:Int)) (fun J c=>?_) ?_
   ·refine v1 (ae c.2) ?_;exact⟨trivial,trivial⟩
   refine vs ?_;have E:0<=y.1:=((r.mem y.1 y.2).1 ((r.gv y.1 y.2).1 (ajV P)).1).1.1;have v2:Ez H2 (eB A x T a (some ⟨u,o,none⟩) G gc) A T G (fun _=>True) N:=⟨x,a,_,gc,rfl,(h1.fresh t).fresh g,(I.fresh t).fresh g,fun _ _=>trivial,fun _ _=>trivial,r,KV,WK,WL⟩;refine(qE v2 hN E).mono ?_;rintro _ H3 ⟨rfl,f⟩;have p:=f.own c5 (fun h=>h);have K:=f.own C (fun h=>h);refine⟨⟨p,K⟩,?_⟩;have W:=(t.trans g).trans f;have X:=s1.ext (g.trans f) (fun _ _ h=>h);refine vs ?_;rw[<-r.VU _ E];by_cases M:fH T y.1 0=y.2
   ·rw[ajQ (show((fH T y.1 0:Nat):Int)=(y.2:Nat) by omega)];refine vs ?_;have hk:=List.length_filter_le (fun h:Int×Nat=>decide (h.2<A.mo) && (fH T h.1 0==h.2)) (G.drop (i+1)).reverse;rw[alh,List.length_drop]at hk;refine v1 (ae K) ?_;refine LL X y.1 (by rw[aka];omega) fun w' H5 b' hb' s5 U=>?_;refine vs ?_;rw[wrap64 O O];have c7:=U.own p O;have z1:=aC p;exact⟨i,O,i,w',b',rfl,O,W.then U (fun z hz=>O),c7,O,by rw[B,if_pos ⟨O,M⟩];exact s5,rfl⟩
   ·rw[ajO (show¬ ((fH T y.1 0:Nat):Int)=(y.2:Nat) by omega)];refine vs ?_;rw[wrap64 O O];exact⟨i,O,i,v,b,rfl,O,W,p,V,by rw[B,if_neg (fun h=>M h.2)];exact X,rfl⟩
  ·rw[wrap64 O O];exact⟨i,O,i,v,b,rfl,O,t.trans g,c5,V,by rw[B,if_neg (fun h=>D O)];exact s1.ext g (fun _ _ h=>h),rfl⟩
 ·obtain rfl:m=0:=O;rw[List.drop_zero]at s1;rw[r.wt];rw[List.filter_reverse,List.map_reverse]at s1;exact⟨some b,by rw[<-alh];exact s1,t⟩
theorem oP.pick{A A':Ar}(ok:oP A)(z:A.pick=some (x,A')):oP (A'.out x):=by
 obtain⟨p,v,g,e,m,r,j⟩:=Ar.oQ z ok;have t:oP A':=by
  have d:=ok.nx;unfold Ar.pick at z;split at z
  ·injection z with z;injection z with c a;subst a;exact⟨fun y n=>ok.wl y ((alc _).subset n),List.Nodup.sublist Z ok.wd,ok.fr,ok.ct,ok.nx⟩
  ·split at z
   ·cases z
   ·injection z with z;injection z with c a;subst a;exact⟨Z,ok.wd,fun y n=>ok.fr y Z,ok.ct,Z⟩
 exact t.out m Z (fun h=>v (by unfold Ar.live at h ⊢;grind)) g e
theorem BK(h:Ez H l A T G Bs N)(hN:N<=100000)(hg:∀x,A.bf x<4294967295):aF 112 [.agg l.toArray] H fun v J=>ak (af H J/\
  match A.pick with
  |none=>v= .tuple [.agg l.toArray,eU 0 0,i64 32].toArray
  |some (x,A')=>∃l',v= .tuple [.agg l'.toArray,eU x (A.bf x+1),i64 0].toArray/\Ez J l' (A'.out x) (T++[(x,A.bf x+1)]) G (fun b=>Bs b\/(H.size<=b/\b<J.size)) (N+1)):=by
 have hh:=h;obtain⟨j,d,n,gc,rfl,h1,h2,hta,hga,r,X,WK,WL⟩:=h;refine uS GW ⟨rfl,?_⟩;simp(disch:=(first|exact aV|fail)) only[go_sem, ↓reduceIte,Zv,xJ];have f0:af H (((H.new 80 (eB A j T d n G gc)).new 80 xg).new 29 cI):=(bD.new _ _).new _ _;have b0:(((H.new 80 (eB A j T d n G gc)).new 80 xg).new 29 cI).own H.size=some (eB A j T d n G gc):=by rw[ay (by simp only[ag];omega),ay (by simp only[ag];omega),am]
 have b1:(((H.new 80 (eB A j T d n G gc)).new 80 xg).new 29 cI).own (H.size+1)=some xg:=by rw[ay (by simp only[ag];omega)];exact az (by simp only[ag])
 have b2:(((H.new 80 (eB A j T d n G gc)).new 80 xg).new 29 cI).own (H.size+2)=some cI:=az (by simp only[ag]);generalize ((H.new 80 (eB A j T d n G gc)).new 80 xg).new 29 cI=H0 at*;refine(Aa (hh.fresh f0) hN).mono ?_;rintro w H1 ⟨fp,s1,F⟩;obtain⟨wa,wc,rfl⟩:=bX.Dh s1.rd;have c0:=F.own b0 (fun h=>h);simp(disch:=(first|exact aV|fail)) only[go_sem, ↓reduceIte,Zv,ae c0];refine(oA ((hh.fresh f0).fresh F) hN).mono ?_;rintro _ H2 ⟨rfl,C⟩;simp(disch:=(first|exact aV|fail)) only[go_sem, ↓reduceIte,Zv];obtain⟨M,b3,z3⟩:=oz H2 29 cI [i64 A.nx,.int .u32 1];generalize MQ:H2.size=cc at*;generalize (H2.new 29 cI).wr cc [i64 A.nx,.int .u32 1]=H3 at*;have hw:A.wt.length<1000000:=by
  rw[r.wt,aka];have:=List.length_filter_le (fun h:Int×Nat=>decide (h.2<A.mo) && (fH T h.1 0==h.2)) G;omega
 have c3:=(C.trans M).own c0 (fun h=>h);have d1:=(F.trans (C.trans M)).own b1 (fun h=>h);have d2:=(F.trans (C.trans M)).own b2 (fun h=>h);have s3:=s1.ext (C.trans M) (fun _ _ h=>h);have I:=(f0.trans F).trans (C.trans M);have U8:H.size+2<cc:=by have:=aC b2;have:=F.size;have:=C.size;omega
 refine ai.dec (fun iC=>?A) (fun iC=>?B)<;>simp(disch:=(first|exact aV|fail)) only[go_sem, ↓reduceIte,Zv];case' A=>
  obtain⟨x,u⟩:∃x,A.wt.reverse[0]? =some x:=⟨_,ajL (by rw[alh];omega)⟩;obtain⟨b,rfl⟩:∃b,fp=some b:=by
   cases fp with
   |none=>obtain⟨_,h0,_⟩:=s3;omega
   |some b=>exact⟨b,rfl⟩
  have hbc:b<cc:=by
   obtain⟨_,_,_,_,o,_⟩:=s1;have:=aC o;have:=C.size;omega
  rw[<-alh]at s3;obtain⟨_,rfl,lb,o3,o4⟩:=Sl.num s3 u;have f:A.pick=some (x,{A with wt:=A.wt.dropLast}):=by
   unfold Ar.pick;rw[if_pos (by intro e;rw[e]at u;simp at u)];rw[List.getElem?_reverse O]at u;simp only[aku,List.getLast?_eq_getElem?];rw[show A.wt.length - 1=A.wt.length - 1 - 0 by omega,u];rfl
  have kh:0<=x:=(X.wl x (by rw[<-List.mem_reverse];exact ajV u)).2.2;refine cZ.intro (fun J=>J.own H.size=some (eB A j T d n G gc)/\J.own b=some lb) ⟨c3,o3⟩ ?_;simp(disch:=(first|exact aV|fail)) only[go_sem, ↓reduceIte,Zv];refine⟨O,?_⟩;simp(disch:=(first|exact aV|fail)) only[go_sem, ↓reduceIte,Zv];refine bG.intro (i64 x) (fun J t=>?_) ?_
  ·simp(disch:=(first|exact aV|fail)) only[go_sem, ↓reduceIte,Zv,ae t.2];show aE lb[0]? _;rw[o4];exact⟨rfl,rfl⟩
  simp(disch:=(first|exact aV|fail)) only[go_sem, ↓reduceIte,Zv];refine bG.intro (.agg (eB A j T d n G gc).toArray) (fun J t=>?_) ?_
  ·simp(disch:=(first|exact aV|fail)) only[go_sem, ↓reduceIte,Zv,ae t.1];trivial
  simp(disch:=(first|exact aV|fail)) only[go_sem, ↓reduceIte,Zv];refine⟨O,?_⟩;simp(disch:=(first|exact aV|fail)) only[go_sem, ↓reduceIte,Zv];refine bG.intro (i64 x) (fun J t=>?_) ?_
  ·simp(disch:=(first|exact aV|fail)) only[go_sem, ↓reduceIte,Zv,ae t.2];show aE lb[0]? _;rw[o4];exact⟨rfl,rfl⟩
  simp(disch:=(first|exact aV|fail)) only[go_sem, ↓reduceIte,Zv];refine(qE (hh.fresh I) hN kh).mono ?_;rintro _ p ⟨rfl,g⟩;have c4:=g.own c3 (fun h=>h);refine⟨⟨c4,g.own o3 (fun h=>h)⟩,?_⟩;have b4:=g.own b3 (fun h=>h);have YV:=hg x;simp(disch:=(first|exact aV|fail)) only[go_sem, ↓reduceIte,Zv,b4];refine⟨⟨c4,g.own o3 (fun h=>h)⟩,?_⟩;simp(disch:=(first|exact aV|fail)) only[go_sem, ↓reduceIte,Zv];have hwg:IntKind.u32.wrap ((A.bf x:Nat)+1:Int)=((A.bf x+1:Nat):Int):=Cf O O;rw[hwg];have z4:=g.size;have z3':=aC b3;have f5:=(I.trans g).then (bS p cc [i64 x,.int .u32 ((A.bf x+1:Nat):Int)]) (fun z K=>O);have c5:(p.wr cc [i64 x,.int .u32 ((A.bf x+1:Nat):Int)]).own H.size=some (eB A j T d n G gc):=by rw[aG O];exact c4
  have D:(p.wr cc [i64 x,.int .u32 ((A.bf x+1:Nat):Int)]).own (H.size+1)=some xg:=by rw[aG O];exact g.own d1 (fun h=>h)
  have e5:(p.wr cc [i64 x,.int .u32 ((A.bf x+1:Nat):Int)]).own (H.size+2)=some cI:=by rw[aG O];exact g.own d2 (fun h=>h)
  have U:(p.wr cc [i64 x,.int .u32 ((A.bf x+1:Nat):Int)]).own cc=some [i64 x,.int .u32 ((A.bf x+1:Nat):Int)]:=ah b4;generalize p.wr cc [i64 x,.int .u32 ((A.bf x+1:Nat):Int)]=H5 at*;generalize hA':({A with wt:=A.wt.dropLast}:Ar)=A' at f;clear hA'
 case' B=>
  have WM:A.wt=[]:=by
   cases hq:A.wt with
   |nil=>rfl
   |cons a r=>rw[hq]at iC;simp at iC
  refine cZ.intro (fun J=>J.own H.size=some (eB A j T d n G gc)) c3 ?_;simp(disch:=(first|exact aV|fail)) only[go_sem, ↓reduceIte,Zv];refine bG.intro (.agg (eB A j T d n G gc).toArray) (fun J t=>?_) ?_
  ·simp(disch:=(first|exact aV|fail)) only[go_sem, ↓reduceIte,Zv,ae t];trivial
  simp(disch:=(first|exact aV|fail)) only[go_sem, ↓reduceIte,Zv];refine bG.intro (i64 A.g.length) (fun J t=>?_) ?_
  ·simp(disch:=(first|exact aV|fail)) only[go_sem, ↓reduceIte,Zv,ae t];trivial
  simp(disch:=(first|exact aV|fail)) only[go_sem, ↓reduceIte,Zv];refine(oA (hh.fresh I) hN).mono ?_;rintro _ p ⟨rfl,g⟩;have c4:=g.own c3 (fun h=>h);refine⟨c4,?_⟩;simp(disch:=(first|exact aV|fail)) only[go_sem, ↓reduceIte,Zv];have RS:=X.nx;refine ai.dec (fun YZ=>?_) (fun YZ=>?_)<;>simp(disch:=(first|exact aV|fail)) only[go_sem, ↓reduceIte,Zv]
  ·have d4:=g.own d1 (fun h=>h);have D:=g.own d2 (fun h=>h);simp(disch:=(first|exact aV|fail)) only[go_sem, ↓reduceIte,Zv,ae c4,d4,D];have f6:=(I.trans g).then (bS p (H.size+1) (eB A j T d n G gc)) (fun z K=>O);have f7:=f6.then (bS _ (H.size+1+1) cI) (fun z K=>O);have P:(p.wr (H.size+1) (eB A j T d n G gc)).own (H.size+1)=some (eB A j T d n G gc):=ah d4;have e2:((p.wr (H.size+1) (eB A j T d n G gc)).wr (H.size+1+1) cI).own (H.size+1+1)=some cI:=ah (by rw[aG O];exact D);simp(disch:=(first|exact aV|fail)) only[go_sem, ↓reduceIte,Zv,ae P,ae e2];refine⟨f7,?_⟩;have f:A.pick=none:=by
    unfold Ar.pick;rw[if_neg (by rw[WM];simp),if_pos O]
   rw[f];rfl
  obtain⟨x,u⟩:∃x:Int,x=A.nx:=⟨_,rfl⟩;have f:A.pick=some (x,{A with nx:=A.nx+1}):=by
   unfold Ar.pick;rw[if_neg (by rw[WM];simp),if_neg O,u]
  have MR:A.bf x=0:=r.un x O;have f5:=I.trans g;have c5:=c4;have D:=g.own d1 (fun h=>h);have e5:=g.own d2 (fun h=>h);have U:p.own cc=some [i64 x,.int .u32 ((A.bf x+1:Nat):Int)]:=by rw[MR,u];exact g.own b3 (fun h=>h)
  generalize p=H5 at*;generalize hA':({A with nx:=A.nx+1}:Ar)=A' at f;clear hA'
 all_goals
  have U9:=Ar.oQ f X;refine cZ.intro (fun J=>J.own cc=some [i64 x,.int .u32 ((A.bf x+1:Nat):Int)]) U ?_;simp(disch:=(first|exact aV|fail)) only[go_sem, ↓reduceIte,Zv];refine bG.intro (.agg [i64 x,.int .u32 ((A.bf x+1:Nat):Int)].toArray) (fun J t=>?_) ?_
  ·simp(disch:=(first|exact aV|fail)) only[go_sem, ↓reduceIte,Zv,ae t];trivial
  simp(disch:=(first|exact aV|fail)) only[go_sem, ↓reduceIte,Zv];have hT:T.length<=1000000:=O;have aeY:=aC U;repeat' (first|exact U|refine tR.intro ?_ ?_|simp(disch:=(first|exact aV|fail)) only[go_sem, ↓reduceIte,Zv,ae c5])
  all_goals
   refine RU (by first|exact am _ _ _|exact az (by simp only[ag])| (rw[ay (by simp only[ag];omega)];exact am _ _ _)) (h1.fresh (by first|exact f5.new _ _|exact(f5.new _ _).new _ _)) hT fun w1 X1 b1 Oz s1 P=>?_;have z6:=P.size;simp only[ag]at z6 Oz;have fX:=af.then (show af H5 _ by first|exact bD|exact bD.new _ _) P (fun z K=>O);have g6:=fX.own U (fun h=>h);simp(disch:=(first|exact aV|fail)) only[go_sem, ↓reduceIte,Zv,g6];refine RV (h:=(x,A.bf x+1)) (by first|exact s1|exact s1.ext bD (fun _ _ h=>h)) (by first|exact am _ _ _|exact P.own (az (by simp only[ag])) O|exact P.own ((ay (by simp only[ag];omega)).trans (am _ _ _)) O) hT fun w2 L b2 PV s2 e2=>?_;have E:=af.then (show af H5 _ by first|exact fX|exact fX.new _ _) e2 (fun z K=>O);have z7:=e2.size;try simp only[ag]at z7 PV
   obtain⟨m,c,rfl⟩:=bX.Dh s2.rd;have g7:=E.own U (fun h=>h);have c7:=E.own c5 (fun h=>h);simp(disch:=(first|exact aV|fail)) only[go_sem, ↓reduceIte,Zv,g7,c7];have fZ:=(f5.trans E).then (bS L H.size (eB A m (T++[(x,A.bf x+1)]) c n G gc)) (fun z K=>O);have c8:(L.wr H.size (eB A m (T++[(x,A.bf x+1)]) c n G gc)).own H.size=some (eB A m (T++[(x,A.bf x+1)]) c n G gc):=ah c7;have d8:(L.wr H.size (eB A m (T++[(x,A.bf x+1)]) c n G gc)).own (H.size+1)=some xg:=by rw[aG O];exact E.own D (fun h=>h)
   have e8:(L.wr H.size (eB A m (T++[(x,A.bf x+1)]) c n G gc)).own (H.size+1+1)=some cI:=by rw[aG O];exact E.own e5 (fun h=>h)
   have g8:(L.wr H.size (eB A m (T++[(x,A.bf x+1)]) c n G gc)).own cc=some [i64 x,.int .u32 ((A.bf x+1:Nat):Int)]:=by rw[aG O];exact g7
   have s8:=s2.ext (bS L H.size (eB A m (T++[(x,A.bf x+1)]) c n G gc)) (fun b hb h=>Z);generalize L.wr H.size (eB A m (T++[(x,A.bf x+1)]) c n G gc)=V at*;refine cZ.intro (fun J=>J.own H.size=some (eB A m (T++[(x,A.bf x+1)]) c n G gc)/\J.own cc=some [i64 x,.int .u32 ((A.bf x+1:Nat):Int)]) ⟨c8,g8⟩ ?_;simp(disch:=(first|exact aV|fail)) only[go_sem, ↓reduceIte,Zv];refine bG.intro (.agg (eB A m (T++[(x,A.bf x+1)]) c n G gc).toArray) (fun J t=>?_) ?_
   ·simp(disch:=(first|exact aV|fail)) only[go_sem, ↓reduceIte,Zv,ae t.1];trivial
   simp(disch:=(first|exact aV|fail)) only[go_sem, ↓reduceIte,Zv];refine bG.intro (.agg [i64 x,.int .u32 ((A.bf x+1:Nat):Int)].toArray) (fun J t=>?_) ?_
   ·simp(disch:=(first|exact aV|fail)) only[go_sem, ↓reduceIte,Zv,ae t.2];trivial
   simp(disch:=(first|exact aV|fail)) only[go_sem, ↓reduceIte,Zv];have WN:H.size<=b2:=O;have q1:(V.wr (H.size+1) (eB A m (T++[(x,A.bf x+1)]) c n G gc)).own (H.size+1)=some (eB A m (T++[(x,A.bf x+1)]) c n G gc):=ah d8;have q2:((V.wr (H.size+1) (eB A m (T++[(x,A.bf x+1)]) c n G gc)).wr (H.size+1+1) [i64 x,.int .u32 ((A.bf x+1:Nat):Int)]).own (H.size+1+1)=some [i64 x,.int .u32 ((A.bf x+1:Nat):Int)]:=ah (by rw[aG O];exact e8);simp(disch:=(first|exact aV|fail)) only[go_sem, ↓reduceIte,Zv,ae c8,g8,d8,e8,ae q1,ae q2];refine⟨⟨c8,trivial⟩,?_⟩;have fW:=(fZ.then (bS V (H.size+1) (eB A m (T++[(x,A.bf x+1)]) c n G gc)) (fun z K=>O)).then (bS _ (H.size+1+1) [i64 x,.int .u32 ((A.bf x+1:Nat):Int)]) (fun z K=>O);have s9:=(s8.ext (bS V (H.size+1) (eB A m (T++[(x,A.bf x+1)]) c n G gc)) (fun b hb h=>Z)).ext (bS _ (H.size+1+1) [i64 x,.int .u32 ((A.bf x+1:Nat):Int)]) (fun b hb h=>Z);simp(disch:=(first|exact aV|fail)) only[go_sem, ↓reduceIte,Zv,e8];refine⟨⟨c8,by first|trivial|exact g8⟩,?_⟩;simp(disch:=(first|exact aV|fail)) only[go_sem, ↓reduceIte,Zv,ae q1,ae q2];refine⟨fW,?_⟩;rw[f];generalize (V.wr (H.size+1) (eB A m (T++[(x,A.bf x+1)]) c n G gc)).wr (H.size+1+1) [i64 x,.int .u32 ((A.bf x+1:Nat):Int)]=X9 at*;refine⟨_,rfl,m,c,n,gc,?_,s9.rd,h2.fresh fW,fun y hy=>.inr ?_,fun y hy=>.inl (hga y hy),r.pick X f,X.pick f,by rw[ajW];exact Nat.succ_le_succ WK,O⟩
   ·have P:(A'.out x).g.length=A.g.length:=by
     show(A'.g.set _ _).length=_;rw[ajN,U9.2.2.2.2.1]
    show(eB A m (T++[(x,A.bf x+1)]) c n G gc)=_;unfold eB;rw[P,show(A'.out x).mo=A.mo from U9.2.2.2.2.2.2]
   ·obtain⟨_,l9,c9,W,q6,_⟩:=s9;injection W with W _ _;rw[hy]at W;injection W with W;have:=aC q6;rw[W];exact⟨WN,this⟩
theorem BL(h:Ez H l A T G Bs N)(hN:N<=100000)(x:Int)(g:Nat):aF 157 [.agg l.toArray,eU x g] H fun v J=>ak (af H J/\
  if A.yg x g then∃l',v= .tuple [.agg l'.toArray,i64 0].toArray/\Ez J l' (A.back x) T (G++[(x,g)]) (fun b=>Bs b\/(H.size<=b/\b<J.size)) (N+1)
  else v= .tuple [.agg l.toArray,i64 33].toArray):=by
 have hh:=h;obtain⟨z,a,c,gc,rfl,h1,h2,hta,hga,r,KV,WK,WL⟩:=h;refine aT G2 ?_;simp(disch:=(first|exact aV|fail)) only[go_sem, ↓reduceIte,Zv];have I:af H (((H.new 80 (eB A z T a c G gc)).new 29 [i64 x,.int .u32 (g:Int)]).new 80 xg):=(bD.new _ _).new _ _;have b0:(((H.new 80 (eB A z T a c G gc)).new 29 [i64 x,.int .u32 (g:Int)]).new 80 xg).own H.size=some (eB A z T a c G gc):=by rw[ay (by simp only[ag];omega),ay (by simp only[ag];omega),am]
 have K:(((H.new 80 (eB A z T a c G gc)).new 29 [i64 x,.int .u32 (g:Int)]).new 80 xg).own (H.size+1)=some [i64 x,.int .u32 (g:Int)]:=by rw[ay (by simp only[ag];omega)];exact az (by simp only[ag])
 have b2:(((H.new 80 (eB A z T a c G gc)).new 29 [i64 x,.int .u32 (g:Int)]).new 80 xg).own (H.size+1+1)=some xg:=az (by simp only[ag]);generalize (((H.new 80 (eB A z T a c G gc)).new 29 [i64 x,.int .u32 (g:Int)]).new 80 xg)=H0 at*;refine(fv (hh.fresh I) hN x g).mono ?_;rintro _ p ⟨rfl,u⟩;have B:=I.trans u;have c5:=u.own b0 (fun h=>h);have L:=u.own K (fun h=>h);have f:=u.own b2 (fun h=>h);have z5:=aC f;by_cases t:A.yg x g
 ·rw[ajQ t];simp(disch:=(first|exact aV|fail)) only[go_sem, ↓reduceIte,Zv];have D:G.length<=1000000:=O;refine cZ.intro (fun J=>J.own (H.size+1)=some [i64 x,.int .u32 (g:Int)]) L ?_;simp(disch:=(first|exact aV|fail)) only[go_sem, ↓reduceIte,Zv];refine bG.intro (.agg [i64 x,.int .u32 (g:Int)].toArray) (fun J hI=>?_) ?_
  ·simp(disch:=(first|exact aV|fail)) only[go_sem, ↓reduceIte,Zv,ae hI];trivial
  simp(disch:=(first|exact aV|fail)) only[go_sem, ↓reduceIte,Zv];repeat' (first|exact L|refine tR.intro ?_ ?_|simp(disch:=(first|exact aV|fail)) only[go_sem, ↓reduceIte,Zv,ae c5])
  all_goals
   refine RU (by first|exact am _ _ _|exact az (by simp only[ag])| (rw[ay (by simp only[ag];omega)];exact am _ _ _)) (h2.fresh (by first|exact B.new _ _|exact(B.new _ _).new _ _)) D fun w1 X1 K Oz s1 e=>?_;have z6:=e.size;simp only[ag]at z6 Oz;have C:=af.then (show af p _ by first|exact bD|exact bD.new _ _) e O;have g6:=C.own L (fun h=>h);simp(disch:=(first|exact aV|fail)) only[go_sem, ↓reduceIte,Zv,g6];refine RV (h:=(x,g)) (by first|exact s1|exact s1.ext bD (fun _ _ h=>h)) (by first|exact am _ _ _|exact e.own (az (by simp only[ag])) O|exact e.own ((ay (by simp only[ag];omega)).trans (am _ _ _)) O) D fun w2 j b2 PV s2 W=>?_;have P:=af.then (show af p _ by first|exact C|exact C.new _ _) W O;have z7:=W.size;try simp only[ag]at z7 PV
   obtain⟨n,m,rfl⟩:=bX.Dh s2.rd;have g7:=P.own L (fun h=>h);have F:=P.own c5 (fun h=>h);have X:=P.own f (fun h=>h);simp(disch:=(first|exact aV|fail)) only[go_sem, ↓reduceIte,Zv,g7,F];have fZ:=(B.trans P).then (bS j H.size (eB A z T a n (G++[(x,g)]) m)) O;have E:(j.wr H.size (eB A z T a n (G++[(x,g)]) m)).own H.size=some (eB A z T a n (G++[(x,g)]) m):=ah F;have U:(j.wr H.size (eB A z T a n (G++[(x,g)]) m)).own (H.size+1+1)=some xg:=by rw[aG O];exact X
   have s8:=s2.ext (bS j H.size (eB A z T a n (G++[(x,g)]) m)) Z;generalize j.wr H.size (eB A z T a n (G++[(x,g)]) m)=o at*;have WN:H.size<=b2:=O;have q1:(o.wr (H.size+1+1) (eB A z T a n (G++[(x,g)]) m)).own (H.size+1+1)=some (eB A z T a n (G++[(x,g)]) m):=ah U;simp(disch:=(first|exact aV|fail)) only[go_sem, ↓reduceIte,Zv,ae E,U];have V:=fZ.then (bS o (H.size+1+1) (eB A z T a n (G++[(x,g)]) m)) O;have M:=s8.ext (bS o (H.size+1+1) (eB A z T a n (G++[(x,g)]) m)) Z;simp(disch:=(first|exact aV|fail)) only[go_sem, ↓reduceIte,Zv,ae q1];refine⟨V,?_⟩;rw[if_pos t];generalize o.wr (H.size+1+1) (eB A z T a n (G++[(x,g)]) m)=X9 at*;refine⟨_,rfl,z,a,n,m,?_,h1.fresh V,M.rd,Z,fun y hy=>.inr ?_,by rw[<-t.2];exact r.back t.1,KV.back t.1,O,Z⟩
   ·show(eB A z T a n (G++[(x,g)]) m)=_;have e:(A.back x).g.length=A.g.length:=by
     show(A.g.set _ _).length=_;grind
    unfold eB;rw[e];rfl
   ·obtain⟨_,l9,c9,d,q6,_⟩:=M;injection d with d _ _;rw[hy]at d;injection d with d;have:=aC q6;grind
 ·rw[ajO t];simp(disch:=(first|exact aV|fail)) only[go_sem, ↓reduceIte,Zv,ae c5,f];have f6:=B.then (bS p (H.size+1+1) (eB A z T a c G gc)) O;have e:(p.wr (H.size+1+1) (eB A z T a c G gc)).own (H.size+1+1)=some (eB A z T a c G gc):=ah f;simp(disch:=(first|exact aV|fail)) only[go_sem, ↓reduceIte,Zv,ae e];rw[if_neg t];exact⟨f6,rfl⟩
end
end
section
variable{g x:Int}
section
variable {H J H1 H2 : Hp} {s : Nat} {S S1 : Nat → Prop} {w w2 : Nw} {A A2 : Ar} {q q2 : Int}
theorem mc.same(h:lf J s S w A q)(e:aj S H J):mc s S H J w A q:=⟨S,h,e,fun z x=>.inl x⟩
theorem Gf(x:aj S H H1)(e:∀z,S1 z->S z\/H.size<=z)(m:mc s S1 H1 H2 w2 A2 q2):mc s S H H2 w2 A2 q2:=by
 obtain⟨n,c,h,g⟩:=m;have y:=x.size;refine⟨n,c,⟨akc x.size h.size,fun z a v=>?_⟩,fun z a=>?_⟩
 ·rw[h.be z O Z,x.be z a v]
 grind
theorem mf(l:Cg w A)(h:w.first g x):A.live x:=by
 cases l;grind [bi,bg]
theorem Fg(h:lf H s S w A q)(hg:w.has g):aF 162 [ptr s,i64 g] H fun v J=>ak (
  (w.len g=0/\v= .tuple [eU 0 0,i64 172].toArray/\mc s S H J w A q)\/(∃x,w.first g x/\v= .tuple [eU x (A.bf x),i64 0].toArray/\mc s S H J w A q)):=by
 have wO:=h.slt;obtain⟨t,vv,I,Sn,B,k,d,n,hi,m,V,d1,d2,hS,W⟩:=h;refine aT nT ?_;refine vs ?_;have o:af H (H.new 29 cI):=bD;have b0:(H.new 29 cI).own H.size=some cI:=am _ _ _;have z0:(H.new 29 cI).size=H.size+1:=ag _ _ _;generalize H.new 29 cI=H0 at*;have M:=m.ext o (fun _ _ h=>h);have U:=n.ext hi o (fun _ _ h=>h);have u:=o.own V (fun h=>h);have Qz:∀z,H.size<=z->¬Sn z:=Z;have S8:∀z,B.S z->z<H.size:=m.slt;have hos:=aC V;refine v1 (ae u) ?_;refine(n.has g U).mono ?_;rintro _ _ ⟨rfl,rfl⟩;rw[ajQ hg];refine v1 (ae u) ?_;refine(n.min g U).mono ?_;have fin:∀ (H1 H2:Hp) (c:Nat->Prop),I H1 c w->aj Sn H0 H1->(∀z,c z->Sn z\/H0.size<=z)->aj (fun z=>z=H.size\/H1.size<=z) H1 H2->mc s S H H2 w A q:=fun H1 H2 c y a f j=>by
  have PU:=a.size;have JO:=j.size;refine⟨fun z=>c z\/B.S z\/z=s,⟨t,vv,I,c,B,k,d,n,n.ext y j (fun z r e=>?_),(M.ext a Z).ext j (fun z r e=>?_),j.own (a.own u Z) (fun e=>O),fun z r=>?_,d2,fun z=>Iff.rfl,W⟩,?_,fun z r=>?_⟩
  ·rcases e with e|e
   ·grind
   ·have:=n.slt y z r;omega
  ·grind
  ·grind
  ·have h1:aj S H H1:=(o.mono fun _ _ h=>h.elim).trans (a.mono Z);exact⟨O,fun z r hn=>by rw[j.be z O O,h1.be z r hn]⟩
  grind
 rintro _ H1 (⟨h0,rfl,c,y,a,f⟩| ⟨x,D,rfl,c,y,a,f⟩)
 ·have p:=a.own b0 Z;refine v1 p ?_;obtain⟨L,P⟩:=Jg p cI;refine v1 (ae P) ?_;exact .inl ⟨h0,rfl,fin H1 _ c y a f (L.mono fun z _ h=>.inl h)⟩
 ·have p:=a.own b0 Z;have o1:=a.own u Z;have m1:=M.ext a Z;refine v1 (ae o1) ?_;refine(Fe m1 (mf W D)).mono ?_;rintro _ H2 ⟨rfl,K⟩;have E:=K.own p (fun h=>h);refine vs ?_;obtain⟨F,X,z3⟩:=oz H2 29 cI [i64 x,Value.int .u32 ((A.bf x:Nat):Int)];generalize (H2.new 29 cI).wr H2.size [i64 x,Value.int .u32 ((A.bf x:Nat):Int)]=H3 at*;have C:=F.own E (fun h=>h);refine v2 (ae X) C ?_;obtain⟨L,P⟩:=Jg C [i64 x,Value.int .u32 ((A.bf x:Nat):Int)];refine v1 (ae P) ?_;exact .inr ⟨x,D,rfl,fin H1 _ c y a f (((K.trans F).mono fun _ _ h=>h.elim).trans (L.mono fun z _ h=>.inl h))⟩
theorem jJ(h:lf H s S w A q)(hx:A.live x):aF 163 [ptr s,eU x (A.bf x)] H fun v J=>ak (∃y,w.cs[x.toNat]? =some y/\v= .tuple [mE y.2.1 y.2.2,i64 0].toArray/\mc s S H J w A q):=by
 have wO:=h.slt;obtain⟨t,M,I,Sn,B,k,d,n,hi,m,ho,d1,d2,hS,Np⟩:=h;refine uS nU ⟨rfl,?_⟩;refine v1 jv.eq_1 ?_;have L:af H ((H.new 29 [i64 x,.int .u32 (A.bf x:Int)]).new 190 mB):=bD.new _ _;have b0:((H.new 29 [i64 x,.int .u32 (A.bf x:Int)]).new 190 mB).own H.size=some [i64 x,.int .u32 (A.bf x:Int)]:=by
  rw[ay (by simp only[ag];omega),am]
 have c0:((H.new 29 [i64 x,.int .u32 (A.bf x:Int)]).new 190 mB).own (H.size+1)=some mB:=az (by simp only[ag]);have z0:((H.new 29 [i64 x,.int .u32 (A.bf x:Int)]).new 190 mB).size=H.size+1+1:=by simp only[ag]
 generalize (H.new 29 [i64 x,.int .u32 (A.bf x:Int)]).new 190 mB=H0 at*;have m0:=m.ext L (fun _ _ h=>h);have MH:=n.ext hi L (fun _ _ h=>h);have o0:=L.own ho (fun h=>h);have Qz:∀z,H.size<=z->¬Sn z:=Z;have S8:∀z,B.S z->z<H.size:=m.slt;have hos:=aC ho;refine v2 (ae o0) (ae b0) ?_;refine(gU m0 x (A.bf x)).mono ?_;rintro _ H1 ⟨rfl,g⟩;rw[ajQ ⟨hx,rfl⟩];have m1:=m0.ext g (fun _ _ h=>h);have WC:=n.ext MH g (fun _ _ h=>h);have f:=g.own o0 (fun h=>h);have u:=g.own b0 (fun h=>h);have X:=g.own c0 (fun h=>h);have z1:=g.size;have mA:cz w.cs x:=(Np.live x).2 hx;have fin:∀H2,I H2 Sn w->aj (fun z=>z=H.size+1\/H1.size<=z) H1 H2->mc s S H H2 w A q:=fun H2 o P=>by
  have h1:aj S H H1:=(L.trans g).mono fun _ _ h=>h.elim;refine⟨S,⟨t,M,I,Sn,B,k,d,n,o,m1.ext P Z,P.own f (fun e=>O),d1,d2,hS,Np⟩,⟨akc h1.size P.size,fun z D hn=>by rw[P.be z O O,h1.be z D hn]⟩,fun z D=>.inl D⟩
 refine vs ?_;refine cZ.intro (fun J=>J.own s=some [i64 k,i64 d,ptr B.a,.iface t M,u64 q]/\J.own H.size=some [i64 x,.int .u32 (A.bf x:Int)]) ⟨f,u⟩ ?_;refine vs ?_;refine bG.intro (.iface t M) (fun J U=>by refine v1 (ae U.1) ?_;trivial) ?_;refine vs ?_;refine bG.intro (i64 x) (fun J U=>by refine v1 (ae U.2) ?_;trivial) ?_;refine vs ?_;refine tR.intro ?_ ?_
 ·refine vs ?_;refine(n.entry x WC).mono ?_;rintro _ H2 ⟨o,a,⟨W,_⟩| ⟨_,y,V,rfl⟩⟩
  ·exact absurd mA W
  have r:=a.own f (fun h=>h);have c:=a.own u (fun h=>h);have K:=a.own X (fun h=>h);have z2:=a.size;refine And.intro ⟨r,c⟩ ?_;refine vs ?_;refine And.intro ⟨r,c⟩ ?_;refine vs ?_;refine And.intro ⟨r,c⟩ ?_;refine vs ?_;obtain⟨F,b3,z3⟩:=oz H2 190 mB [i64 y.2.1,u64 y.2.2];generalize (H2.new 190 mB).wr H2.size [i64 y.2.1,u64 y.2.2]=H3 at*;have c3:=F.own K (fun h=>h);refine v2 (ae b3) c3 ?_;obtain⟨e4,C⟩:=Jg c3 [i64 y.2.1,u64 y.2.2];refine v1 (ae C) ?_;exact⟨y,V,rfl,fin _ (n.ext (n.ext o F (fun _ _ h=>h)) e4 Z) (((a.trans F).mono fun _ _ h=>h.elim).trans (e4.mono fun z _ h=>.inl h))⟩
 ·refine vs ?_;refine And.intro ⟨f,u⟩ ?_;have p:af H1 (H1.new 190 mB):=bD;have C:(H1.new 190 mB).own H1.size=some mB:=am _ _ _;have z4:(H1.new 190 mB).size=H1.size+1:=ag _ _ _;generalize H1.new 190 mB=H4 at*;refine vs ?_;refine(n.entry x (n.ext WC p (fun _ _ h=>h))).mono ?_;rintro _ H2 ⟨o,a,⟨W,_⟩| ⟨_,y,V,rfl⟩⟩
  ·exact absurd mA W
  have r:=a.own (p.own f (fun h=>h)) (fun h=>h);have c:=a.own (p.own u (fun h=>h)) (fun h=>h);have K:=a.own (p.own X (fun h=>h)) (fun h=>h);have E:=a.own C (fun h=>h);have z2:=a.size;refine And.intro ⟨r,c⟩ ?_;refine v1 E ?_;obtain⟨j,b6⟩:=Jg E [i64 y.2.1,u64 y.2.2];have o6:=j.own r (fun e=>O);have b26:=j.own c (fun e=>O);have c6:=j.own K (fun e=>O);have hn6:=n.ext o j Z;have e26:aj (fun z=>z=H.size+1\/H1.size<=z) H1 (H2.wr H1.size [i64 y.2.1,u64 y.2.2]):=((p.trans a).mono fun _ _ h=>h.elim).trans (j.mono O);generalize H2.wr H1.size [i64 y.2.1,u64 y.2.2]=H6 at*;first
   |refine And.intro ⟨o6,b26⟩ ?_
   |refine And.intro ⟨r,c⟩ ?_
  refine v2 (ae b6) c6 ?_;obtain⟨e7,b7⟩:=Jg c6 [i64 y.2.1,u64 y.2.2];refine v1 (ae b7) ?_;exact⟨y,V,rfl,fin _ (n.ext hn6 e7 Z) (e26.trans (e7.mono fun z _ h=>.inl h))⟩
end
end
section
variable{g:Int}{b:Nat}
section
variable {H J H1 H2 : Hp} {s : Nat} {S S1 : Nat → Prop} {w w2 : Nw} {A A2 : Ar} {q q2 : Int}
theorem lf.tmp{l:List Value}(h:lf H1 s S1 w A q)(z:¬S1 b):lf (H1.wr b l) s S1 w A q:=h.ext ((aj.refl (fun x=>x=b) _).wr (fun _=>rfl) _:aj (fun x=>x=b) H1 _) Z
theorem iT(h:lf H2 s S1 w A q)(e:aj S H H2)(x:∀z,S1 z->S z\/H.size<=z):mc s S H H2 w A q:=⟨S1,h,e,x⟩
theorem tK{l:List Value}(e:aj S H H1)(m:H.size<=b):aj S H (H1.wr b l):=by
 have h:aj (fun x=>x=b) H1 (H1.wr b l):=(aj.refl (fun x=>x=b) _).wr (fun _=>rfl) _;exact⟨akc e.size h.size,fun z a n=>by rw[h.be z (aj0 a e.size) O,e.be z a n]⟩
theorem AY(h:lf H s S w A q)(hg:w.has g):aF 129 [ptr s,i64 g] H fun v J=>ak (
  (w.len g=0/\v= .tuple [eU 0 0,i64 0,i64 172].toArray/\mc s S H J w A q)\/(∃x y,w.first g x/\w.cs[x.toNat]? =some y/\v= .tuple [eU x (A.bf x),i64 y.2.1,i64 0].toArray/\mc s S H J w A q)):=by
 have wO:=h.slt;have Np:=h.No.1;refine aT rV ?_;refine vs ?_;have P:af H (H.new 29 cI):=bD;have b0:(H.new 29 cI).own H.size=some cI:=am _ _ _;have z0:(H.new 29 cI).size=H.size+1:=ag _ _ _;generalize H.new 29 cI=H0 at*;have h0:=h.ext P (fun _ _ h=>h);have hSn:∀z,H.size<=z->¬S z:=Z;refine(Fg h0 hg).mono ?_;rintro _ H1 (⟨YR,rfl,S1,j,a,Nq⟩| ⟨x,F,rfl,S1,j,a,Nq⟩)
 ·have p:=a.own b0 Z;have PU:=a.size;refine vs ?_;obtain⟨n,o,z2⟩:=oz H1 29 cI [i64 0,Value.int .u32 ((0:Nat):Int)];generalize (H1.new 29 cI).wr H1.size [i64 0,Value.int .u32 ((0:Nat):Int)]=H2 at*;have m:=n.own p (fun h=>h);refine ai.dec (fun K=>O) (fun _=>?_);refine v1 m ?_;obtain⟨e4,f⟩:=Jg m cI;have u:aj S H H2:=((P.mono fun _ _ h=>h.elim).trans a).trans (n.mono fun _ _ h=>h.elim);have d:¬S1 H.size:=Z;have L:=((j.ext n (fun _ _ h=>h)).tmp d (l:=cI));have B:=tK (l:=cI) u (ajU H.size);refine v1 (ae f) ?_;exact .inl ⟨YR,rfl,iT L B Z⟩
 ·have p:=a.own b0 Z;have PU:=a.size;have LQ:=mf Np F;refine vs ?_;obtain⟨n,o,z2⟩:=oz H1 29 cI [i64 x,Value.int .u32 ((A.bf x:Nat):Int)];generalize (H1.new 29 cI).wr H1.size [i64 x,Value.int .u32 ((A.bf x:Nat):Int)]=H2 at*;have m:=n.own p (fun h=>h);have h2:=j.ext n (fun _ _ h=>h);refine ai.dec (fun _=>?_) (fun K=>absurd trivial K);refine v1 (ae o) ?_;have WO:=j.slt;refine(jJ h2 LQ).mono ?_;rintro _ H3 ⟨y,hy,rfl,W,L,t,PS⟩;have d:¬S1 H.size:=Z;have hn2:¬S1 H1.size:=Z;have f:=t.own m d;have c4:=t.own o hn2;have SN:=t.size;refine vs ?_;obtain⟨r,c,z5⟩:=oz H3 190 mB [i64 y.2.1,u64 y.2.2];generalize (H3.new 190 mB).wr H3.size [i64 y.2.1,u64 y.2.2]=H5 at*;have C:=r.own f (fun h=>h);have D:=r.own c4 (fun h=>h);have h5:=L.ext r (fun _ _ h=>h);have hn3:∀b,¬S1 b->b<H2.size->¬W b:=Z;have B:aj S H H5:=by
   have u:aj S H H2:=((P.mono fun _ _ h=>h.elim).trans a).trans (n.mono fun _ _ h=>h.elim);have M:aj S H H3:=⟨O,fun z U hn=>by rw[t.be z O Z,u.be z U hn]⟩;exact M.trans (r.mono fun _ _ h=>h.elim)
  refine cZ.intro (fun J=>J.own H3.size=some [i64 y.2.1,u64 y.2.2]) c ?_;refine vs ?_;refine bG.intro (i64 y.2.1) (fun J hI=>by refine v1 (ae hI) ?_;trivial) ?_;refine v1 (ae D) ?_;refine And.intro c ?_;refine v1 C ?_;obtain⟨E,V⟩:=Jg C [i64 x,Value.int .u32 ((A.bf x:Nat):Int)];have I:=E.own c (fun e=>O);first
   |refine And.intro I ?_
   |refine And.intro c ?_
  have h7:=h5.tmp (hn3 _ d O) (l:=[i64 x,Value.int .u32 ((A.bf x:Nat):Int)]);have X:=tK (l:=[i64 x,Value.int .u32 ((A.bf x:Nat):Int)]) B (ajU H.size);refine v1 (ae V) ?_;refine .inr ⟨x,y,F,hy,rfl,iT h7 X (fun z U=>?_)⟩;grind
theorem MS{x z:Int}(h:w.first g x)(a:w.first g z):z=x:=by
 obtain⟨_,v,n⟩:=bi.1 h;obtain⟨_,m,e⟩:=bi.1 a;apply aj3;intro c;have:=(au w).vH (n z m c);grind
theorem wP(h:lf H s S w A q)(hg:w.has g):aF 130 [ptr s,i64 g] H fun v J=>ak (
  (w.len g=0/\v= .tuple [eU 0 0,i64 0,i64 172].toArray/\mc s S H J w A q)\/(∃x y,w.first g x/\w.cs[x.toNat]? =some y/\v= .tuple [eU x (A.bf x),i64 y.2.1,i64 0].toArray/\mc s S H J (w.put x (0,0,0)) (A.back x) q)):=by
 have wO:=h.slt;have Np:=h.No.1;refine aT jf ?_;refine vs ?_;have F:af H (H.new 29 cI):=bD;have b0:(H.new 29 cI).own H.size=some cI:=am _ _ _;have z0:(H.new 29 cI).size=H.size+1:=ag _ _ _;generalize H.new 29 cI=H0 at*;have h0:=h.ext F (fun _ _ h=>h);have hSn:∀z,H.size<=z->¬S z:=Z;refine(AY h0 hg).mono ?_;rintro _ H1 (⟨X,rfl,S1,P,e,Nq⟩| ⟨x,y,W,hy,rfl,S1,P,e,Nq⟩)
 ·have L:=e.own b0 Z;have PU:=e.size;refine vs ?_;obtain⟨a,V,z2⟩:=oz H1 29 cI [i64 0,Value.int .u32 ((0:Nat):Int)];generalize (H1.new 29 cI).wr H1.size [i64 0,Value.int .u32 ((0:Nat):Int)]=H2 at*;have f:=a.own L (fun h=>h);refine ai.dec (fun M=>O) (fun _=>?_);refine v1 f ?_;obtain⟨r,C⟩:=Jg f cI;have K:aj S H H2:=((F.mono fun _ _ h=>h.elim).trans e).trans (a.mono fun _ _ h=>h.elim);have RW:¬S1 H.size:=Z;have h3:=((P.ext a (fun _ _ h=>h)).tmp RW (l:=cI));have e5:=tK (l:=cI) K (ajU H.size);refine v1 (ae C) ?_;exact .inl ⟨X,rfl,iT h3 e5 Z⟩
 ·have L:=e.own b0 Z;have PU:=e.size;have LQ:=mf Np W;refine vs ?_;obtain⟨a,V,z2⟩:=oz H1 29 cI [i64 x,Value.int .u32 ((A.bf x:Nat):Int)];generalize (H1.new 29 cI).wr H1.size [i64 x,Value.int .u32 ((A.bf x:Nat):Int)]=H2 at*;have f:=a.own L (fun h=>h);have WO:=P.slt;have h2:=P.ext a (fun _ _ h=>h);have RW:¬S1 H.size:=Z;have hn2:¬S1 H1.size:=Z;obtain⟨t,vv,I,Sn,B,k,d,n,hi,m,U,d1,d2,hS,_⟩:=h2;refine ai.dec (fun _=>?_) (fun M=>absurd trivial M);refine v1 (ae U) ?_;refine(n.extract g hi).mono ?_;have S8:∀z,B.S z->z<H2.size:=m.slt;have hos:=aC U;rintro _ H3 (⟨X,_⟩| ⟨c,Ta,rfl,o,E,j,PS⟩)
  ·exfalso;grind [bi,ou]
  obtain rfl:=MS W Ta;have Y0:=j.own U Z;have C:=j.own f Z;have c4:=j.own V Z;have m3:=m.ext j Z;have SN:=j.size;refine v2 (ae Y0) (ae c4) ?_;refine(qC m3 LQ).mono ?_;rintro _ H4 ⟨rfl,u,m4,r,WP⟩;have nB1:¬B.S H.size:=Z;have nB2:¬B.S H1.size:=Z;have D:=r.own C nB1;have c5:=r.own c4 nB2;have ho4:=r.own Y0 d2;have YY:=r.size;refine v2 (ae c5) D ?_;obtain⟨e6,b6⟩:=Jg D [i64 c,Value.int .u32 ((A.bf c:Nat):Int)];refine v1 (ae b6) ?_;have aau:∀z,o z->Sn z\/H2.size<=z:=PS;have hB':∀z,(MN.mk B.a B.sb u).S z->B.S z\/H3.size<=z:=fun z p=>by
   rcases p with h|h|h
   ·exact .inl (.inl h)
   ·exact .inl (.inr (.inl h))
   ·exact(WP z h).imp_left fun h=>.inr (.inr h)
  have hiT:I H4 o (w.put c (0,0,0)):=n.ext E r Z;have ae6:=fun z p=>n.slt E z p;have nn1:∀b,¬S1 b->b<H2.size->¬o b/\¬ (MN.mk B.a B.sb u).S b:=Z;have ae7:H.size≠s:=Z;have JQ:=Ar.kW LQ;have RX:lf H4 s (fun z=>o z\/(MN.mk B.a B.sb u).S z\/z=s) (w.put c (0,0,0)) (A.back c) q:=by
   refine⟨t,vv,I,o,⟨B.a,B.sb,u⟩,k,d,n,hiT,m4,ho4,fun z p=>?_,fun h=>?_,fun z=>Iff.rfl,Np.put JQ rfl⟩
   ·grind
   ·grind
  have aaB:=RX.tmp (b:=H.size) (l:=[i64 c,Value.int .u32 ((A.bf c:Nat):Int)]) Z;have e04:aj S H H4:=by
   have K:aj S H H2:=((F.mono fun _ _ h=>h.elim).trans e).trans (a.mono fun _ _ h=>h.elim);exact⟨O,fun z p hn=>by
    cases j;cases r;cases K;grind⟩
  have JO:=a.size;refine .inr ⟨c,y,W,hy,rfl,iT aaB (tK e04 (ajU _)) (fun z p=>?_)⟩;grind
end
end
section
variable {H : Hp} {s : Nat} {S : Nat → Prop} {w : Nw} {A : Ar} {q : Int}
theorem Cg.key(l:Cg w A){x k s:Int}{y:Ce}(n:A.live x)(m:w.cs[x.toNat]? =some y):Cg (w.put x (y.1,k,s)) A:=by
 have a:=(l.live x).2 n;have g:=a.1;have r:=(ajK.1 m).1;have v:0<=x/\x<w.cs.length:=O;refine⟨by simp[Nw.put,l.len],fun z=>?_⟩;rw[<-l.live z,<-bg,<-bg,dW v];by_cases e:z=x
 ·rw[if_pos e,e];obtain⟨_,c,h,j⟩:=a;rw[m]at h;injection h with h;subst h;have t:=bg.2 ((l.live x).2 n);omega
 omega
theorem uI(h:lf H s S w A q){x:Int}(o:A.live x)(key:Int):aF 131 [ptr s,eU x (A.bf x),i64 key] H fun v J=>ak (
  ∃y,w.cs[x.toNat]? =some y/\((y.2.1<key/\v=i64 173/\mc s S H J w A q)\/(key<=y.2.1/\v=i64 0/\mc s S H J (w.put x (y.1,key,y.2.2)) A q))):=by
 have wO:=h.slt;refine aT iI ?_;refine vs ?_;have P:af H (H.new 29 [i64 x,.int .u32 (A.bf x:Int)]):=bD;have b0:(H.new 29 [i64 x,.int .u32 (A.bf x:Int)]).own H.size=some [i64 x,.int .u32 (A.bf x:Int)]:=am _ _ _;have z0:(H.new 29 [i64 x,.int .u32 (A.bf x:Int)]).size=H.size+1:=ag _ _ _;generalize H.new 29 [i64 x,.int .u32 (A.bf x:Int)]=H0 at*;have D:=h.ext P (fun _ _ h=>h);refine v1 (ae b0) ?_;refine(jJ D o).mono ?_;rintro _ H1 ⟨y,c,rfl,S1,M,g,Nq⟩;have hS1:∀z,S1 z->z≠H.size:=Z;have F:=g.own b0 Z;refine vs ?_;obtain⟨j,u,z2⟩:=oz H1 190 [i64 0,u64 0] [i64 y.2.1,u64 y.2.2];have PU:=g.size;generalize MQ:H1.size=W at*;generalize (H1.new 190 [i64 0,u64 0]).wr W [i64 y.2.1,u64 y.2.2]=H2 at*;have L:=M.ext j (fun _ _ h=>h);have U:=j.own F (fun h=>h);have r:aj S H H2:=(P.mono fun _ _ h=>h.elim).trans (g.trans (j.mono fun _ _ h=>h.elim));have hsS:∀z,S1 z->S z\/H.size<=z:=Z;refine v2 ajZ (ae u) ?_;refine ai.dec (fun X=>?_) (fun X=>?_)<;>refine v1 ajZ ?_
 ·exact⟨y,c,.inl ⟨O,rfl,S1,L,r,hsS⟩⟩
 obtain⟨t,vv,I,Sn,B,k,d,n,hi,m,p,d1,V,hS,C⟩:=L;refine v3 (ae p) (ae U) (ae u) ?_;refine(n.j9 x key y.2.2 hi).mono ?_;rintro _ H3 (⟨mT,_⟩| ⟨_,rfl,y',a,f,E,e,PS⟩)
 ·refine absurd ⟨(C.live x).2 o,fun y' a=>?_⟩ mT;rw[c]at a;injection a with a;subst a;unfold ef;omega
 rw[c]at a;injection a with a;subst a;refine vs ?_;have hBl:=m.slt;have JO:=r.size;have SN:=e.size;have hos:=aC p;refine⟨y,c,.inr ⟨O,rfl,fun z=>f z\/B.S z\/z=s,⟨t,vv,I,f,B,k,d,n,E,m.ext e Z,e.own p Z,fun z K=>?_,V,fun z=>Iff.rfl,C.key o c⟩,?_,fun z K=>?_⟩⟩
 ·grind
 ·refine⟨O,fun z K hn=>?_⟩;cases r;cases e;grind
 grind
end
section
variable{x g k d:Int}{b:Nat}
section
variable {H J H0 : Hp} {s : Nat} {S Sn : Nat → Prop} {w w' : Nw} {A : Ar} {q : Int}
theorem Jh{t:TypeId}{h:Value}{I:Hp->(Nat->Prop)->Nw->Prop}{B:MN}(n:qD (.iface t h) I)(m:Ey H B A)(c:H.own s=some [i64 k,i64 d,ptr B.a,.iface t h,u64 q])(r:∀z,Sn z->¬B.S z/\z≠s)(v:¬B.S s)(j:∀z,S z↔Sn z\/B.S z\/z=s)
  (g:br I Sn H J w')(e:Cg w' A):mc s S H J w' A q:=by
 obtain⟨a,hi',x,o⟩:=g;have f:=m.slt;have p:=aC c;refine⟨fun z=>a z\/B.S z\/z=s,⟨t,h,I,a,B,k,d,n,hi',m.ext x Z,x.own c Z,fun z y=>?_,v,fun z=>Iff.rfl,e⟩,x.mono Z,fun z y=>?_⟩
 ·grind
 grind
theorem Cg.join(l:Cg w A){a b:Int}(h:w.has a)(z:w.has b):Cg (w.join a b) A:=
 ⟨by simp[Nw.join,l.len],fun x=>by rw[Dp w (by have:=h.1;omega) (by have:=z.1;omega)];exact l.live x⟩
theorem Cg.nG(l:Cg w A)(a:A.live x):∃y,w.cs[x.toNat]? =some y/\y.1=aH w x/\y.2.1=w.key x/\y.2.2=w.seq x:=by
 obtain⟨z,y,h,_⟩:=(l.live x).2 a;refine⟨y,h,(iO z h).symm,?_,?_⟩<;>simp[Nw.key,Nw.seq,ajR,h]
theorem Ji(h:lf H s S w A q)(g:Int):aF 135 [ptr s,i64 g] H fun v J=>ak (v=(if w.has g then .tuple [i64 (w.len g),i64 0].toArray else .tuple [i64 0,i64 171].toArray)/\mc s S H J w A q):=by
 have a:=mc.same h (aj.refl S H);obtain⟨t,j,I,Sn,B,k,d,n,hi,m,z,c,e,y,r⟩:=h;refine aT CW ?_;refine v1 (ae z) ?_;refine(n.has g hi).mono ?_;rintro _ _ ⟨rfl,rfl⟩;by_cases x:w.has g
 ·rw[ajQ x,if_pos x];refine v1 (ae z) ?_;refine(n.len g hi).mono ?_;rintro _ _ ⟨rfl,rfl⟩;refine vs ?_;exact⟨rfl,a⟩
 ·rw[ajO x,if_neg x];refine vs ?_;exact⟨rfl,a⟩
theorem Hh(h:lf H s S w A q)(a b:Int):aF 134 [ptr s,i64 a,i64 b] H fun v J=>ak (
  v=i64 (if¬ (w.has a/\w.has b)then 171 else if a=b then 174 else 0)/\mc s S H J (if w.has a/\w.has b/\a≠b then w.join a b else w) A q):=by
 have g:=mc.same h (aj.refl S H);obtain⟨t,u,I,Sn,B,k,d,n,hi,m,e,y,r,j,p⟩:=h;refine aT Be ?_;refine v1 (ae e) ?_;refine(n.has a hi).mono ?_;rintro _ _ ⟨rfl,rfl⟩;by_cases x:w.has a
 ·rw[ajQ x];refine v1 (ae e) ?_;refine(n.has b hi).mono ?_;rintro _ _ ⟨rfl,rfl⟩;by_cases z:w.has b
  ·rw[ajQ z,if_neg Z];refine vs ?_;refine ai.dec (fun c=>?_) (fun c=>?_)<;>refine v1 (ae e) ?_
   ·rw[if_pos c,if_neg O];exact⟨rfl,g⟩
   ·refine(n.vI a b hi).mono ?_;rintro _ H1 (⟨f,_⟩| ⟨_,rfl,o⟩)
    ·exact absurd ⟨x,z,c⟩ f
    refine vs ?_;rw[if_neg c,if_pos ⟨x,z,c⟩];exact⟨rfl,Jh n m e y r j o (p.join x z)⟩
  ·rw[ajO z,if_pos (fun h=>z h.2),if_neg (fun h=>z h.2.1)];refine vs ?_;exact⟨rfl,g⟩
 ·rw[ajO x,if_pos (fun h=>x h.1),if_neg (fun h=>x h.1)];refine vs ?_;exact⟨rfl,g⟩
theorem tL(h:lf H s S w A q)(f:af H J):mc s S H J w A q:=mc.same (h.ext f (fun _ _ h=>h)) (f.mono fun _ _ h=>h.elim)
theorem wQ(f:af H H0)(h:mc s S H0 J w A q):mc s S H J w A q:=Gf (f.mono fun _ _ h=>h.elim) (fun z h=>.inl h) h
theorem aJ{l:List Value}(h:mc s S H J w A q)(x:H.own b=some l)(z:¬S b):J.own b=some l:=by
 obtain⟨a,n,e,m⟩:=h;exact e.own x z
theorem Dx{l:List Value}(h:mc s S H0 J w A q)(t:¬S b)(r:b<H0.size)(n:H.size<=b)(f:af H H0):mc s S H (J.wr b l) w A q:=by
 obtain⟨m,e,x,g⟩:=wQ f h;obtain⟨c,a,v,y⟩:=h;have z:=f.size;exact iT (a.tmp Z) (tK x n) Z
theorem sQ(h:lf H s S w A q){g:Nat}(p:¬A.yg x g):aF 163 [ptr s,eU x g] H fun v J=>ak (v= .tuple [mE 0 0,i64 33].toArray/\mc s S H J w A q):=by
 have F:=h.slt;have r:=h;obtain⟨t,U,I,Sn,B,k,d,n,hi,m,j,u,P,C,K⟩:=h;refine uS nU ⟨rfl,?_⟩;refine v1 jv.eq_1 ?_;have z:af H ((H.new 29 [i64 x,.int .u32 (g:Int)]).new 190 mB):=bD.new _ _;have b0:((H.new 29 [i64 x,.int .u32 (g:Int)]).new 190 mB).own H.size=some [i64 x,.int .u32 (g:Int)]:=by
  rw[ay (by simp only[ag];omega),am]
 have a:((H.new 29 [i64 x,.int .u32 (g:Int)]).new 190 mB).own (H.size+1)=some mB:=az (by simp only[ag]);generalize (H.new 29 [i64 x,.int .u32 (g:Int)]).new 190 mB=H0 at*;have o:=m.ext z (fun _ _ h=>h);have f:=z.own j (fun h=>h);refine v2 (ae f) (ae b0) ?_;refine(gU o x g).mono ?_;rintro _ H1 ⟨rfl,e⟩;rw[ajO (show¬ (A.live x/\A.bf x=g)from p)];have c:=e.own a (fun h=>h);refine v1 c ?_;obtain⟨L,y⟩:=Jg c [i64 0,u64 0];refine v1 (ae y) ?_;exact⟨rfl,Dx (tL (r.ext z (fun _ _ h=>h)) e) Z (aC a) O z⟩
theorem Hi(h:lf H s S w A q)(x:Int)(g:Nat):aF 137 [ptr s,eU x g] H fun v J=>ak (v=(if A.yg x g then .tuple [i64 (aH w x),i64 0].toArray else .tuple [i64 0,i64 33].toArray)/\mc s S H J w A q):=by
 have u:=h;obtain⟨t,U,I,Sn,B,k,d,n,hi,m,K,o,f,P,y⟩:=h;refine aT Bf ?_;refine vs ?_;have c:af H (H.new 29 [i64 x,.int .u32 (g:Int)]):=bD;have b0:(H.new 29 [i64 x,.int .u32 (g:Int)]).own H.size=some [i64 x,.int .u32 (g:Int)]:=am _ _ _;generalize H.new 29 [i64 x,.int .u32 (g:Int)]=H0 at*;have F:=m.ext c (fun _ _ h=>h);have r:=c.own K (fun h=>h);refine v2 (ae r) (ae b0) ?_;refine(gU F x g).mono ?_;rintro _ H1 ⟨rfl,e⟩;have a:=c.trans e;by_cases z:A.yg x g
 ·rw[ajQ (show A.live x/\A.bf x=g from z),if_pos z];have j:=e.own r (fun h=>h);have p:=e.own b0 (fun h=>h);refine v2 (ae j) (ae p) ?_;refine(n.home x (n.ext hi a (fun _ _ h=>h))).mono ?_;rintro _ H2 (⟨C,_⟩| ⟨_,rfl,L⟩)
  ·exact absurd ((y.live x).2 z.1) C
  refine vs ?_;exact⟨rfl,wQ a (Jh n (m.ext a (fun _ _ h=>h)) j o f P L y)⟩
 ·rw[ajO (show¬ (A.live x/\A.bf x=g)from z),if_neg z];refine vs ?_;exact⟨rfl,tL u a⟩
theorem Jj(h:lf H s S w A q)(x:Int)(g:Nat):aF 136 [ptr s,eU x g] H fun v J=>ak (v=(if A.yg x g then .tuple [i64 (w.key x),i64 0].toArray else .tuple [i64 0,i64 33].toArray)/\mc s S H J w A q):=by
 have B:=h.slt;have o:=h.No.1;refine aT CX ?_;refine vs ?_;have t:af H (H.new 29 [i64 x,.int .u32 (g:Int)]):=bD;have b0:(H.new 29 [i64 x,.int .u32 (g:Int)]).own H.size=some [i64 x,.int .u32 (g:Int)]:=am _ _ _;generalize H.new 29 [i64 x,.int .u32 (g:Int)]=H0 at*;have j:=h.ext t (fun _ _ h=>h);by_cases n:A.yg x g
 ·obtain⟨d,rfl⟩:=id n;rw[if_pos n];refine(jJ j d).mono ?_;rintro _ H1 ⟨y,f,rfl,a⟩;refine vs ?_;obtain⟨z,c,u⟩:=oz H1 190 mB [i64 y.2.1,u64 y.2.2];generalize (H1.new 190 mB).wr H1.size [i64 y.2.1,u64 y.2.2]=H2 at*;refine v1 (ae c) ?_;obtain⟨P,m,_,p,_⟩:=o.nG d;rw[f]at m;injection m with m;subst m;rw[p];obtain⟨S1,a,e,r⟩:=a;exact⟨rfl,wQ t (iT (a.ext z (fun _ _ h=>h)) (e.trans (z.mono fun _ _ h=>h.elim)) r)⟩
 ·rw[if_neg n];refine(sQ j n).mono ?_;rintro _ H1 ⟨rfl,S1,a,e,r⟩;refine vs ?_;obtain⟨z,c,u⟩:=oz H1 190 mB [i64 0,u64 0];generalize (H1.new 190 mB).wr H1.size [i64 0,u64 0]=H2 at*;refine v1 (ae c) ?_;exact⟨rfl,wQ t (iT (a.ext z (fun _ _ h=>h)) (e.trans (z.mono fun _ _ h=>h.elim)) r)⟩
theorem yk(h:lf H s S w A q){g:Nat}(e:¬A.yg x g)(key:Int):aF 131 [ptr s,eU x g,i64 key] H fun v J=>ak (v=i64 33/\mc s S H J w A q):=by
 refine aT iI ?_;refine vs ?_;have z:af H (H.new 29 [i64 x,.int .u32 (g:Int)]):=bD;have b0:(H.new 29 [i64 x,.int .u32 (g:Int)]).own H.size=some [i64 x,.int .u32 (g:Int)]:=am _ _ _;generalize H.new 29 [i64 x,.int .u32 (g:Int)]=H0 at*;refine(sQ (h.ext z (fun _ _ h=>h)) e).mono ?_;rintro _ H1 ⟨rfl,S1,m,n,c⟩;refine vs ?_;obtain⟨a,y,r⟩:=oz H1 190 mB [i64 0,u64 0];generalize (H1.new 190 mB).wr H1.size [i64 0,u64 0]=H2 at*;refine ai.dec (fun t=>O) (fun _=>?_);refine vs ?_;exact⟨rfl,wQ z (iT (m.ext a (fun _ _ h=>h)) (n.trans (a.mono fun _ _ h=>h.elim)) c)⟩
theorem Hj(h:lf H s S w A q)(c:¬w.has g)(key:Int):aF 128 [ptr s,i64 g,i64 key] H fun v J=>ak (v= .tuple [eU 0 0,i64 171].toArray/\mc s S H J w A q):=by
 have u:=h.slt;have a:=h;obtain⟨t,P,I,Sn,B,k,d,n,hi,m,e,r,j,o,f⟩:=h;refine aT mM ?_;refine vs ?_;have x:af H (H.new 29 cI):=bD;have b0:(H.new 29 cI).own H.size=some cI:=am _ _ _;generalize H.new 29 cI=H0 at*;have y:=x.own e (fun h=>h);refine v1 (ae y) ?_;refine(n.has g (n.ext hi x (fun _ _ h=>h))).mono ?_;rintro _ _ ⟨rfl,rfl⟩;rw[ajO c];refine v1 b0 ?_;obtain⟨p,z⟩:=Jg b0 cI;refine v1 (ae z) ?_;exact⟨rfl,Dx (tL (a.ext x (fun _ _ h=>h)) (aj.refl _ _)) Z (aC b0) O x⟩
theorem Jk(h:lf H s S w A q)(c:¬w.has g):aF 162 [ptr s,i64 g] H fun v J=>ak (v= .tuple [eU 0 0,i64 171].toArray/\mc s S H J w A q):=by
 have u:=h.slt;have a:=h;obtain⟨t,P,I,Sn,B,k,d,n,hi,m,e,r,j,o,f⟩:=h;refine aT nT ?_;refine vs ?_;have x:af H (H.new 29 cI):=bD;have b0:(H.new 29 cI).own H.size=some cI:=am _ _ _;generalize H.new 29 cI=H0 at*;have y:=x.own e (fun h=>h);refine v1 (ae y) ?_;refine(n.has g (n.ext hi x (fun _ _ h=>h))).mono ?_;rintro _ _ ⟨rfl,rfl⟩;rw[ajO c];refine v1 b0 ?_;obtain⟨p,z⟩:=Jg b0 cI;refine v1 (ae z) ?_;exact⟨rfl,Dx (tL (a.ext x (fun _ _ h=>h)) (aj.refl _ _)) Z (aC b0) O x⟩
theorem Gg(h:lf H s S w A q)(y:¬w.has g):aF 129 [ptr s,i64 g] H fun v J=>ak (v= .tuple [eU 0 0,i64 0,i64 171].toArray/\mc s S H J w A q):=by
 have p:=h.slt;refine aT rV ?_;refine vs ?_;have n:af H (H.new 29 cI):=bD;have b0:(H.new 29 cI).own H.size=some cI:=am _ _ _;generalize H.new 29 cI=H0 at*;refine(Jk (h.ext n (fun _ _ h=>h)) y).mono ?_;rintro _ H1 ⟨rfl,x⟩;have m:=aJ x b0 Z;refine vs ?_;obtain⟨z,r,o⟩:=oz H1 29 cI [i64 0,Value.int .u32 ((0:Nat):Int)];generalize (H1.new 29 cI).wr H1.size [i64 0,Value.int .u32 ((0:Nat):Int)]=H2 at*;have a:=z.own m (fun h=>h);refine ai.dec (fun d=>O) (fun _=>?_);refine v1 a ?_;obtain⟨j,c⟩:=Jg a cI;refine v1 (ae c) ?_;obtain⟨S1,x,e,t⟩:=x;exact⟨rfl,Dx (iT (x.ext z (fun _ _ h=>h)) (e.trans (z.mono fun _ _ h=>h.elim)) t) Z (aC b0) O n⟩
theorem Ab(h:lf H s S w A q)(y:¬w.has g):aF 130 [ptr s,i64 g] H fun v J=>ak (v= .tuple [eU 0 0,i64 0,i64 171].toArray/\mc s S H J w A q):=by
 have p:=h.slt;refine aT jf ?_;refine vs ?_;have n:af H (H.new 29 cI):=bD;have b0:(H.new 29 cI).own H.size=some cI:=am _ _ _;generalize H.new 29 cI=H0 at*;refine(Gg (h.ext n (fun _ _ h=>h)) y).mono ?_;rintro _ H1 ⟨rfl,x⟩;have m:=aJ x b0 Z;refine vs ?_;obtain⟨z,r,o⟩:=oz H1 29 cI [i64 0,Value.int .u32 ((0:Nat):Int)];generalize (H1.new 29 cI).wr H1.size [i64 0,Value.int .u32 ((0:Nat):Int)]=H2 at*;have a:=z.own m (fun h=>h);refine ai.dec (fun d=>O) (fun _=>?_);refine v1 a ?_;obtain⟨j,c⟩:=Jg a cI;refine v1 (ae c) ?_;obtain⟨S1,x,e,t⟩:=x;exact⟨rfl,Dx (iT (x.ext z (fun _ _ h=>h)) (e.trans (z.mono fun _ _ h=>h.elim)) t) Z (aC b0) O n⟩
theorem OD{t:TypeId}{g:Value}{I:Hp->(Nat->Prop)->Nw->Prop}{B:MN}{H1 H2:Hp}{c:Option Nat}(n:qD (.iface t g) I)(m:Ey H B A)(p:H.own s=some [i64 k,i64 d,ptr B.a,.iface t g,u64 q])(C:∀z,Sn z->¬B.S z/\z≠s)(o:¬B.S s)(U:∀z,S z↔Sn z\/B.S z\/z=s)(P:Cg w A)(u:A.live x)
  (j:br I Sn H H1 (w.put x (0,0,0)))(L:Ey H2 ⟨B.a,B.sb,c⟩ (A.back x))(v:aj B.S H1 H2)(f:∀z,c=some z->B.fo=some z\/H1.size<=z):mc s S H H2 (w.put x (0,0,0)) (A.back x) q:=by
 obtain⟨y,r,e,D⟩:=j;have F:∀z,B.S z->z<H.size:=m.slt;have V:=aC p;have E:=e.size;have X:=v.size;have M:=fun z a=>n.slt r z a;have K:∀z,(MN.mk B.a B.sb c).S z->B.S z\/H1.size<=z:=fun z a=>by
  rcases a with h|h|h
  ·exact .inl (.inl h)
  ·exact .inl (.inr (.inl h))
  ·exact(f z h).imp_left fun h=>.inr (.inr h)
 refine⟨fun z=>y z\/(MN.mk B.a B.sb c).S z\/z=s,⟨t,g,I,y,⟨B.a,B.sb,c⟩,k,d,n,n.ext r v (fun z a W=>?_),L,v.own (e.own p Z) o,fun z a=>?_,fun h=>?_,fun z=>Iff.rfl,P.put (Ar.kW u) rfl⟩,?_,fun z a=>?_⟩
 ·grind
 ·grind
 ·grind
 ·exact⟨O,fun z a j=>by cases v;cases e;grind⟩
 grind
theorem Dy(h:lf H s S w A q)(x:Int)(g:Nat):aF 133 [ptr s,eU x g] H fun v J=>ak (
  (¬A.yg x g/\v= .tuple [i64 0,i64 33].toArray/\mc s S H J w A q)\/(A.yg x g/\v= .tuple [i64 (w.key x),i64 0].toArray/\mc s S H J (w.put x (0,0,0)) (A.back x) q)):=by
 have wO:=h.slt;have j:=h.No.1;refine aT xL ?_;refine vs ?_;have u:af H (H.new 29 [i64 x,.int .u32 (g:Int)]):=bD;have b0:(H.new 29 [i64 x,.int .u32 (g:Int)]).own H.size=some [i64 x,.int .u32 (g:Int)]:=am _ _ _;generalize H.new 29 [i64 x,.int .u32 (g:Int)]=H0 at*;have F:=h.ext u (fun _ _ h=>h);by_cases o:A.yg x g
 ·obtain⟨c,rfl⟩:=id o;refine(jJ F c).mono ?_;rintro _ H1 ⟨y,hy,rfl,z⟩;have V:=aJ z b0 Z;obtain⟨S1,z,e,p⟩:=z;have WO:=z.slt;have z1:=e.size;have n1:¬S1 H.size:=fun h=>by rcases p _ h with h|h;have:=wO _ h;omega;have:=aC b0;omega
  refine vs ?_;obtain⟨a,L,z2⟩:=oz H1 190 mB [i64 y.2.1,u64 y.2.2];have n2:¬S1 H1.size:=Z;generalize MQ:H1.size=M at*;generalize (H1.new 190 mB).wr M [i64 y.2.1,u64 y.2.2]=H2 at*;have C:=a.own V (fun h=>h);have h2:=z.ext a (fun _ _ h=>h);refine ai.dec (fun _=>?_) (fun U=>absurd trivial U);obtain⟨t,vv,I,Sn,B,k,d,n,hi,m,P,E,X,hS,j⟩:=h2;refine v2 (ae P) (ae C) ?_;refine(n.delete x hi).mono ?_;rintro _ H3 (⟨mT,_⟩| ⟨_,rfl,W⟩)
  ·exact absurd ((j.live x).2 c) mT
  obtain⟨Sn',RT,r,PS⟩:=id W;have Y0:=r.own P Z;have D:=r.own C Z;have c4:=r.own L Z;refine v2 (ae Y0) (ae D) ?_;refine(qC (m.ext r Z) c).mono ?_;rintro _ H4 ⟨rfl,S6,m4,K,WP⟩;have c5:=K.own c4 Z;refine v1 (ae c5) ?_;obtain⟨y',f,_,e5,_⟩:=j.nG c;rw[hy]at f;injection f with f;subst f;rw[e5];have hg:=OD n m P E X hS j c W m4 K WP;exact .inr ⟨o,rfl,wQ u (Gf (e.trans (a.mono fun _ _ h=>h.elim)) p hg)⟩
 ·refine(sQ F o).mono ?_;rintro _ H1 ⟨rfl,S1,z,e,p⟩;refine vs ?_;obtain⟨a,L,z2⟩:=oz H1 190 mB [i64 0,u64 0];generalize (H1.new 190 mB).wr H1.size [i64 0,u64 0]=H2 at*;refine ai.dec (fun U=>O) (fun _=>?_);refine vs ?_;exact .inl ⟨o,rfl,wQ u (iT (z.ext a (fun _ _ h=>h)) (e.trans (a.mono fun _ _ h=>h.elim)) p)⟩
end
end
end Go.Proofs.YtjkkkibiegfecaaGreatDoor
