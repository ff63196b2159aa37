/- Texts put behind each other. -/
import Derived.Test.YtjkkkibiegfecaaGreatDoorK43
import Derived.Test.YtjkkkibiegfecaaGreatDoorK45
import Derived.Test.YtjkkkibiegfecaaGreatDoorK48
import Derived.Test.YtjkkkibiegfecaaGreatDoorK49
set_option linter.unusedSimpArgs false
set_option linter.unusedVariables false
set_option maxRecDepth 100000
set_option maxHeartbeats 8000000
namespace Go.Proofs.YtjkkkibiegfecaaGreatDoor
open Go Go.Vc
section
variable{H:Hp}{n c i mo:Nat}{a:Option Addr}{ns:List Nat}{kd dd cap:Int}
theorem Uq(h:n<18446744073709551616):IntKind.i64.wrap (n:Int)=toS n:=by
 have e:(2^IntKind.i64.bits:Int)=18446744073709551616:=rfl;have x:(2^ (IntKind.i64.bits - 1):Int)=9223372036854775808:=rfl;unfold IntKind.wrap toS;simp only[e,x,IntKind.signed,Bool.true_and,ak1];omega
theorem aaU{v x:Nat}(l:v*256<18446744073709551616)(a:x<256):IntKind.u64.wrap ((BitVec.ofInt 64 ((v*256:Nat):Int) |||BitVec.ofInt 64 (x:Int)).toNat:Int)=((v*256+x:Nat):Int):=by
 rw[BitVec.toNat_or];have h:(BitVec.ofInt 64 ((v*256:Nat):Int)).toNat=v*256:=by
  rw[BitVec.ofInt_natCast,BitVec.toNat_ofNat];omega
 have z:(BitVec.ofInt 64 (x:Int)).toNat=x:=by
  rw[BitVec.ofInt_natCast,BitVec.toNat_ofNat];omega
 rw[h,z];have w:v*256 |||x=v*256+x:=by
  have:=Nat.two_pow_add_eq_or_of_lt (i:=8) (b:=x) O v;rw[show(2:Nat)^8=256 from rfl]at this;grind
 grind [eG]
theorem aal(x:∀c∈ns,c<256)(hi:i<8):val (ns.take i)*256<18446744073709551616:=by
 have h:=fw x i;have z:256^i<=256^7:=Nat.pow_le_pow_right O O;omega
theorem li(h:bX H 1 (.slice a n c) n (u8s ns))(w:∀c∈ns,c<256)(u:n<=8):
  aF 99 [.slice a n c] H fun v J=>ak (v=u64 (val ns)/\J=H):=by
 have f:ns.length=n:=by have:=h.1;rw[sw]at this;omega
 refine aT aaj ?_;refine vs ?_;refine bj.intro (fun m env J=>J=H/\∃i:Nat,m=n - i/\i<=n/\env=[(3,u64 (val (ns.take i))),(6,.slice a n c),(7,i64 n),(8,i64 i)]) n ⟨rfl,0,O,O,rfl⟩ ?_;rintro m env _ ⟨rfl,i,hm,hi,rfl⟩;refine vs ?_;refine ai.dec (fun e=>?_) (fun e=>?_)<;>refine vs ?_
 ·obtain⟨x,l⟩:∃x,ns[i]? =some x:=⟨_,ajL O⟩;obtain⟨_,b,o,B,rfl,r,y⟩:=bX.byte h l;refine⟨O,?_⟩;refine v4 Int.toNat_natCast ajM r y ?_;have p:=w x Z;have d:=aal w (i:=i) O;have g:¬ ((8:Int)<0):=by decide
  have j:IntKind.u64.wrap ((val (ns.take i):Int)*2^ (min (Int.toNat 8) 64))=((val (ns.take i)*256:Nat):Int):=by
   have:(2:Int)^ (min (Int.toNat 8) 64)=256:=rfl;rw[this];exact(eG O O).trans O
  have q:IntKind.u64.wrap (x:Int)=x:=eG O O;simp(disch:=(first|exact aV|fail)) only[go_sem, ↓reduceIte,Zv,if_neg g,j,q];rw[wrap64 (n:=(i:Int)+1) O O];refine⟨n - (i+1),O,trivial,i+1,rfl,O,?_⟩;have t:=(aaU d p).trans (ajP (fun z:Nat=>(z:Int)) (aac l).symm);exact ajP (fun z:Int=>([((3:Nat),Value.int .u64 z),(6,Value.slice (some ⟨b,o,none⟩) n c),(7,i64 n),(8,i64 ((i+1:Nat):Int))]:List (Nat×Value))) t
 ·have:i=n:=O;subst this;refine⟨?_,rfl⟩;rw[akE O];rfl
theorem x7(h:bX H 1 (.slice a n c) n (u8s ns))(z:∀c∈ns,c<256)(d:n<=8):
  aF 43 [.slice a n c] H fun v J=>ak (v=u64 (val ns)/\J=H):=by
 have j:ns.length=n:=by have:=h.1;rw[sw]at this;omega
 refine aT aah ?_;refine vs ?_;refine bj.intro (fun m env J=>J=H/\∃i:Nat,m=n - i/\i<=n/\env=[(0,.slice a n c),(3,u64 (val (ns.take i))),(4,i64 i)]) n ⟨rfl,0,O,O,rfl⟩ ?_;rintro m env _ ⟨rfl,i,hm,hi,rfl⟩;refine vs ?_;refine ai.dec (fun l=>?_) (fun l=>?_)<;>refine vs ?_
 ·obtain⟨x,w⟩:∃x,ns[i]? =some x:=⟨_,ajL O⟩;obtain⟨_,b,o,f,rfl,g,e⟩:=bX.byte h w;refine⟨O,?_⟩;refine v4 Int.toNat_natCast ajM g e ?_;have q:=z x Z;have p:=aal z (i:=i) O;have y:IntKind.u64.wrap ((val (ns.take i):Int)*256)=((val (ns.take i)*256:Nat):Int):=(eG O O).trans O;have t:IntKind.u64.wrap (x:Int)=x:=eG O O;have r:IntKind.u64.wrap (((val (ns.take i)*256:Nat):Int)+(x:Int))=((val (ns.take (i+1)):Nat):Int):=by
   rw[aac w];exact(eG O O).trans O
  refine v3 y t r ?_;rw[wrap64 (n:=(i:Int)+1) O O];grind
 ·have:i=n:=O;subst this;refine⟨?_,rfl⟩;rw[akE O];rfl
def l7(r:R):List Value:=[i64 r.op,u32 r.a,u32 r.b,i64 r.k]
def is(rs:List R):List Value:=rs.flatMap l7
theorem vd(r:R)(rs:List R):is (r::rs)=l7 r++is rs:=rfl
theorem te(a b:List R):is (a++b)=is a++is b:=List.flatMap_append ..
theorem aaG(rs:List R):(is rs).length=rs.length*4:=by
 induction rs with
 |nil=>rfl
 |cons r rs x=>grind [l7,vd]
theorem z8(rs:List R):dR (is rs):=fun v x=>by
 obtain⟨r,_,h⟩:=List.mem_flatMap.1 x;simp only[l7,akk,List.not_mem_nil,or_false]at h;rcases h with rfl|rfl|rfl|rfl<;>rfl
theorem aax(r:R):qe r.op r.a r.b r.k= .agg (l7 r.fA).toArray:=by
 unfold qe R.fA;split<;>rfl
theorem aaV:∀ (rs:List R) (i:Nat) (r:R),rs[i]? =some r->((is rs).drop (i*4)).take 4=l7 r:=by
 intro rs;induction rs with
 |nil=>grind
 |cons x rs z=>
  intro i r h;cases i with
  |zero=>
   simp only[akp,ajS]at h;subst h;rfl
  |succ i=>
   rw[vd,show(i+1)*4=4+i*4 by omega,<-List.drop_drop,List.drop_left' (by rfl)];grind
theorem bX.aa7{rs:List R}(h:bX H 4 (.slice a n c) n (is rs)){r:R}(t:rs[i]? =some r):
  i<n/\∃b o x,a=some ⟨b,o,none⟩/\H.rd b=some x/\o+i*4+4<=x.length/\(x.drop (o+i*4)).take 4=l7 r:=by
 obtain⟨w,y⟩:=h;rw[aaG]at w;have hi:i<rs.length:=by
  rcases aky i rs.length with h|h
  ·exact h
  ·grind
 refine⟨O,?_⟩;rcases y with ⟨p,_⟩| ⟨b,o,j,l,v,m,d,g⟩
 ·omega
 ·injection v with e q f;refine⟨b,o,l,e,m,O,?_⟩;have z:=aaV rs i r t;rw[<-g,List.drop_take,alb,List.drop_drop,Nat.min_eq_left O]at z;exact z
theorem vw(h:bX H 1 (.slice a n c) n (u8s ns))(lo hi:Nat)(l:lo<=hi)(m:hi<=n)(v:n<=c):∀ (L z:Int),L=lo->z=hi->
  ∃w c',Value.slice (if(c:Int)=L then a else Option.map (fun x=>x.add (L.toNat*1)) a) (z.toNat - L.toNat) ((c:Int).toNat - L.toNat)= .slice w (hi - lo) c'/\bX H 1 (.slice w (hi - lo) c') (hi - lo) (u8s ((ns.drop lo).take (hi - lo)))/\hi - lo<=c':=by
 rintro L z rfl rfl;refine⟨_,_,rfl,?_,O⟩;have g:=bX.sub h (lo:=lo) (hi:=hi) l m (c':=c - lo) (b':=if(c:Int)=(lo:Int)then a else Option.map (fun x=>x.add (lo*1)) a) Z;have e:u8s ((ns.drop lo).take (hi - lo))=((u8s ns).drop (lo*1)).take ((hi - lo)*1):=by
  unfold u8s;simp_all
 grind
theorem vN(h:bX H 1 (.slice a n c) n (u8s ns))(y:n<=c)(hns:∀c∈ns,c<256)(hn:n<=2000):
  aF 42 [.slice a n c] H fun v J=>ak (af H J/\∃fp,Sl J 4 v (rl ns).length (is (rl ns)) fp):=by
 refine aT ZX ?_;refine vs ?_;refine bj.intro (fun m env J=>af H J/\∃ (a:Option Addr) (c:Nat) (w:List Nat) (e:List R) (v:Value) (fp:Option Nat),env=[(0,.slice a m c),(3,v)]/\bX H 1 (.slice a m c) m (u8s w)/\m<=c/\m<=2000/\(∀c∈w,c<256)/\rl ns=e++rl w/\e.length+m<=2000/\Sl J 4 v e.length (is e) fp/\(∀b,fp=some b->H.size<=b)) n
  ⟨aj.refl _ _,a,c,ns,[],_,none,rfl,h,y,hn,hns,rfl,Z,Sl.nil H 4,Z⟩ ?_
 rintro m env j ⟨t,a,c,w,e,v,fp,rfl,K,y,WL,aa9,u,ec,s1,yc⟩;have r:=K.fresh t;have hl:w.length=m:=by have:=r.1;rw[sw]at this;omega
 refine vs ?_;refine ai.dec (fun X=>?_) (fun X=>?_)<;>refine vs ?_
 ·obtain⟨x,C⟩:∃x,w[0]? =some x:=⟨_,ajL O⟩;obtain⟨_,b,o,lb,rfl,Nv,E5⟩:=bX.byte r C;obtain⟨a1,c1,I,t1,_⟩:=vw r 1 5 O O y 1 5 rfl rfl;obtain⟨a2,c2,V,t2,_⟩:=vw r 5 9 O O y 5 9 rfl rfl;obtain⟨a3,c3,G,t3,_⟩:=vw r 9 17 O O y 9 17 rfl rfl;refine⟨O,?_⟩;refine v4 Int.toNat_zero aj7 Nv E5 ?_;refine⟨O,?_⟩;refine vs ?_;rw[I];refine⟨_,(li t1 Z O).mono (by rintro _ _ ⟨rfl,rfl⟩;exact⟨rfl,rfl⟩),?_⟩;have p4:(256:Nat)^4=4294967296:=by decide
  have p8:(256:Nat)^8=18446744073709551616:=by decide
  have v1:=fw (l:=w.drop 1) Z 4;have v2:=fw (l:=w.drop 5) Z 4;have v3:=fw (l:=w.drop 9) Z 8;have tJ:=aa9 x Z;have Q:IntKind.i64.wrap (x:Int)=x:=wrap64 O O;have U:IntKind.u32.wrap (val ((w.drop 1).take (5 - 1)):Int)=(val ((w.drop 1).take 4):Int):=Cf O Z;have W:IntKind.u32.wrap (val ((w.drop 5).take (9 - 5)):Int)=(val ((w.drop 5).take 4):Int):=Cf O Z;have w3:IntKind.i64.wrap (val ((w.drop 9).take (17 - 9)):Int)=toS (val ((w.drop 9).take 8)):=Uq O;simp(disch:=(first|exact aV|fail)) only[go_sem, ↓reduceIte,Zv,Q,U];refine⟨O,?_⟩;refine vs ?_;rw[V];refine⟨_,(li t2 Z O).mono (by rintro _ _ ⟨rfl,rfl⟩;exact⟨rfl,rfl⟩),?_⟩;simp(disch:=(first|exact aV|fail)) only[go_sem, ↓reduceIte,Zv,W];refine⟨O,?_⟩;refine vs ?_;rw[G];refine⟨_,(li t3 Z O).mono (by rintro _ _ ⟨rfl,rfl⟩;exact⟨rfl,rfl⟩),?_⟩;refine v4 Q U W w3 ?_;have ZA:w.getD 0 0=x:=by rw[ajR,C];rfl
  have L:oo w=⟨(x:Nat),val ((w.drop 1).take 4),val ((w.drop 5).take 4),toS (val ((w.drop 9).take 8))⟩:=by unfold oo;rw[ZA]
  refine(iZ j x (val ((w.drop 1).take 4)) (val ((w.drop 5).take 4)) (toS (val ((w.drop 9).take 8)))).mono ?_;rintro _ H2 ⟨rfl,d⟩;have P:=aax (oo w);rw[L]at P;rw[P,<-L];simp(disch:=(first|exact aV|fail)) only[go_sem, ↓reduceIte,Zv,l7];have g:af H2 (H2.new 52 (l7 (oo w).fA)):=bD;refine Sl.append ((s1.ext d (fun _ _ h=>h)).ext g (fun _ _ h=>h)) (Sl.bJ (size:=4) (n:=1) (xs:=is [(oo w).fA]) rfl rfl).rd rfl (z8 _) O ?_;intro N H3 f T q A;refine vs ?_;have f13:af j H2:=d;have M:af H H3:=(t.trans (d.trans g)).then q O;refine⟨O,?_⟩;obtain⟨a4,c4,D,F,l4⟩:=vw K 17 m O O y 17 m rfl rfl;refine vs ?_;rw[D];have hdr:(w.drop 17).take (m - 17)=w.drop 17:=akE Z;rw[hdr]at F;refine⟨m - 17,O,M,a4,c4,w.drop 17,e++[(oo w).fA],N,f,rfl,F,l4,O,Z,?_,Z,by grind [te],?_⟩
  ·grind [sd]
  ·intro z p;rcases A with B| ⟨b',B,E,g2⟩
   ·grind
   ·rw[B]at p;injection p with p;rw[<-p];exact akc (t.trans (d.trans g)).size E
 ·refine ai.dec (fun h2=>?_) (fun h2=>?_)<;>refine vs ?_
  ·have nj:w≠[]:=Z;have g:af j (j.new 52 [i64 0,u32 0,u32 0,i64 0]):=bD;refine Sl.append (s1.ext g (fun _ _ h=>h)) (Sl.bJ (size:=4) (n:=1) (xs:=is [⟨0,0,0,0⟩]) rfl rfl).rd rfl (z8 _) O ?_;intro N H3 f T q A;refine vs ?_;refine⟨(t.trans g).then q O,f,?_⟩;rw[u,RF O nj,te,ajW];exact T
  ·have adw:w=[]:=akg.1 O;rw[adw,aav,ake]at u;exact⟨t,fp,by rw[u];exact s1⟩
theorem F9(h:bX H 1 (.slice a n c) n (u8s ns))(u:n<=c)(hns:∀c∈ns,c<256)(hn:n<=2000):
  aF 21 [.slice a n c] H fun v J=>ak (af H J/\∃fp,Sl J 4 v (rl ns).length (is (rl ns)) fp):=by
 have W:ns.length=n:=by have:=h.1;rw[sw]at this;omega
 refine uS aaf ⟨rfl,?_⟩;have f0:af H (H.new 52 []):=bD;have s0:Sl (H.new 52 []) 4 (.slice (some ⟨H.size,0,none⟩) 0 0) 0 (is []) (some H.size):=Sl.bJ (size:=4) (n:=0) (xs:=[]) rfl rfl;refine v1 r7.eq_1 ?_;generalize H.new 52 []=H0 at*;refine bj.intro (fun m env J=>af H J/\∃ (i:Nat) (e:List R) (v:Value) (b:Nat),m=n - i/\i<=n/\env=[(0,.slice a n c),(3,v),(4,i64 i)]/\rl ns=e++rl (ns.drop i)/\e.length<=i/\Sl J 4 v e.length (is e) (some b)/\H.size<=b) n
  ⟨f0,0,[],_,H.size,O,O,rfl,rfl,by simp,s0,O⟩ ?_
 rintro m env z ⟨g,i,e,v,bw,hm,hi,rfl,t,ec,s1,hbv⟩;have j:=h.fresh g;have hdl:(ns.drop i).length=n - i:=Z;refine vs ?_;refine ai.dec (fun h1=>?_) (fun h1=>?_)<;>refine vs ?_
 ·rw[wrap64 (n:=(n:Int) - (i:Int)) O O];refine ai.dec (fun h2=>?_) (fun h2=>?_)<;>refine vs ?_
  ·have nj:ns.drop i≠[]:=Z;have y:af z (z.new 52 [i64 0,u32 0,u32 0,i64 0]):=bD;refine Sl.append (s1.ext y (fun _ _ h=>h)) (Sl.bJ (size:=4) (n:=1) (xs:=is [⟨0,0,0,0⟩]) rfl rfl).rd rfl (z8 _) O ?_;intro d p f P q U;refine vs ?_;refine⟨(g.trans y).then q Z,f,?_⟩;rw[t,RF O nj,te,ajW];exact P
  have YZ:i+17<=n:=O;obtain⟨x,I⟩:∃x,ns[i]? =some x:=⟨_,ajL O⟩;obtain⟨_,b,o,lb,rfl,Nv,E5⟩:=bX.byte j I;have wi1:IntKind.i64.wrap ((i:Int)+1)=((i+1:Nat):Int):=wrap64 O O;have E:IntKind.i64.wrap ((i:Int)+5)=((i+5:Nat):Int):=wrap64 O O;have X:IntKind.i64.wrap ((i:Int)+9)=((i+9:Nat):Int):=wrap64 O O;have M:IntKind.i64.wrap ((i:Int)+17)=((i+17:Nat):Int):=wrap64 O O;obtain⟨a1,c1,A,V,_⟩:=vw j (i+1) (i+5) O O u _ _ rfl rfl;obtain⟨a2,c2,C,G,_⟩:=vw j (i+5) (i+9) O O u _ _ rfl rfl;obtain⟨a3,c3,K,D,_⟩:=vw j (i+9) (i+17) O O u _ _ rfl rfl;rw[show i+5 - (i+1)=4 by omega,show ns.drop (i+1)=(ns.drop i).drop 1 by simp_all]at V;rw[show i+9 - (i+5)=4 by omega,show ns.drop (i+5)=(ns.drop i).drop 5 by simp_all]at G;rw[show i+17 - (i+9)=8 by omega,show ns.drop (i+9)=(ns.drop i).drop 9 by simp_all]at D;rw[show i+5 - (i+1)=4 by omega]at A;rw[show i+9 - (i+5)=4 by omega]at C;rw[show i+17 - (i+9)=8 by omega]at K;have aa9:∀c∈ns.drop i,c<256:=Z;have p4:(256:Nat)^4=4294967296:=by decide
  have p8:(256:Nat)^8=18446744073709551616:=by decide
  have v1:=fw (l:=(ns.drop i).drop 1) Z 4;have v2:=fw (l:=(ns.drop i).drop 5) Z 4;have v3:=fw (l:=(ns.drop i).drop 9) Z 8;have tJ:=hns x Z;have w0:IntKind.i64.wrap (x:Int)=x:=wrap64 O O;have w1:IntKind.u32.wrap (val (((ns.drop i).drop 1).take 4):Int)=(val (((ns.drop i).drop 1).take 4):Int):=Cf O O;have w2:IntKind.u32.wrap (val (((ns.drop i).drop 5).take 4):Int)=(val (((ns.drop i).drop 5).take 4):Int):=Cf O O;have w3:IntKind.i64.wrap (val (((ns.drop i).drop 9).take 8):Int)=toS (val (((ns.drop i).drop 9).take 8)):=Uq O;refine cZ.intro (fun J=>af z J) (aj.refl _ _) ?_;refine vs ?_;refine⟨⟨O,O⟩,?_⟩;simp(disch:=(first|exact aV|fail)) only[go_sem, ↓reduceIte,Zv,Int.toNat_natCast,ajM];refine bG.intro (.int .u8 (x:Int)) (fun J w=>?_) ?_
  ·have hI':af z J:=w;simp(disch:=(first|exact aV|fail)) only[go_sem, ↓reduceIte,Zv,hI'.rd Nv (fun h=>h)];refine D9 (v:=.int .u8 (x:Int)) Z ?_;grind
  simp(disch:=(first|exact aV|fail)) only[go_sem, ↓reduceIte,Zv,wi1,E];refine⟨O,?_⟩;refine vs ?_;rw[A];have num:∀ {L:Option Addr} {c' m:Nat} {l:List Nat},bX z 1 (.slice L m c') m (u8s l)->(∀c∈l,c<256)->m<=8->∀J,af z J->aF 43 [.slice L m c'] J fun d H''=>d=u64 (val l)/\H''=J:=fun r W hm J w=>
   (x7 (r.fresh w) W hm).mono (by rintro _ _ ⟨rfl,rfl⟩;grind)
  refine bG.intro (u64 (val (((ns.drop i).drop 1).take 4))) (fun J w=>?_) ?_
  ·refine vs ?_;exact num V Z O J w
  simp(disch:=(first|exact aV|fail)) only[go_sem, ↓reduceIte,Zv,E,X];refine⟨O,?_⟩;refine vs ?_;rw[C];refine bG.intro (u64 (val (((ns.drop i).drop 5).take 4))) (fun J w=>?_) ?_
  ·refine vs ?_;exact num G Z O J w
  simp(disch:=(first|exact aV|fail)) only[go_sem, ↓reduceIte,Zv,X,M];refine⟨O,?_⟩;refine vs ?_;rw[K];refine bG.intro (u64 (val (((ns.drop i).drop 9).take 8))) (fun J w=>?_) ?_
  ·refine vs ?_;exact num D Z O J w
  refine vs ?_;have T:af z (z.new 52 [i64 0,u32 0,u32 0,i64 0]):=bD;refine And.intro T ?_;have B:=am z 52 [i64 0,u32 0,u32 0,i64 0];refine v5 w0 w1 w2 w3 B ?_;have Y5:=aC B;have y:af z ((z.new 52 [i64 0,u32 0,u32 0,i64 0]).wr z.size [i64 x,u32 (val (((ns.drop i).drop 1).take 4):Nat),u32 (val (((ns.drop i).drop 5).take 4):Nat),i64 (toS (val (((ns.drop i).drop 9).take 8)))]):=T.wr O _;have q6:=ah (l:=[i64 x,u32 (val (((ns.drop i).drop 1).take 4):Nat),u32 (val (((ns.drop i).drop 5).take 4):Nat),i64 (toS (val (((ns.drop i).drop 9).take 8)))]) B;refine And.intro y ?_;refine vs ?_;generalize hp5:z.size=p5 at*;generalize (z.new 52 [i64 0,u32 0,u32 0,i64 0]).wr p5 [i64 x,u32 (val (((ns.drop i).drop 1).take 4):Nat),u32 (val (((ns.drop i).drop 5).take 4):Nat),i64 (toS (val (((ns.drop i).drop 9).take 8)))]=H2 at*;simp(disch:=(first|exact aV|fail)) only[go_sem, ↓reduceIte,Zv,ae q6];have ZA:(ns.drop i).getD 0 0=x:=by rw[ajR,aks,Nat.add_zero,I];rfl
  have Q:oo (ns.drop i)=⟨(x:Nat),val (((ns.drop i).drop 1).take 4),val (((ns.drop i).drop 5).take 4),toS (val (((ns.drop i).drop 9).take 8))⟩:=by unfold oo;rw[ZA]
  refine(AE H2 x (val (((ns.drop i).drop 1).take 4)) (val (((ns.drop i).drop 5).take 4)) (toS (val (((ns.drop i).drop 9).take 8)))).mono ?_;rintro _ p ⟨rfl,f4⟩;have N:=aax (oo (ns.drop i));rw[Q]at N;rw[N,<-Q];simp(disch:=(first|exact aV|fail)) only[go_sem, ↓reduceIte,Zv,l7];have f5:af p (p.new 52 (l7 (oo (ns.drop i)).fA)):=bD;have f15:=y.trans (f4.trans f5);refine Sl.append (s1.ext f15 (fun _ _ h=>h)) (Sl.bJ (size:=4) (n:=1) (xs:=is [(oo (ns.drop i)).fA]) rfl rfl).rd rfl (z8 _) O ?_;intro d H4 f P q U;simp(disch:=(first|exact aV|fail)) only[go_sem, ↓reduceIte,Zv,M];have fH4:af H H4:=(g.trans f15).then q Z;obtain⟨b',rfl,hb'⟩:∃b',f=some b'/\H.size<=b':=by
   rcases U with F| ⟨b',F,g1,g2⟩
   ·grind
   ·exact⟨b',F,akc (g.trans f15).size g1⟩
  refine⟨n - (i+17),O,fH4,i+17,e++[(oo (ns.drop i)).fA],d,b',rfl,O,rfl,?_,Z,by rw[te,ajW];exact P,hb'⟩;rw[t,sd O,akR,List.drop_drop];rfl
 ·have:i=n:=O;subst this;rw[List.drop_of_length_le O,aav,ake]at t;exact⟨g,some bw,by rw[t];exact s1⟩
def okR(r:R):Prop:=gM r.a r.b r.k
noncomputable def runT(t:iu):List R->iu
 | []=>t
 |r::rs=>runT (D7 t r.op r.a r.b r.k).1 rs
noncomputable def NE(t:iu):List R->List Rp
 | []=>[]
 |r::rs=>(D7 t r.op r.a r.b r.k).2::NE (D7 t r.op r.a r.b r.k).1 rs
theorem aay(t:iu)(a:List R)(r:R):runT t (a++[r])=(D7 (runT t a) r.op r.a r.b r.k).1:=by
 induction a generalizing t with
 |nil=>rfl
 |cons x a h=>exact h _
theorem aaz(t:iu)(a:List R)(r:R):NE t (a++[r])=NE t a++[(D7 (runT t a) r.op r.a r.b r.k).2]:=by
 induction a generalizing t with
 |nil=>rfl
 |cons x a h=>exact ajP _ (h _)
theorem PM(t:iu)(a:List R):(NE t a).length=a.length:=by
 induction a generalizing t with
 |nil=>rfl
 |cons x a h=>exact ajP _ (h _)
theorem aaM{t:iu}(h:Bd t n)(a:List R):Bd (runT t a) (n+a.length):=by
 induction a generalizing t n with
 |nil=>exact h
 |cons x a z=>
  have:=z (XB h (ti x.op) (zh (ti x.op) x.a) (AZ (ti x.op) x.b) (Cl (ti x.op) x.k));rw[ajX,show n+(a.length+1)=n+1+a.length by omega];exact this
def fS(l:List Rp):List Value:=l.flatMap BF
theorem R9(l:List Rp):(fS l).length=l.length*6:=by
 induction l with
 |nil=>rfl
 |cons r l x=>
  show(BF r++fS l).length=_;have e:(r::l).length=l.length+1:=rfl;rw[ajW,x,e];show 6+_=_;omega
theorem aaH(a b:List Rp):fS (a++b)=fS a++fS b:=List.flatMap_append ..
theorem aaZ(L:List Rp):dR (fS L):=by
 intro v h;obtain⟨r,_,x⟩:=List.mem_flatMap.1 h;simp only[BF,akk,List.not_mem_nil,or_false]at x;rcases x with rfl|rfl|rfl|rfl|rfl|rfl<;>rfl
theorem aaW{T:TypeId}{w:Value}{L:List Rp}{r:Rp}{fp:Option Nat}{K:Value->Hp->Prop}(s:Sl H 6 w L.length (fS L) fp)(o:H.own n=some (BF r))(l:L.length<=1000000)
  (h:∀w' J x,(x=fp\/∃b,x=some b/\H.size<=b/\b<J.size)->Sl J 6 w' (L++[r]).length (fS (L++[r])) x->aj (fun z=>fp=some z) H J->K w' J):
  eI T 6 48 AP w (.slice (some ⟨n,0,none⟩) 1 1) H K:=by
 have q:bX H 6 (.slice (some ⟨n,0,none⟩) 1 1) 1 (fS [r]):=Sl.rd (fp:=some n) ⟨rfl,_,1,rfl,o,O,by simp,rfl⟩;grind [Sl.append,aaZ,aaH]
theorem aak(Q:0<=cap/\cap<=65536)(hm:mo<=4294967295){rs:List R}(h:bX H 4 (.slice a rs.length c) rs.length (is rs))(hr:∀r∈rs,okR r)(hl:rs.length<=60000):
  aF 15 [BO kd dd,i64 cap,.int .u32 (mo:Int),.slice a rs.length c] H fun v J=>ak (af H J/\∃w n fp,v= .tuple [w,i64 (B4 kd dd mo)].toArray/\Sl J 6 w n (if B4 kd dd mo=0 then fS (NE ⟨jD cap,uO cap mo,0⟩ rs)else[]) fp):=by
 refine aT aaD ?_;refine vs ?_;have F:af H (H.new 23 [i64 kd,i64 dd]):=bD;have z0:(H.new 23 [i64 kd,i64 dd]).size=H.size+1:=ag _ _ _;generalize H.new 23 [i64 kd,i64 dd]=A at*;by_cases e:B4 kd dd mo=0
 ·have B:KX kd dd=0:=by
   apply aj3;intro h;unfold B4 at e;rw[if_pos h]at e;exact h e
  have hmo:mo≠0:=by
   intro h;unfold B4 at e;rw[if_neg (fun h=>h B),if_pos h]at e;cases e
  rw[e];refine(HE (Jl.1 B) (Pg (Jl.1 B)) Q ⟨O,hm⟩ A).mono ?_;rintro _ C ⟨s,S,rfl,P,f,hS⟩;refine vs ?_;refine ai.dec (fun _=>?_) (fun hh=>absurd trivial hh);refine vs ?_;have X:=bd0 cap mo;have P:lf C s S (⟨jD cap,uO cap mo,0⟩:iu).w (⟨jD cap,uO cap mo,0⟩:iu).A (⟨jD cap,uO cap mo,0⟩:iu).q:=P;generalize (⟨jD cap,uO cap mo,0⟩:iu)=y at*;refine bj.intro (fun m env J=>∃ (j:Nat) (v:Value) (fp:Option Nat) (t:Nat->Prop),m=rs.length - j/\j<=rs.length/\af H J/\lf J s t (runT y (rs.take j)).w (runT y (rs.take j)).A (runT y (rs.take j)).q/\(∀z,t z->H.size<=z)/\
   Sl J 6 v (NE y (rs.take j)).length (fS (NE y (rs.take j))) fp/\(∀b,fp=some b->H.size<=b/\¬t b)/\env=[(10,ptr s),(12,v),(25,.slice a rs.length c),(26,i64 rs.length),(27,i64 j)]) rs.length
   ⟨0,_,none,S,O,O,F.trans f,P,Z,Sl.nil _ _,Z,rfl⟩ ?_
  rintro m env H2 ⟨j,v,fp,t,rfl,hj,d,D,W6,s2,yc,rfl⟩;refine vs ?_;refine ai.dec (fun iC=>?_) (fun iC=>?_)<;>refine vs ?_
  ·obtain⟨r,W⟩:∃r,rs[j]? =some r:=⟨_,ajL O⟩;obtain⟨_,b,o,lb,rfl,Nv,hle,L⟩:=bX.aa7 (h.fresh d) W;refine⟨O,?_⟩;refine v2 Nv Int.toNat_natCast ?_;refine⟨O,?_⟩;have L:(lb.drop (o+j*4)).take 4=[i64 r.op,u32 r.a,u32 r.b,i64 r.k]:=L;refine v1 L ?_;obtain⟨p,V,z3⟩:=oz H2 52 PQ [i64 r.op,u32 r.a,u32 r.b,i64 r.k];generalize (H2.new 52 PQ).wr H2.size [i64 r.op,u32 r.a,u32 r.b,i64 r.k]=H3 at*;refine v1 (ae V) ?_;have l:=aaM X (rs.take j);have U:(rs.take j).length=j:=by rw[akf];omega
   rw[U]at l;have M:=D.ext p (fun _ _ h=>h);have ht:rs.take (j+1)=rs.take j++[r]:=by rw[aj2,W];rfl
   refine(FJ M (by have:=l.h1;omega) (fun x _ _=>by have:=l.g x;omega) ⟨l.q0,by have:=l.q1;omega⟩ r.op (hr r Z)).mono ?_;rintro _ H4 ⟨rfl,K,N,q,d4⟩;have z2:=p.size;have z4:=q.size;have zf2:=d.size;have s4:=(s2.ext p (fun _ _ h=>h)).ext q Z;have I:af H H4:=(d.trans p).then q O;refine vs ?_;have u:af H4 (H4.new 31 (BF (D7 (runT y (rs.take j)) r.op r.a r.b r.k).2)):=bD;refine aaW (s4.ext u (fun _ _ h=>h)) (am _ _ _) (by rw[PM,U];omega) fun w' H6 G hf6 s6 T=>?_;refine vs ?_;rw[wrap64 O O];have hfb:∀b,fp=some b->b<H2.size:=fun b l=>by
    subst l;obtain⟨_,_,_,_,o,_⟩:=s2;exact aC o
   have key:∀z,K z->¬fp=some z:=Z;refine⟨rs.length - (j+1),O,j+1,w',G,K,rfl,O,(I.trans u).then T Z,?_,fun z hz=>?_,?_,fun b l=>?_,rfl⟩
   ·rw[ht,aay];exact(N.ext u (fun _ _ h=>h)).ext T key
   ·grind
   ·grind [aaz]
   ·rcases hf6 with rfl| ⟨b',rfl,E,_⟩
    ·grind
    ·injection l with l;subst l;rw[ag]at E;exact⟨O,fun h=>by have:=N.slt _ h;omega⟩
  ·rw[akE O]at s2;exact⟨d,v,_,fp,rfl,by rw[if_pos rfl];exact s2⟩
 ·refine(FK Q e A).mono ?_;rintro _ C ⟨rfl,f⟩;refine vs ?_;refine ai.dec (fun g=>absurd g e) (fun _=>?_);refine vs ?_;rw[if_neg e];exact⟨F.trans f,_,0,none,rfl,Sl.nil _ _⟩
theorem aai(hc:0<=cap/\cap<=65536)(hm:mo<=4294967295){rs:List R}(h:bX H 4 (.slice a rs.length c) rs.length (is rs))(hr:∀r∈rs,okR r)(hl:rs.length<=60000):
  aF 16 [BO kd dd,i64 cap,.int .u32 (mo:Int),.slice a rs.length c] H fun v J=>ak (af H J/\∃w n fp,v= .tuple [w,i64 (B4 kd dd mo)].toArray/\Sl J 6 w n (if B4 kd dd mo=0 then fS (NE ⟨jD cap,uO cap mo,0⟩ rs)else[]) fp):=by
 refine aT aaw ?_;refine vs ?_;have f0:af H (H.new 23 [i64 kd,i64 dd]):=bD;have z0:(H.new 23 [i64 kd,i64 dd]).size=H.size+1:=ag _ _ _;generalize H.new 23 [i64 kd,i64 dd]=H0 at*;refine(B6 hc hm H0).mono ?_;rintro v0 u ⟨f1,e1⟩;by_cases E:B4 kd dd mo=0
 ·rw[if_pos E]at e1;obtain⟨l,rfl,o1⟩:=e1;obtain⟨X,tc,N,gc,I,D,L,C,T,G,rfl,_⟩:=id o1;rw[E];obtain⟨f2,b2,z2⟩:=oz u 86 Iw [i64 (uO cap mo).g.length,.int .u32 ((uO cap mo).mo:Int),.slice X T.length tc,.slice N G.length gc,.slice I (jD cap).hs.length D,.slice L (jD cap).cs.length C,u64 0];refine vs ?_;generalize U8:u.size=cs at*;have o2:=o1.fresh f2;generalize (u.new 86 Iw).wr cs [i64 (uO cap mo).g.length,.int .u32 ((uO cap mo).mo:Int),.slice X T.length tc,.slice N G.length gc,.slice I (jD cap).hs.length D,.slice L (jD cap).cs.length C,u64 0]=y at*;refine ai.dec (fun _=>?_) (fun hh=>absurd trivial hh);refine vs ?_;have XO:=bd0 cap mo;have o2:mF y [i64 (uO cap mo).g.length,.int .u32 ((uO cap mo).mo:Int),.slice X T.length tc,.slice N G.length gc,.slice I (jD cap).hs.length D,.slice L (jD cap).cs.length C,u64 0] (⟨jD cap,uO cap mo,0⟩:iu) _ 0:=o2;generalize [i64 (uO cap mo).g.length,.int .u32 ((uO cap mo).mo:Int),.slice X T.length tc,.slice N G.length gc,.slice I (jD cap).hs.length D,.slice L (jD cap).cs.length C,u64 0]=l0 at*;generalize (⟨jD cap,uO cap mo,0⟩:iu)=d at*;have zf1:=f1.size;have s0:Sl (y.new 31 []) 6 (.slice (some ⟨y.size,0,none⟩) 0 0) 0 (fS []) (some y.size):=Sl.lit _ _ 6 0 [] rfl;have f3:af y (y.new 31 []):=bD;have z3:(y.new 31 []).size=y.size+1:=ag _ _ _;refine bj.intro (fun m env J=>∃ (j:Nat) (v:Value) (fp:Option Nat) (f:Nat->Prop) (l:List Value),m=rs.length - j/\j<=rs.length/\af H J/\J.own cs=some l/\mF J l (runT d (rs.take j)) f j/\(∀z,f z->H.size<=z/\z≠cs)/\
   Sl J 6 v (NE d (rs.take j)).length (fS (NE d (rs.take j))) fp/\(∀b,fp=some b->H.size<=b/\b≠cs/\¬f b)/\env=[(10,ptr cs),(12,v),(28,.slice a rs.length c),(29,i64 rs.length),(30,i64 j)]) rs.length
   ⟨0,_,some y.size,_,l0,O,O,((f0.trans f1).trans f2).trans f3,f3.own b2 (fun h=>h),o2.fresh f3,O,s0,fun b t=>?_,rfl⟩ ?_
  ·grind
  rintro m env H4 ⟨j,v,fp,f,l,rfl,hj,f4,b4,o4,hB,s4,yc,rfl⟩;refine vs ?_;refine ai.dec (fun iC=>?_) (fun iC=>?_)<;>refine vs ?_
  ·obtain⟨r,hx⟩:∃r,rs[j]? =some r:=⟨_,ajL O⟩;obtain⟨_,b,o,lb,rfl,Nv,hle,htk⟩:=bX.aa7 (h.fresh f4) hx;refine⟨O,?_⟩;refine v2 Nv Int.toNat_natCast ?_;refine⟨O,?_⟩;have htk:(lb.drop (o+j*4)).take 4=[i64 r.op,u32 r.a,u32 r.b,i64 r.k]:=htk;refine v1 htk ?_;obtain⟨F,b5,z5⟩:=oz H4 52 PQ [i64 r.op,u32 r.a,u32 r.b,i64 r.k];generalize (H4.new 52 PQ).wr H4.size [i64 r.op,u32 r.a,u32 r.b,i64 r.k]=H5 at*;have c5:=F.own b4 (fun h=>h);have o5:=o4.fresh F;obtain⟨X,tc,N,gc,I,D,L,C,T,G,rfl,_⟩:=id o5;refine v2 (ae b5) (ae c5) ?_;have t:=aaM XO (rs.take j);have hlj:(rs.take j).length=j:=by rw[akf];omega
   rw[hlj]at t;have ht:rs.take (j+1)=rs.take j++[r]:=by rw[aj2,hx];rfl
   refine(Ea o5 O t.h0 (fun x=>by have:=t.g x;omega) ⟨t.q0,by have:=t.q1;omega⟩ r.op (hr r Z)).mono ?_;rintro _ p ⟨f6,l6,rfl,o6⟩;obtain⟨ta6,tc6,Q,U,V,M,A,K,P,B,rfl,_⟩:=id o6;have c6:=f6.own c5 (fun h=>h);have eT:runT d (rs.take (j+1))=(D7 (runT d (rs.take j)) r.op r.a r.b r.k).1:=by rw[ht,aay]
   have cd:NE d (rs.take (j+1))=NE d (rs.take j)++[(D7 (runT d (rs.take j)) r.op r.a r.b r.k).2]:=by rw[ht,aaz]
   generalize D7 (runT d (rs.take j)) r.op r.a r.b r.k=W at*;obtain⟨f7,b7,b8,z7⟩:=OE p 86 31 Iw AP [i64 W.1.A.g.length,.int .u32 (W.1.A.mo:Int),.slice ta6 P.length tc6,.slice Q B.length U,.slice V W.1.w.hs.length M,.slice A W.1.w.cs.length K,u64 W.1.q] (BF W.2);have b7':(((p.new 86 Iw).new 31 AP).wr p.size [i64 W.1.A.g.length,.int .u32 (W.1.A.mo:Int),.slice ta6 P.length tc6,.slice Q B.length U,.slice V W.1.w.hs.length M,.slice A W.1.w.cs.length K,u64 W.1.q]).rd p.size=some [i64 W.1.A.g.length,.int .u32 (W.1.A.mo:Int),.slice ta6 P.length tc6,.slice Q B.length U,.slice V W.1.w.hs.length M,.slice A W.1.w.cs.length K,u64 W.1.q]:=ae (ah (l':=Iw) (by grind [ay,ag,am]));refine vs ?_;generalize h6s:p.size=cw at*;generalize (((p.new 86 Iw).new 31 AP).wr cw [i64 W.1.A.g.length,.int .u32 (W.1.A.mo:Int),.slice ta6 P.length tc6,.slice Q B.length U,.slice V W.1.w.hs.length M,.slice A W.1.w.cs.length K,u64 W.1.q]).wr (cw+1) (BF W.2)=H7 at*;have c7:=f7.own c6 (fun h=>h);refine v2 b7' c7 ?_;generalize [i64 W.1.A.g.length,.int .u32 (W.1.A.mo:Int),.slice ta6 P.length tc6,.slice Q B.length U,.slice V W.1.w.hs.length M,.slice A W.1.w.cs.length K,u64 W.1.q]=L6 at*;have zc:=aC b4;have z5':=F.size;have z6:=f6.size;have z4:=f4.size;have b9:(H7.wr cs L6).own (cw+1)=some (BF W.2):=by rw[aG O];exact b8
   have b10:(H7.wr cs L6).own cs=some L6:=ah c7;have ahT:H.size<=cs:=O;have ad:af H (H7.wr cs L6):=(((f4.trans F).trans f6).trans f7).then (bS H7 cs L6) O;have gb:∀z,jA f H5 p z->H.size<=z/\z≠cs:=fun z q=>by
    rcases q with q|q
    ·grind
    ·omega
   have o8:=(o6.fresh f7).ext (bS H7 cs L6) Z;have s8:=((((s4.ext F (fun _ _ h=>h)).ext f6 (fun _ _ h=>h)).ext f7 (fun _ _ h=>h)).ext (bS H7 cs L6) Z);have hfb:∀b,fp=some b->b<H4.size:=fun b t=>by
    subst t;obtain⟨_,_,_,_,o,_⟩:=s4;exact aC o
   have key:∀z,jA f H5 p z->¬fp=some z:=fun z q e=>by
    rcases q with q|q
    ·grind
    grind
   have zE:(H7.wr cs L6).size=H7.size:=bH ..
   generalize H7.wr cs L6=H8 at*;refine v1 (ae b9) ?_;have f9:af H8 (H8.new 31 (BF W.2)):=bD;refine aaW (s8.ext f9 (fun _ _ h=>h)) (am _ _ _) (by rw[PM,hlj];omega) fun w' H10 LM aik s10 ZD=>?_;refine vs ?_;rw[wrap64 O O];have o10:=(o8.fresh f9).ext ZD key;refine⟨rs.length - (j+1),O,j+1,w',LM,_,_,rfl,O,(ad.trans f9).then ZD Z,ZD.own (f9.own b10 (fun h=>h)) Z,?_,gb,?_,fun b t=>?_,rfl⟩
   ·grind
   ·grind
   grind [ag]
  ·rw[akE O]at s4;exact⟨f4,v,_,fp,rfl,by rw[if_pos rfl];exact s4⟩
 ·rw[if_neg E]at e1;subst e1;obtain⟨f2,b2,z2⟩:=oz u 86 Iw Iw;refine vs ?_;generalize (u.new 86 Iw).wr u.size Iw=y at*;refine ai.dec (fun g=>absurd g E) (fun _=>?_);refine vs ?_;rw[if_neg E];exact⟨(f0.trans f1).trans f2,_,0,none,rfl,Sl.nil _ _⟩
theorem aaA(p q:Rp):ri [(0,none,.int),(1,none,.int),(2,some 2,.s [(0,none,.int),(1,none,.int)]),(4,none,.int),(5,none,.int)] (BF p) (BF q)=some (decide (p=q)):=by
 obtain⟨c,h,s,g,k,n⟩:=p;obtain⟨c',z,j,x,t,r⟩:=q;simp only[Rp.mk.injEq];have v:((g:Int)=x)=(g=x):=Z;by_cases w:c=c'<;>by_cases l:h=z<;>by_cases a:s=j<;>by_cases m:g=x<;>by_cases e:k=t<;>by_cases y:n=r<;>simp[ri,Vc.lV,xf,cV,w,l,a,v,m,e,y]
theorem aaN(L:List Rp)(i:Nat)(r:Rp)(h:L[i]? =some r):((fS L).drop (i*6)).take 6=BF r:=by
 induction L generalizing i with
 |nil=>simp at h
 |cons x L z=>
  have e:fS (x::L)=BF x++fS L:=rfl;cases i with
  |zero=>grind
  |succ i=>
   grind
theorem bX.rep{L:List Rp}(h:bX H 6 (.slice a n c) n (fS L)){r:Rp}(w:L[i]? =some r):
  i<n/\∃b o x,a=some ⟨b,o,none⟩/\H.rd b=some x/\o+i*6+6<=x.length/\(x.drop (o+i*6)).take 6=BF r:=by
 obtain⟨m,t⟩:=h;rw[R9]at m;have hi:=(ajK.1 w).1;refine⟨O,?_⟩;rcases t with ⟨p,_⟩| ⟨b,o,j,l,e,v,d,y⟩
 ·omega
 ·injection e with g q f;refine⟨b,o,l,g,v,O,?_⟩;have z:=aaN L i r w;rw[<-y,List.drop_take,alb,List.drop_drop,Nat.min_eq_left O]at z;exact z
theorem aaa{v w:Value}{L M:List Rp}(h:bX H 6 v L.length (fS L))(z:bX H 6 w M.length (fS M))(K:L.length<=100000)(hm:M.length<=100000):aF 17 [v,w] H fun r J=>ak (r= .bool (decide (L=M))/\af H J):=by
 obtain⟨a1,g,rfl⟩:=bX.Dh h;obtain⟨a2,y,rfl⟩:=bX.Dh z;refine aT aan ?_;refine vs ?_;by_cases N:L.length=M.length
 ·rw[ajQ O];refine vs ?_;refine bj.intro (fun m env J=>∃j:Nat,m=L.length - j/\j<=L.length/\af H J/\L.take j=M.take j/\env=[(0,.slice a1 L.length g),(1,.slice a2 M.length y),(12,i64 L.length),(13,i64 j)]) L.length ⟨0,O,O,aj.refl _ _,rfl,rfl⟩ ?_;rintro m env B ⟨j,rfl,C,x,c,rfl⟩;refine vs ?_;refine ai.dec (fun t=>?_) (fun t=>?_)<;>refine vs ?_
  ·obtain⟨p,l⟩:∃p,L[j]? =some p:=⟨_,ajL O⟩;obtain⟨q,n⟩:∃q,M[j]? =some q:=Z;obtain⟨_,b,o,Q,rfl,d,T,e⟩:=bX.rep (h.fresh x) l;obtain⟨_,b',W,U,rfl,f,F,u⟩:=bX.rep (z.fresh x) n;refine⟨O,?_⟩;refine v2 d Int.toNat_natCast ?_;refine⟨O,?_⟩;refine v1 e ?_;refine⟨O,?_⟩;refine v2 f Int.toNat_natCast ?_;refine⟨O,?_⟩;refine v2 u aaA ?_;have P:L.take (j+1)=L.take j++[p]:=by rw[aj2,l];rfl
   have A:M.take (j+1)=M.take j++[q]:=by rw[aj2,n];rfl
   rw[e,aaA];by_cases a:p=q
   ·rw[ajQ a];simp only[Option.map_some];refine vs ?_;rw[wrap64 O O];grind
   ·rw[ajO a];simp only[Option.map_some];refine vs ?_;exact⟨by rw[ajO Z];rfl,x⟩
  ·rw[akE O,akE O]at c;exact⟨by rw[ajQ c];rfl,x⟩
 ·rw[ajO O];refine vs ?_;exact⟨by rw[ajO Z];rfl,aj.refl _ _⟩
theorem aab(y:0<=cap/\cap<=65536)(hm:mo<=4294967295)(h:bX H 1 (.slice a n c) n (u8s ns))(j:n<=c)(m:∀c∈ns,c<256)(t:n<=2000):
  aF 20 [BO kd dd,i64 cap,.int .u32 (mo:Int),.slice a n c] H fun v J=>ak (af H J/\∃w n fp,v= .tuple [w,i64 (B4 kd dd mo)].toArray/\Sl J 6 w n (if B4 kd dd mo=0 then fS (NE ⟨jD cap,uO cap mo,0⟩ (rl ns))else[]) fp):=by
 refine aT aao ?_;refine vs ?_;have z:af H (H.new 23 [i64 kd,i64 dd]):=bD;have b0:(H.new 23 [i64 kd,i64 dd]).own H.size=some [i64 kd,i64 dd]:=am _ _ _;generalize H.new 23 [i64 kd,i64 dd]=q at*;refine cZ.intro (fun J=>J.own H.size=some [i64 kd,i64 dd]) b0 ?_;refine vs ?_;refine bG.intro (BO kd dd) (fun J g=>?_) ?_
 ·refine v1 (ae g) ?_;trivial
 refine vs ?_;refine(vN (h.fresh z) j m t).mono ?_;rintro w o ⟨x,fp,s1⟩;have B:ns.length=n:=by have:=h.1;rw[sw]at this;omega
 refine⟨x.own b0 (fun h=>h),?_⟩;obtain⟨u,c',rfl⟩:=bX.Dh s1.rd;refine vs ?_;refine(aak y hm s1.rd (fun r d=>(aaE ns.length ns (ajU _) m r d).1.1) (by grind [aae])).mono ?_;rintro _ f ⟨l,w,p,e,rfl,s2⟩;refine⟨l.own (x.own b0 (fun h=>h)) (fun h=>h),?_⟩;refine vs ?_;exact⟨(z.trans x).trans l,w,p,e,rfl,s2⟩
theorem aa1{rows:List (List Value)}(h:∀r∈rows,lP MA [.i .i64,.i .u32,.i .u32,.i .i64] r):∃rs:List R,rows.flatten=is rs/\rs.length=rows.length/\∀r∈rs,r.a8:=by
 induction rows with
 |nil=>exact⟨[],rfl,rfl,Z⟩
 |cons x rows t=>
  obtain⟨rs,j,e,d⟩:=t Z;obtain⟨_,_,rfl,⟨op,rfl,w⟩,_,_,rfl,⟨a,rfl,g⟩,_,_,rfl,⟨b,rfl,y⟩,_,_,rfl,⟨k,rfl,z⟩,rfl⟩:=h x Z;have n:IntKind.i64.min= -9223372036854775808:=rfl;have m:IntKind.i64.max=9223372036854775807:=rfl;have c:IntKind.u32.min=0:=rfl;have v:IntKind.u32.max=4294967295:=rfl;simp only[Lit.wf,aki,ak1,n,m,c,v]at w g y z;refine⟨⟨op,a.toNat,b.toNat,k⟩::rs,?_,by simp[e],fun r l=>?_⟩
  ·grind [l7,vd]
  ·rcases akk.1 l with rfl|l
   ·exact⟨⟨Z,Z,z.1,z.2⟩,w.1,w.2⟩
   grind
theorem aaQ{rows:List (List Value)}(h:∀r∈rows,lP MA [.i .u8] r):∃ns:List Nat,rows.flatten=u8s ns/\ns.length=rows.length/\∀c∈ns,c<256:=by
 induction rows with
 |nil=>exact⟨[],rfl,rfl,Z⟩
 |cons x rows m=>
  obtain⟨ns,v,l,e⟩:=m Z;obtain⟨_,_,rfl,⟨n,rfl,a⟩,rfl⟩:=h x Z;have z:IntKind.u8.min=0:=rfl;have w:IntKind.u8.max=255:=rfl;simp only[Lit.wf,aki,ak1,z,w]at a;refine⟨n.toNat::ns,?_,by simp[l],fun c g=>?_⟩
  ·grind [u8s]
  grind
theorem r9{x:Hp}(he:uP x){v0 v1:Value}(g:zL x (true,[.k (.i .i64),.k (.i .i64),.k (.i .u8),.k (.i .u32)]) v0)(N:zL x (false,[.sl [.i .u8]]) v1):aF 7 [v0,v1] x fun v J=>ak (v= .bool true/\af x J):=by
 obtain⟨kd,dd,z,mo,rfl,hcp,hmo⟩:=Lm g;obtain⟨rows,p,U,hrl,a,c,rfl,d⟩:=aaL N;obtain⟨ns,A,j,q⟩:=aaQ U;rw[A,<-j]at p;rw[<-j]at d ⊢;clear A j U N hrl;refine aT vS ?_;refine vs ?_;have C:af x (x.new 26 [i64 kd,i64 dd,.int .u8 (z:Int),.int .u32 (mo:Int)]):=bD;have V:(x.new 26 [i64 kd,i64 dd,.int .u8 (z:Int),.int .u32 (mo:Int)]).own x.size=some [i64 kd,i64 dd,.int .u8 (z:Int),.int .u32 (mo:Int)]:=am _ _ _;generalize x.new 26 [i64 kd,i64 dd,.int .u8 (z:Int),.int .u32 (mo:Int)]=H0 at*;refine(to (he.fresh C)).mono ?_;rintro _ I ⟨rfl,K⟩;have c3:=K.own V (fun h=>h);have f:=C.trans K;refine vs ?_;refine ai.dec (fun E=>?_) (fun E=>?_)<;>refine v1 (ae c3) ?_
 ·exact⟨rfl,f⟩
 refine(AJ I kd dd hcp hmo).mono ?_;rintro _ l ⟨rfl,G⟩;refine vs ?_;obtain⟨D,P,z5⟩:=oz l 23 [.int .i64 0,.int .i64 0] [i64 kd,i64 dd];generalize (l.new 23 [.int .i64 0,.int .i64 0]).wr l.size [i64 kd,i64 dd]=H5 at*;have u:=(f.trans G).trans D;refine v1 (ae P) ?_;refine(aab O O (p.fresh u) d q O).mono ?_;rintro _ H6 ⟨T,w,n6,fp6,rfl,s6⟩;have t:=T.own P (fun h=>h);have H:=u.trans T;refine vs ?_;refine cZ.intro (fun J=>J.own l.size=some [i64 kd,i64 dd]) t ?_;refine vs ?_;refine bG.intro (BO kd dd) (fun J X=>?_) ?_
 ·refine v1 (ae X) ?_;trivial
 refine vs ?_;refine(F9 (p.fresh H) d q O).mono ?_;rintro _ H7 ⟨m,fp7,W⟩;have B:=H.trans m;refine And.intro (m.own t (fun h=>h)) ?_;obtain⟨a7,c7,rfl⟩:=bX.Dh W.rd;refine vs ?_;refine(aai O O W.rd (fun r hr=>(aaE ns.length ns (ajU _) q r hr).1.1) (by rw[aae ns.length ns (ajU _)];omega)).mono ?_;rintro _ H8 ⟨e,w',n8,fp8,rfl,o⟩;refine And.intro (e.own (m.own t (fun h=>h)) (fun h=>h)) ?_;have y:=s6.ext (m.trans e) (fun _ _ h=>h);have hdl:=aae ns.length ns (ajU _);obtain⟨L,Q⟩:∃L:List Rp,(if B4 kd dd mo=0 then fS (NE ⟨jD ((z%30:Nat):Int),uO ((z%30:Nat):Int) mo,0⟩ (rl ns))else[])=fS L/\L.length<=60/\(B4 kd dd mo=0->L.length=(rl ns).length):=by
  split
  ·exact⟨_,rfl,by rw[PM];omega,fun _=>PM ..⟩
  ·rename_i h;exact⟨[],rfl,by simp,fun M=>absurd M h⟩
 rw[Q.1]at y o;have n6L:n6=L.length:=by have:=y.1;rw[R9]at this;omega
 have n8L:n8=L.length:=by have:=o.1;rw[R9]at this;omega
 subst n6L n8L;have hL3:=Q.2.2;refine v1 ajZ ?_;refine(aaa y.rd o.rd O O).mono ?_;rintro _ H9 ⟨rfl,F⟩;obtain⟨wa,wc,rfl⟩:=bX.Dh y.rd;refine v1 ajZ ?_;refine ai.dec (fun g=>?_) (fun g=>?_)<;>refine vs ?_
 ·have hq:IntKind.i64.wrap ((IntKind.i64.wrap ((ns.length:Int)+16)).tdiv 17)=(L.length:Int):=by
   rw[wrap64 (n:=(ns.length:Int)+16) O O,ak0 O,wrap64 O O,hL3 g,hdl];omega
  rw[if_neg (by decide),hq];refine v1 ajZ ?_;exact⟨rfl,(B.trans e).trans F⟩
 ·exact⟨rfl,(B.trans e).trans F⟩
end
end Go.Proofs.YtjkkkibiegfecaaGreatDoor
