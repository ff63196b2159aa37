/- Texts put behind each other. -/
import Derived.Test.YtnanofhkpglbaaaGreatDoorK35
set_option linter.unusedSimpArgs false
set_option linter.unusedVariables false
set_option maxRecDepth 100000
set_option maxHeartbeats 80000000
namespace Go.Proofs.YtnanofhkpglbaaaGreatDoor
open Go Go.Vc
variable{H J:Hp}{a:Option Addr}{v:Value}{xs:List Value}{x kd dd:Int}{j:Nat}
abbrev Lw:Shape:=.s [(0,(none,.int)),(1,(none,.int))]
def sP(H:Hp)(b:Nat)(L:List ((Int×Nat)×Value)):Prop:=∃es k,H.mp b=some (es,k)/\es.map (fun e=>(e.key,e.val))=L.map (fun p=>(dZ p.1.1 p.1.2,p.2))/\(L.map (·.1)).Nodup
theorem sP.new(H:Hp):sP H.gD H.size []:=⟨[],0,GX H,rfl,amy⟩
theorem sP.ext{b:Nat}{L:List ((Int×Nat)×Value)}{S:Nat->Prop}(h:sP H b L)(e:aj S H J)(a:¬S b):sP J b L:=by
 obtain⟨es,k,x,z⟩:=h;exact⟨es,k,e.mp x a,z⟩
theorem sP.lt{b:Nat}{L:List ((Int×Nat)×Value)}(h:sP H b L):b<H.size:=by
 obtain⟨es,k,x,z⟩:=h;exact Mf x
theorem RS(a b:Int×Nat):tJ Lw (dZ a.1 a.2) (dZ b.1 b.2)=some (decide (a=b)):=by
 obtain⟨x,g⟩:=a;obtain⟨y,h⟩:=b;simp only[tJ,pw,Lx,alN,amj,cH,if_pos rfl];by_cases e:x=y
 ·by_cases z:g=h
  ·grind
  ·have:¬ ((g:Int)=(h:Int)):=O;simp_all
 simp_all
theorem Gw(a:Int×Nat):∀ (es:List MapEntry) (L:List ((Int×Nat)×Value)),es.map (fun e=>(e.key,e.val))=L.map (fun p=>(dZ p.1.1 p.1.2,p.2))->(L.map (·.1)).Nodup->∀n:Nat,
  (a∉L.map (·.1)->fG Lw (dZ a.1 a.2) es n=some none)/\(∀v,(a,v)∈L->∃j,fG Lw (dZ a.1 a.2) es n=some (some (j,v))):=by
 intro es;induction es with
 |nil=>
  intro L z _ n;cases L with
  |nil=>exact⟨fun _=>rfl,Z⟩
  |cons p L=>grind
 |cons e es o=>
  intro L z y n;cases L with
  |nil=>grind
  |cons p L=>
   rw[alM,alM]at z;injection z with x r;injection x with x f;rw[alM,alo]at y;have m:tJ Lw (dZ a.1 a.2) e.key=some (decide (a=p.1)):=by rw[x];exact RS a p.1
   obtain⟨u,B⟩:=o L r y.2 (n+1);refine⟨fun t=>?_,fun v d=>?_⟩
   ·rw[alM,alF,not_or]at t;rw[fG,m,alc t.1];grind
   ·by_cases c:a=p.1
    ·rw[fG,m,ale c];rcases alF.1 d with h|h
     ·refine⟨n,?_⟩;grind
     grind
    ·rw[fG,m,alc c];grind
theorem Gx(x:Int)(g:Nat):yA Lw (dZ x g)=true:=rfl
theorem sP.look{b:Nat}{L:List ((Int×Nat)×Value)}(h:sP H b L){a:Int×Nat}(e:(a,v)∈L){F:Option Value->Prop}(m:F (some v)):uJ H Lw (some b) (dZ a.1 a.2) F:=by
 obtain⟨es,k,x,z,n⟩:=h;unfold uJ;simp only[x,ly];obtain⟨j,c⟩:=(Gw a es L z n 0).2 v e;rw[c];exact m
theorem sP.TH{b:Nat}{L:List ((Int×Nat)×Value)}(h:sP H b L){a:Int×Nat}(e:a∉L.map (·.1)){F:Hp->Prop}(c:∀J,sP J b (L++[(a,v)])->aj (fun x=>x=b) H J->F J):OO H Lw b (dZ a.1 a.2) v F:=by
 obtain⟨es,k,z,n,m⟩:=h;unfold OO;simp only[z,ly];rw[(Gw a es L n m 0).1 e];refine⟨rfl,c _ ⟨_,_,jQ z,by simp[Ix,n],?_⟩ ((aj.refl (fun x=>x=b) H).AO (fun _=>rfl) _ _)⟩;grind
def wS:Nat->Nw
 |0=>(iU 2).make
 |i+1=>(wS i).put i (1,2 - i,(i:Int)+1)
def aS:Nat->Ar
 |0=>sM 2 4294967295
 |i+1=>match(aS i).pick with
  |some (x,A)=>A.out x
  |none=>aS i
def LS(i:Nat):List ((Int×Nat)×Value):=(List.range i).map fun(j:Nat)=>(((j:Int),1),i64 j)
def wX:Nat->Nw
 |0=>wS 2
 |j+1=>(wX j).put (1 - j) (0,0,0)
def aX:Nat->Ar
 |0=>aS 2
 |j+1=>(aX j).back (1 - j)
def Wv(j:Nat):List Int:=(List.range j).map fun(i:Nat)=>1 - (i:Int)
theorem RT{i:Nat}(h:i<2):∃A,(aS i).pick=some ((i:Int),A)/\A.out i=aS (i+1)/\(aS i).be i=0:=by
 have:i=0\/i=1:=O;rcases this with rfl|rfl<;>exact⟨_,rfl,rfl,rfl⟩
theorem UH{i:Nat}(h:i<2):((i:Int),0+1)∉ (LS i).map (·.1):=by
 have:i=0\/i=1:=O;rcases this with rfl|rfl<;>decide
theorem PT(c:j<2){y:Ce}(h:(wX j).first 1 x)(t:(wX j).cs[x.toNat]? =some y):x=1 - j:=by
 obtain⟨_,r,⟨e,z⟩,hm⟩:=h;have m:(wX j).cs.length=2:=by
  have:j=0\/j=1:=O;rcases this with rfl|rfl<;>rfl
 have v:=(ak8.1 z).1;have a:x=0\/x=1:=O;have:j=0\/j=1:=O;rcases this with rfl|rfl<;>rcases a with rfl|rfl
 ·exact absurd (hm 1 O ⟨_,rfl⟩ O) (by decide)
 ·rfl
 ·rfl
 ·have n:(wX 1).cs[(1:Int).toNat]? =some (0,0,0):=rfl;grind
theorem UI(x:j<2):(aX j).be (1 - j)=1/\(((1 - (j:Int)),1),i64 (1 - (j:Int)))∈LS 2:=by
 have:j=0\/j=1:=O;rcases this with rfl|rfl
 ·exact⟨rfl,alQ.2 Z⟩
 ·exact⟨rfl,alQ.2 Z⟩
theorem An(hf:dP kd dd){c:Nat}(hr:bD H 1 (.slice a 2 c) 2 (([2,1]:List Int).map i64)):
  aD 180 [xY kd dd,.slice a 2 c,i64 2] H fun v J=>ak (∃v' fp,v= .tuple [v',i64 0].toArray/\Sl J 1 v' 2 ((Wv 2).map i64) fp/\(∀b,fp=some b->H.size<=b)/\af H J):=by
 refine aL Hm ?_;refine vs ?_;have f0:af H (H.new 26 [i64 kd,i64 dd]):=bm;generalize H.new 26 [i64 kd,i64 dd]=H0 at*;refine(DV hf (n:=2) O H0).mono ?_;rintro _ H1 ⟨s,S,rfl,m1,f1,V⟩;refine vs ?_;refine ai.dec (fun _=>?_) (fun h=>absurd trivial h);refine vs ?_;refine ai.dec (fun h=>O) (fun _=>?_);refine vs ?_;refine ai.dec (fun h=>O) (fun _=>?_);refine vs ?_;have g1:=f0.trans f1;have z1:=g1.size;have V:∀z,S z->H.size<=z:=fun z P=>alw f0.size (V z P);have f2:af H1 H1.gD:=(aj.refl _ _).gD;have X:=sP.new H1;have n2:¬S H1.size:=fun h=>by have:=m1.slt _ h;omega
 have m2:=m1.ext f2 (fun _ _ h=>h);have g2:=g1.trans f2;generalize H1.size=mp at*;generalize H1.gD=H2 at*;clear m1 f1 f0 g1 f2;refine ba.intro (fun mm env J=>∃ (i:Nat) (t:Nat->Prop),mm=2 - i/\i<=2/\j0 J s t (wS i) (aS i) (i:Int)/\sP J mp (LS i)/\¬t mp/\af H J/\(∀z,t z->H.size<=z)/\
  env=[(2,i64 2),(8,ptr s),(10,.map (some mp)),(38,.slice a 2 c),(39,i64 2),(40,i64 i)]) 2 ⟨0,S,O,O,m2,X,n2,g2,V,rfl⟩ ?_
 clear m2 X n2 g2 V;rintro mm env H3 ⟨i,S3,rfl,hi,F,f,U,m,K,rfl⟩;have z3:=m.size;have l3:=f.lt;refine vs ?_;refine ai.dec (fun W=>?_) (fun W=>?_)<;>refine vs ?_
 ·have Kk:i<2:=O;have hx:([2,1]:List Int)[i]? =some (2 - (i:Int)):=by
   have:i=0\/i=1:=O;grind
  obtain⟨_,b,o,lb,rfl,Mu,Pe⟩:=bD.num (hr.fresh m) hx;refine⟨O,?_⟩;refine v4 Mu Int.toNat_natCast ala Pe ?_;obtain⟨A2,p1,X,p4⟩:=RT Kk;have C:(wS i).has 1/\∀x:Int,0<=x->x< (aS i).g.length->(aS i).be x<4294967295:=by
   have:i=0\/i=1:=O;rcases this with rfl|rfl<;>refine⟨⟨O,rfl⟩,fun x h0 (h1:x<2)=>?_⟩<;>(have:x=0\/x=1:=by omega)<;>rcases this with rfl|rfl<;>decide
  refine(sD F C.1 C.2 O).mono ?_;rintro _ p (⟨kV,_⟩| ⟨y,A',I,rfl,u,D,r,Lj⟩)
  ·rw[p1]at kV;cases kV
  rw[p1]at I;injection I with I;injection I with e1 e2;subst e1 e2;rw[X]at D;have p4':=f.ext r U;have g4:=m.then r K;have z4:=r.size;have n4:¬u mp:=Z;refine vs ?_;rw[p4];obtain⟨d,b5,z5⟩:=lR p 52 cB [i64 i,Value.int .u32 ((0+1:Nat):Int)];generalize (p.new 52 cB).wr p.size [i64 i,Value.int .u32 ((0+1:Nat):Int)]=H5 at*;have M:=D.ext d (fun _ _ h=>h);have p5:=p4'.ext d (fun h=>h);have g5:=g4.trans d;refine v1 (ae b5) ?_;refine⟨Gx _ _,?_⟩;refine sP.TH p5 (a:=((i:Int),0+1)) (UH Kk) fun H6 p6 B=>?_;refine vs ?_;rw[wrap64 (n:=(i:Int)+1) O O];refine⟨2 - (i+1),O,i+1,u,rfl,O,M.ext B Z,by unfold LS at p6 ⊢;rw[amB,alG];exact p6,n4,g5.then B Z,fun z P=>?_,rfl⟩;grind
 obtain rfl:i=2:=O;refine ba.intro (fun mm env J=>∃ (j:Nat) (t:Nat->Prop) (E:Value) (of:Option Nat),mm=2 - j/\j<=2/\j0 J s t (wX j) (aX j) ((2:Nat):Int)/\sP J mp (LS 2)/\¬t mp/\Sl J 1 E j ((Wv j).map i64) of/\(∀b,of=some b->H.size<=b/\¬t b/\b≠mp)/\af H J/\(∀z,t z->H.size<=z)/\
  env=[(8,ptr s),(10,.map (some mp)),(15,E),(55,i64 2),(56,i64 j)]) 2 ⟨0,S3,_,none,O,O,F,f,U,Sl.nil _ _,by simp,m,K,rfl⟩ ?_
 clear F f U m K z3 l3 W hi;rintro mm env H3 ⟨j,S3,E,of,rfl,hj,F,f,U,o3,d3,m,K,rfl⟩;have z3:=m.size;have l3:=f.lt;refine vs ?_;refine ai.dec (fun W=>?_) (fun W=>?_)<;>refine vs ?_
 ·have Pd:j<2:=O;have C:(wX j).has 1/\(wX j).len 1≠0:=by
   have:j=0\/j=1:=O;rcases this with rfl|rfl<;>exact⟨⟨O,rfl⟩,by decide⟩
  refine(lT F C.1).mono ?_;rintro _ p (⟨h0,_⟩| ⟨x,y,hx,hy,rfl,u,D,r,Lj⟩)
  ·exact absurd h0 C.2
  obtain rfl:=PT Pd hx hy;obtain⟨Wf,hm⟩:=UI Pd;have p4:=f.ext r U;have g4:=m.then r K;have z4:=r.size;have n4:¬u mp:=Z;have o4:=o3.ext r Z;have hol:∀b,of=some b->b<H3.size:=fun b hb=>by subst hb;exact o3.lt
  rw[Wf];refine vs ?_;obtain⟨d,b5,z5⟩:=lR p 52 cB [i64 (1 - (j:Int)),Value.int .u32 ((1:Nat):Int)];generalize (p.new 52 cB).wr p.size [i64 (1 - (j:Int)),Value.int .u32 ((1:Nat):Int)]=H5 at*;have M:=D.ext d (fun _ _ h=>h);have p5:=p4.ext d (fun h=>h);have g5:=g4.trans d;have o5:=o4.ext d (fun _ _ h=>h);refine v1 (ae b5) ?_;refine⟨Gx _ _,?_⟩;refine sP.look p5 (a:=(1 - (j:Int),1)) hm ?_;refine vs ?_;have L:af H5 (H5.new 3 [i64 (1 - (j:Int))]):=bm;refine Sl.append (o5.ext L (fun _ _ h=>h)) (Sl.bs (size:=1) (n:=1) (xs:=[i64 (1 - (j:Int))]) rfl rfl).rd rfl (tw [1 - (j:Int)]) O fun v' H6 Ii s6 B hf6=>?_;refine vs ?_;rw[wrap64 (n:=(j:Int)+1) O O];have zl:=L.size;have Hv:∀z,u z->z<H5.size:=fun z P=>M.slt z P;refine⟨2 - (j+1),O,j+1,u,v',Ii,rfl,O,(M.ext L (fun _ _ h=>h)).ext B (fun z P e=>?_),(p5.ext L (fun h=>h)).ext B Z,n4,?_,fun b hb=>?_,(g5.trans L).then B Z,fun z P=>?_,rfl⟩
  ·grind
  ·rw[show Wv (j+1)=Wv j++[1 - (j:Int)] by unfold Wv;rw[amB,alG];rfl,alG,List.map_singleton];exact s6
  ·grind
  grind
 obtain rfl:j=2:=O;exact⟨E,of,rfl,o3,Z,m⟩
theorem BP(e:dP kd dd){c:Nat}(y:bD H 1 (.slice a 2 c) 2 (([2,1]:List Int).map i64)):
  aD 178 [xY kd dd,.slice a 2 c] H fun v J=>ak (∃x fp,v= .tuple [x,i64 0].toArray/\Sl J 1 x 2 ((Wv 2).map i64) fp/\(∀b,fp=some b->H.size<=b)/\af H J):=by
 refine aL Ji ?_;refine vs ?_;have h:af H (H.new 26 [i64 kd,i64 dd]):=bm;generalize H.new 26 [i64 kd,i64 dd]=H0 at*;refine(An e (bD.fresh y h)).mono ?_;rintro _ t ⟨x,fp,rfl,s1,z,n⟩;refine vs ?_;exact⟨x,fp,rfl,s1,fun b m=>alw h.size (z b m),h.trans n⟩
theorem bD.str{n c:Nat}{ws:List (List UInt8)}(h:bD H 1 (.slice a n c) n (ws.map aA)){i:Nat}{x:List UInt8}(t:ws[i]? =some x):
  i<n/\∃b o lb,a=some ⟨b,o,none⟩/\H.rd b=some lb/\lb[o+i]? =some (aA x):=by
 obtain⟨z,y⟩:=h;rw[alA,ala]at z;have hi:i<ws.length:=by
  rcases al1 i ws.length with h|h
  ·exact h
  ·grind
 refine⟨O,?_⟩;rcases y with ⟨p,_⟩| ⟨b,o,r,l,v,m,d,B⟩
 ·omega
 ·injection v with e f u;refine⟨b,o,l,e,m,?_⟩;have j:(ws.map aA)[i]? =some (aA x):=by rw[alz,t];rfl
  grind
theorem bD.Gb{n c:Nat}(h:bD H 1 (.slice a n c) n xs)(r:n≠0):∀x,a=some x->x.block<H.size:=fun x e=>by
 obtain⟨_,⟨t,_⟩| ⟨b,o,y,l,v,m,_⟩⟩:=h
 ·omega
 ·injection v with z;rw[e]at z;injection z with z;rw[z];exact Ge m
theorem bD.off{n c:Nat}{S:Nat->Prop}(h:bD H 1 (.slice a n c) n xs)(e:aj S H J)(j:n≠0->∀x,a=some x->¬S x.block):bD J 1 (.slice a n c) n xs:=by
 obtain⟨z,h| ⟨b,o,v,l,m,r,y⟩⟩:=h
 ·exact⟨z,.inl h⟩
 ·by_cases t:n=0
  ·exact⟨z,Z⟩
  ·have d:=m;injection d with p;exact⟨z,.inr ⟨b,o,v,l,m,e.rd r (j t _ p),y⟩⟩
theorem DW{n c:Nat}{ws:List (List UInt8)}(h:bD H 1 (.slice a n c) n (ws.map aA))(e:1<=n)(r:n<=c):
  ∃m c',Value.slice (if(c:Int)=1 then a else Option.map (fun x=>x.add (Int.toNat 1*1)) a) ((n:Int).toNat - Int.toNat 1) ((c:Int).toNat - Int.toNat 1)= .slice m (n - 1) c'/\
   bD H 1 (.slice m (n - 1) c') (n - 1) (ws.tail.map aA)/\n - 1<=c'/\∀x,m=some x->∃y,a=some y/\x.block=y.block:=by
 refine⟨_,_,rfl,?_,O,fun x z=>?_⟩;rotate_left
 ·split at z
  ·grind
  ·cases a with
   |none=>cases z
   |some y=>injection z with z;exact⟨y,rfl,by rw[<-z];rfl⟩
 have t:=h.1;rw[alA,ala]at t;have v:=bD.sub h (lo:=1) (hi:=n) e (alj _) (c':=c - 1) (b':=if(c:Int)=1 then a else Option.map (fun x=>x.add (Int.toNat 1*1)) a) Z;rw[ala,ala,alW Z,List.drop_one,<-List.map_tail]at v;exact v
theorem Ly{n:Nat}{fp:Option Nat}(h:Sl H 1 v n xs fp):∃a c,v= .slice a n c/\n<=c:=by
 obtain⟨_,h⟩:=h;grind
def nj(i:Nat):Int×Int:=if i=0 then(1,0)else if i<=15 then(2,(i:Int)+1)else((i:Int) - 13,0)
def PU(n:Nat):List Value:=(List.range n).flatMap fun i=>[i64 (nj i).1,i64 (nj i).2]
theorem yB(n:Nat):PU (n+1)=PU n++[i64 (nj n).1,i64 (nj n).2]:=by unfold PU;rw[amB,List.flatMap_append,List.flatMap_singleton]
theorem NF{i:Nat}(h:i<22):dP (nj i).1 (nj i).2:=by unfold nj dP;grind
theorem UJ(a b:Int):dK [i64 a,i64 b]:=fun v x=>by
 simp only[alF,List.not_mem_nil,or_false]at x;rcases x with rfl|rfl<;>rfl
theorem PV{n B:Nat}{w:Value}{fp:Option Nat}{K:Value->Hp->Prop}(r:∀b,fp=some b->B<=b)(u:B<=H.size)(s:Sl H 2 w n xs fp)(x y:Int)(P:n<=1000000000)
  (d:∀w' J c,(∀b,c=some b->B<=b)->Sl J 2 w' (n+1) (xs++[i64 x,i64 y]) c->aj (fun z=>B<=z) H J->K w' J):
  eh 26 2 16 [i64 0,i64 0] w (.slice (some ⟨H.size,0,none⟩) 1 1) (H.new 26 [i64 x,i64 y]) K:=by
 have m:af H (H.new 26 [i64 x,i64 y]):=bm;refine Sl.append (s.ext m (fun _ _ h=>h)) (Sl.bs (size:=2) (n:=1) (xs:=[i64 x,i64 y]) rfl rfl).rd rfl (UJ x y) O ?_;intro f J c o e j;have v:=m.size;refine d f J c (fun b a=>?_) o ⟨alw v e.size,fun z v p=>?_⟩
 ·rcases j with h| ⟨b',h,t,_⟩
  ·exact r b (by rw[<-h];exact a)
  ·rw[h]at a;injection a with a;subst a;have t:(H.new 26 [i64 x,i64 y]).size<=b':=t;omega
 ·rw[e.aW z (by have:=m.size;omega) (fun h=>p (r z h)),m.aW z v (fun h=>h)]
theorem Ao(H:Hp):aD 6 [] H fun v J=>ak (∃fp,Sl J 2 v 22 (PU 22) fp/\(∀b,fp=some b->H.size<=b)/\af H J):=by
 refine aL EP ?_;refine vs ?_;have r:af H (H.new 26 [i64 1,i64 0]):=bm;have s0:Sl (H.new 26 [i64 1,i64 0]) 2 (.slice (some ⟨H.size,0,none⟩) 1 1) 1 (PU 1) (some H.size):=Sl.bs (size:=2) (n:=1) (xs:=[i64 1,i64 0]) rfl rfl;generalize H.new 26 [i64 1,i64 0]=H0 at*;refine ba.intro (fun mm env J=>∃ (d:Nat) (v:Value) (fp:Option Nat),mm=17 - d/\2<=d/\d<=17/\Sl J 2 v (d - 1) (PU (d - 1)) fp/\(∀b,fp=some b->H.size<=b)/\af H J/\env=[(1,v),(2,i64 d)]) 15 ⟨2,_,_,rfl,O,O,s0,Z,r,rfl⟩ ?_;clear s0 r;rintro mm env o ⟨d,v,fp,rfl,p,j,s1,a,x,rfl⟩;refine vs ?_;refine ai.dec (fun m=>?_) (fun m=>?_)<;>refine vs ?_
 ·refine PV a x.size s1 2 d O fun w' f y c t e=>?_;refine vs ?_;rw[wrap64 (n:=(d:Int)+1) O O];refine⟨17 - (d+1),O,d+1,w',y,rfl,O,O,?_,c,x.then e (fun z h=>h),rfl⟩;rw[show d+1 - 1=(d - 1)+1 by omega,yB,show nj (d - 1)=(2,(d:Int)) by unfold nj;grind];exact t
 obtain rfl:d=17:=O;refine ba.intro (fun mm env J=>∃ (k:Nat) (v:Value) (fp:Option Nat),mm=9 - k/\3<=k/\k<=9/\Sl J 2 v (k+13) (PU (k+13)) fp/\(∀b,fp=some b->H.size<=b)/\af H J/\env=[(1,v),(3,i64 k)]) 6 ⟨3,_,_,rfl,O,O,s1,a,x,rfl⟩ ?_;clear s1 a x m p j;rintro mm env o ⟨k,v,fp,rfl,p,j,s1,a,x,rfl⟩;refine vs ?_;refine ai.dec (fun m=>?_) (fun m=>?_)<;>refine vs ?_
 ·refine PV a x.size s1 k 0 O fun w' f y c t e=>?_;refine vs ?_;rw[wrap64 (n:=(k:Int)+1) O O];refine⟨9 - (k+1),O,k+1,w',y,rfl,O,O,?_,c,x.then e (fun z h=>h),rfl⟩;rw[show k+1+13=(k+13)+1 by omega,yB,show nj (k+13)=((k:Int),0) by unfold nj;grind];exact t
 obtain rfl:k=9:=O;exact⟨fp,s1,a,x⟩
def cI(k d:Nat):Nat:=(List.range d).countP fun(j:Nat)=>decide (dP (k:Int) (j:Int))
def cO(k:Nat):Nat:=((List.range k).map fun q=>cI q 17).sum
theorem Mx(k d:Nat):cI k (d+1)=cI k d+(if dP (k:Int) (d:Int)then 1 else 0):=by unfold cI;rw[amB,amK];simp[List.countP_cons]
theorem My(k:Nat):cO (k+1)=cO k+cI k 17:=by unfold cO;rw[amB,alG,List.sum_append];simp
theorem S9(k d:Nat):cI k d<=d:=by unfold cI;exact alw amq (by simp)
theorem YD(k:Nat):cO k<=17*k:=by
 induction k with
 |zero=>simp[cO]
 |succ k x=>rw[My];have:=S9 k 17;omega
theorem Ap(H:Hp):aD 9 [] H fun v J=>ak (∃a c,v= .slice a 22 c/\af H J):=by
 refine aL ER ?_;refine vs ?_;refine ba.intro (fun mm env J=>∃ (k:Nat) (v:Value) (xs:List Value) (fp:Option Nat),mm=9 - k/\1<=k/\k<=9/\Sl J 2 v (cO k) xs fp/\(∀b,fp=some b->H.size<=b)/\af H J/\env=[(1,v),(2,i64 k)]) 8 ⟨1,_,[],none,rfl,O,O,(by rw[show cO 1=0 by decide];exact Sl.nil H 2),by simp,aj.refl _ _,rfl⟩ ?_;rintro mm env x ⟨k,v,xs,fp,rfl,D,E,s1,m,y,rfl⟩;refine vs ?_;refine ai.dec (fun U=>?_) (fun U=>?_)<;>refine vs ?_
 ·refine ba.intro (fun mm env J=>∃ (d:Nat) (v:Value) (xs:List Value) (fp:Option Nat),mm=17 - d/\d<=17/\Sl J 2 v (cO k+cI k d) xs fp/\(∀b,fp=some b->H.size<=b)/\af H J/\env=[(1,v),(2,i64 k),(9,i64 d)]) 17 ⟨0,v,xs,fp,rfl,O,s1,m,y,rfl⟩ ?_;clear s1 m y v xs fp;rintro mm env x ⟨d,v,xs,fp,rfl,M,s1,m,y,rfl⟩;refine vs ?_;refine ai.dec (fun F=>?_) (fun F=>?_)<;>refine vs ?_
  ·have C:af x ((x.new 26 [i64 0,i64 0]).wr x.size [i64 k,i64 d]):=(lR x _ _ _).1;have p:((x.new 26 [i64 0,i64 0]).wr x.size [i64 k,i64 d]).own x.size=some [i64 k,i64 d]:=(lR x _ _ _).2.1;generalize (x.new 26 [i64 0,i64 0]).wr x.size [i64 k,i64 d]=u at*;refine v1 (ae p) ?_;refine(eS k d u).mono ?_;rintro _ I ⟨rfl,o⟩;have B:=o.own p (fun h=>h);have f13:=C.trans o;have f:=s1.ext f13 (fun _ _ h=>h);have t:=y.trans f13;have hle:=YD k;have X:=S9 k d;refine vs ?_;refine ai.dec (fun r=>?_) (fun r=>?_)
   ·have j:dP k d:=xZ.1 r;refine v1 (ae B) ?_;refine PV m t.size f k d O fun w' V K P W L=>?_;refine vs ?_;rw[wrap64 (n:=(d:Int)+1) O O];refine⟨17 - (d+1),O,d+1,w',xs++[i64 k,i64 d],K,rfl,O,?_,P,t.then L (fun z h=>h),rfl⟩;rw[Mx,if_pos j,<-Nat.add_assoc];exact W
   ·have j:¬dP k d:=fun h=>r (xZ.2 h);refine vs ?_;rw[wrap64 (n:=(d:Int)+1) O O];refine⟨17 - (d+1),O,d+1,v,xs,fp,rfl,O,?_,m,t,rfl⟩;rw[Mx,if_neg j,Nat.add_zero];exact f
  ·obtain rfl:d=17:=O;rw[wrap64 (n:=(k:Int)+1) O O];refine⟨9 - (k+1),O,k+1,v,xs,fp,rfl,O,O,?_,m,y,rfl⟩;rw[My];exact s1
 ·obtain rfl:k=9:=O;have e:cO 9=22:=by decide
  rw[e]at s1;obtain⟨a,c,rfl,_⟩:=Ch s1;exact⟨a,c,rfl,y⟩
structure jg where
 w:Nw
 A:Ar
 q:Int
structure Rp where
 c:Int
 h:Int
 s:Int
 g:Nat
 k:Int
 n:Int
deriving DecidableEq
def er(c:Int):Rp:=⟨c,0,0,0,0,0⟩
abbrev HT(r:Rp):List Value:=[i64 r.c,i64 r.h,i64 r.s,.int .u32 (r.g:Int),i64 r.k,i64 r.n]
abbrev PW(r:Rp):Value:=.agg (HT r).toArray
open Classical in
noncomputable def Nw.y7(w:Nw)(g:Int):Option Int:=if h:∃x,w.first g x then some (Classical.choose h)else none
theorem PX{w:Nw}{g z:Int}(h:w.first g x)(n:w.first g z):z=x:=by
 obtain⟨_,m,c⟩:=bh.1 h;obtain⟨_,v,e⟩:=bh.1 n;apply alt;intro a;have:=(ar w).vk (c z v a);rw[e x m (Ne.symm a)]at this;cases this
theorem Lz{w:Nw}{g:Int}(h:w.first g x):w.y7 g=some x:=by
 unfold Nw.y7;rw[dif_pos ⟨x,h⟩];exact ald some (PX h (Classical.choose_spec (⟨x,h⟩:∃x,w.first g x)))
theorem PY{w:Nw}{g:Int}(h:w.len g=0):w.y7 g=none:=by
 unfold Nw.y7;rw[dif_neg];rintro⟨x,z⟩;have:=bh.1 z;exact(nX this.1).1 h x this.2.1
def Ar.yC(A:Ar)(x:Int)(g:Nat):Prop:=A.live x/\A.be x=g
instance(A:Ar)(x:Int)(g:Nat):Decidable (A.yC x g):=by unfold Ar.yC;exact inferInstance
noncomputable def eA(t:jg)(g:Int):Rp:=
 if¬t.w.has g then er 171 else match t.w.y7 g with
  |none=>er 172
  |some x=>⟨0,0,x,t.A.be x,t.w.key x,0⟩
def yD(t:jg)(x:Int):jg:=⟨t.w.put x (0,0,0),t.A.back x,t.q⟩
def FE(t:jg)(g k:Int):jg×Rp:=
 if¬t.w.has g then(t,er 171)else match t.A.pick with
  |none=>(t,er 32)
  |some (x,A')=>(⟨t.w.put x (g,k,t.q+1),A'.out x,t.q+1⟩,⟨0,0,x,t.A.be x+1,0,0⟩)
def DX(t:jg):jg×Rp:=if t.w.hs.length=65537 then(t,er 32)else(⟨t.w.make,t.A,t.q⟩,⟨0,t.w.hs.length,0,0,0,0⟩)
noncomputable def yE(t:jg)(g:Int):jg×Rp:=(if(eA t g).c=0 then yD t (eA t g).s else t,eA t g)
def FF(t:jg)(x:Int)(g:Nat)(k:Int):jg×Rp:=
 if¬t.A.yC x g then(t,er 33)else if t.w.key x<k then(t,er 173)else(⟨t.w.put x (aH t.w x,k,t.w.seq x),t.A,t.q⟩,er 0)
def FG(t:jg)(x:Int)(g:Nat):jg×Rp:=if¬t.A.yC x g then(t,er 33)else(yD t x,⟨0,0,0,0,t.w.key x,0⟩)
def FH(t:jg)(a b:Int):jg×Rp:=
 if¬ (t.w.has a/\t.w.has b)then(t,er 171)else if a=b then(t,er 174)else(⟨t.w.join a b,t.A,t.q⟩,er 0)
def JS(t:jg)(g:Int):Rp:=if¬t.w.has g then er 171 else⟨0,0,0,0,0,t.w.len g⟩
def JT(t:jg)(x:Int)(g:Nat):Rp:=if¬t.A.yC x g then er 33 else⟨0,0,0,0,t.w.key x,0⟩
def JU(t:jg)(x:Int)(g:Nat):Rp:=if¬t.A.yC x g then er 33 else⟨0,aH t.w x,0,0,0,0⟩
noncomputable def RU(t:jg)(op:Nat)(a b:Nat)(k:Int):jg×Rp:=
 match op with
 |1=>DX t
 |2=>FE t a k
 |3=>(t,eA t a)
 |4=>yE t a
 |5=>FF t a b k
 |6=>FG t a b
 |7=>FH t a b
 |8=>(t,JS t a)
 |9=>(t,JT t a b)
 |10=>(t,JU t a b)
 |_=>(t,er 181)
def jo(w:Nw)(g:Int)(i:Nat)(b:Int):Prop:=
 (b= -1/\∀x:Int,x<i->¬ (0<g/\aH w x=g))\/(0<=b/\b<i/\0<g/\aH w b=g/\∀x:Int,x<i->aH w x=g->x≠b->aU w b x=true)
section
variable {w : Nw} {g b : Int} {i : Nat}
theorem jo.skip(h:jo w g i b)(hi:¬ (0<g/\aH w i=g)):jo w g (i+1) b:=by
 rcases h with ⟨rfl,h⟩| ⟨x,z,a,n,m⟩
 ·exact .inl Z
 ·exact .inr Z
theorem jo.one(h:jo w g i (-1))(z:0<g)(hi:aH w i=g):jo w g (i+1) i:=by
 rcases h with ⟨_,h⟩| ⟨x,_⟩
 ·exact .inr Z
 ·omega
theorem jo.new(h:jo w g i b)(v:0<=b)(hi:aH w i=g)(t:aU w i b=true):jo w g (i+1) i:=by
 rcases h with ⟨rfl,_⟩| ⟨a,n,z,m,c⟩
 ·omega
 ·refine .inr ⟨O,O,z,hi,fun x j y r=>?_⟩;by_cases e:x=b
  ·grind
  ·exact(by grind [Nw.key,aU,Nw.seq])
theorem jo.old(h:jo w g i b)(v:0<=b)(hi:aH w i=g)(t:aU w i b≠true):jo w g (i+1) b:=by
 rcases h with ⟨rfl,_⟩| ⟨z,m,a,n,c⟩
 ·omega
 ·refine .inr ⟨z,O,a,n,fun x j y r=>?_⟩;by_cases e:x=i
  ·rw[e];exact(by grind [Nw.key,aU,Nw.seq])
  grind
theorem jo.y7(h:jo w g w.cs.length b):w.y7 g=if b<0 then none else some b:=by
 have t:∀x:Int,0<g->aH w x=g->x<w.cs.length:=fun x z a=>(aI (w:=w) (x:=x) O).2.1;rcases h with ⟨rfl,h⟩| ⟨m,c,v,e,y⟩
 ·rw[if_pos O];unfold Nw.y7;rw[dif_neg];rintro⟨x,n⟩;obtain⟨z,a,_⟩:=bh.1 n;grind
 grind [Lz,bh]
end
theorem DY{w:Nw}{A:Nat->Prop}(h:cm H v w A)(g:Int):aD 79 [v,i64 g] H fun r J=>ak ((r=match w.y7 g with|none=>.tuple [i64 0,.bool false].toArray|some x=>.tuple [i64 x,.bool true].toArray)/\af H J):=by
 have h':=h;obtain⟨p,f,y,a,rfl,h1,h2,h3,h4,a1,a2⟩:=h;refine aL Jb ?_;refine vs ?_;have j:af H (H.new 37 (dR w p f y a)):=bm;have o0:(H.new 37 (dR w p f y a)).own (H.size)=some (dR w p f y a):=by rw[am]
 generalize (H.new 37 (dR w p f y a))=H0 at*;refine ba.intro (fun m env c=>∃ (i:Nat) (b:Int),env=[(1,i64 g),(2,.pointer (some ⟨H.size,0,none⟩)),(6,i64 b),(10,.slice y w.cs.length a),(11,i64 w.cs.length),(12,i64 i)]/\af H0 c/\i<=w.cs.length/\m=w.cs.length - i/\jo w g i b) w.cs.length
  ⟨0, -1,rfl,aj.refl _ _,O,O,.inl ⟨rfl,fun x F hh=>by
   have:=(aI (w:=w) (x:=x) O).1;omega⟩⟩ ?_
 rintro m env c ⟨i,b,rfl,n,hi,rfl,z⟩;refine vs ?_;refine ai.dec (fun mj=>?_) (fun mj=>?_)<;>refine vs ?_
 ·obtain⟨x,F⟩:∃x,w.cs[i]? =some x:=⟨_,ak9 O⟩;obtain⟨U,o,l,rfl,E,c2,c3,c4,c5,c6,X,c8⟩:=bD.cell (h2.fresh (j.trans n)) F;have hxi:aH w i=x.1:=iO O F;refine⟨O,?_⟩;refine v2 E Int.toNat_natCast ?_;refine⟨O,?_⟩;refine v1 X ?_;obtain⟨L,M,z2⟩:=lR c 154 [.int .i64 0,.int .i64 0,.int .u64 0] [i64 x.1,i64 x.2.1,u64 x.2.2];generalize (c.new 154 [.int .i64 0,.int .i64 0,.int .u64 0]).wr c.size [i64 x.1,i64 x.2.1,u64 x.2.2]=D at*;have next:∀ (t:Hp) (b':Int),af D t->jo w g (i+1) b'->∃V,V<w.cs.length - i/\∃ (P:Nat) (b_1:Int),[(1,i64 g),(2,Value.pointer (some ⟨H.size,0,none⟩)),(6,i64 b'),(10,.slice (some ⟨U,o,none⟩) w.cs.length a),(11,i64 w.cs.length),(12,i64 ((i:Int)+1))]=[(1,i64 g),(2,.pointer (some ⟨H.size,0,none⟩)),(6,i64 b_1),(10,.slice (some ⟨U,o,none⟩) w.cs.length a),(11,i64 w.cs.length),(12,i64 P)]/\af H0 t/\P<=w.cs.length/\V=w.cs.length - P/\jo w g P b_1:=
   fun t b' d hb'=>⟨w.cs.length - (i+1),O,i+1,b',rfl,(n.trans L).trans d,O,rfl,hb'⟩
  by_cases u:0<g
  ·refine v2 (ale u) (ae M) ?_;by_cases W:x.1=g
   ·refine v1 (ale W) ?_;have C:aH w i=g:=O;refine ai.dec (fun N9=>?_) (fun N9=>?_)
    ·refine vs ?_;rw[wrap64 O O];have:b= -1:=by rcases z with ⟨e,_⟩| ⟨h,_⟩<;>omega
     exact next _ i (aj.refl _ _) ((this▸z:jo w g i (-1)).one u C)
    ·have o2:=L.own (n.own o0 (fun h=>h)) (fun h=>h);refine v1 (ae o2) ?_;refine(zK (((h'.fresh j).fresh n).fresh L) i b).mono ?_;rintro _ t ⟨rfl,d⟩;have La:cu w.cs b:=by
      rcases z with ⟨e,_⟩| ⟨_,_,h3,h4,_⟩
      ·omega
      ·exact bf.1 O
     rw[tA (bf.1 O) La];by_cases B:aU w i b=true
     ·rw[B];refine vs ?_;rw[wrap64 O O];exact next _ i d (z.new O C B)
     ·rw[eq_false_of_ne_true B];refine vs ?_;rw[wrap64 O O];exact next _ b d (z.old O C B)
   ·refine v1 (alc W) ?_;rw[wrap64 O O];exact next _ b (aj.refl _ _) (z.skip O)
  ·refine v1 (alc u) ?_;rw[wrap64 O O];exact next _ b (aj.refl _ _) (z.skip fun h=>u h.1)
 ·have I:=z;rw[show i=w.cs.length by omega]at I;rw[I.y7];refine ai.dec (fun K=>?_) (fun K=>?_)<;>refine vs ?_
  ·rw[if_pos K];exact⟨rfl,j.trans n⟩
  ·rw[if_neg K];exact⟨rfl,j.trans n⟩
end Go.Proofs.YtnanofhkpglbaaaGreatDoor
set_option maxHeartbeats 4000000
namespace Go.Proofs.YtnanofhkpglbaaaGreatDoor
open Go Go.Vc
section
variable{L:List (Int×Nat)}{n i c:Nat}{x:Int}{J:Hp}
abbrev eD(A:Ar)(h:Option Addr)(T:List (Int×Nat))(z:Nat)(x:Option Addr)(G:List (Int×Nat))(gc:Nat):List Value:=[i64 A.g.length,.int .u32 (A.mo:Int),.slice h T.length z,.slice x G.length gc]
def iq(L:List (Int×Nat)):List Value:=L.flatMap fun h=>[i64 h.1,.int .u32 (h.2:Int)]
theorem NG(L:List (Int×Nat)):(iq L).length=L.length*2:=by
 induction L with
 |nil=>rfl
 |cons c r x=>simp only[iq,amQ,alm,alk,alP]at*;omega
theorem NH(a b:List (Int×Nat)):iq (a++b)=iq a++iq b:=List.flatMap_append ..
theorem PZ(L:List (Int×Nat)):dK (iq L):=by
 induction L with
 |nil=>intro v x;cases x
 |cons a r h=>
  intro v x;rcases alF.1 x with rfl|x
  ·rfl
  ·rcases alF.1 x with rfl|x
   ·rfl
   ·exact h v x
theorem UK{y:Int×Nat}(hi:L[i]? =some y):(iq L)[i*2]? =some (i64 y.1)/\(iq L)[i*2+1]? =some (.int .u32 (y.2:Int)):=by
 induction L generalizing i with
 |nil=>grind
 |cons a r x=>
  have e:iq (a::r)=i64 a.1:: .int .u32 (a.2:Int)::iq r:=rfl;grind
theorem bD.dZ{H:Hp}{a:Option Addr}(h:bD H 2 (.slice a n c) n (iq L)){y:Int×Nat}(z:L[i]? =some y):
  ∃b o l,a=some ⟨b,o,none⟩/\H.rd b=some l/\i<n/\o+i*2+2<=l.length/\(l.drop (o+i*2)).take 2=[i64 y.1,.int .u32 (y.2:Int)]:=by
 have hi:=(ak8.1 z).1;have d:=NG L;obtain⟨r,j⟩:=UK z;obtain⟨B,⟨rfl,_,_,e⟩| ⟨b,o,c',l,e,t,f,u⟩⟩:=h
 ·omega
 ·injection e with m _ _;subst m;have get:∀k,k<n*2->l[o+k]? =(iq L)[k]? :=Z;have p:=(get (i*2) O).trans r;have x:=(get (i*2+1) O).trans j;rw[<-Nat.add_assoc]at x;have v:o+i*2+2<=l.length:=by have:=(ak8.1 x).1;omega
  refine⟨b,o,l,rfl,t,O,v,?_⟩;apply alB;grind
def EH(H:Hp)(l:List Value)(A:Ar)(T G:List (Int×Nat))(Bs:Nat->Prop)(N:Nat):Prop:=
 ∃z a h gc,l=(eD A z T a h G gc)/\bD H 2 (.slice z T.length a) T.length (iq T)/\bD H 2 (.slice h G.length gc) G.length (iq G)/\
  (∀x,z=some x->Bs x.block)/\(∀x,h=some x->Bs x.block)/\N0 A T G/\oF A/\T.length<=N/\G.length<=N
theorem P0(k s x h:Int):pw [(0,none,.int),(1,none,.int)] [i64 k,.int .u32 s] [i64 x,.int .u32 h]=some (decide (k=x/\s=h)):=by
 by_cases z:k=x<;>by_cases a:s=h<;>simp[pw,Vc.lK,tJ,cH,z,a]
theorem lZ{H:Hp}{a:Option Addr}(h:bD H 2 (.slice a L.length c) L.length (iq L))(hm:L.length<=100000)(x:Int)(g:Nat):
  aD 143 [.slice a L.length c,dZ x g] H fun v J=>ak (v= .bool (decide ((x,g)∈L))/\af H J):=by
 refine aL Je ?_;refine vs ?_;have t:af H (H.new 52 [i64 x,.int .u32 (g:Int)]):=bm;have b0:(H.new 52 [i64 x,.int .u32 (g:Int)]).own H.size=some [i64 x,.int .u32 (g:Int)]:=am _ _ _;generalize H.new 52 [i64 x,.int .u32 (g:Int)]=H0 at*;refine ba.intro (fun m env J=>af H0 J/\∃j:Nat,m=L.length - j/\j<=L.length/\(x,g)∉L.take j/\env=[(3,ptr H.size),(7,.slice a L.length c),(8,i64 L.length),(9,i64 j)]) L.length ⟨aj.refl _ _,0,O,O,by simp,rfl⟩ ?_;rintro m env n ⟨z,j,rfl,V,u,rfl⟩;have B:=z.own b0 (fun h=>h);refine vs ?_;refine ai.dec (fun F=>?_) (fun F=>?_)<;>refine vs ?_
 ·obtain⟨y,f⟩:∃y,L[j]? =some y:=⟨_,ak9 O⟩;obtain⟨b,o,l,rfl,K,I,c3,c4⟩:=bD.dZ (h.fresh (t.trans z)) f;refine⟨O,?_⟩;refine v2 K Int.toNat_natCast ?_;refine⟨O,?_⟩;refine v1 c4 ?_;obtain⟨r,P,D⟩:=lR n 52 cB [i64 y.1,.int .u32 (y.2:Int)];generalize (n.new 52 cB).wr n.size [i64 y.1,.int .u32 (y.2:Int)]=W at*;have C:=r.own B (fun h=>h);refine v3 (ae P) (ae C) P0 ?_;simp(disch:=(first|exact aV|fail)) only[go_sem, ↓reduceIte,Zv,Option.map_some];have U:L.take (j+1)=L.take j++[y]:=by rw[alq,f];rfl
  refine ai.dec (fun p=>?_) (fun p=>?_)<;>refine vs ?_
  ·have e:(x,g)∈L:=by
    have:=ali f;rwa[show y=(x,g)from Prod.ext p.1 O]at this
   exact⟨by rw[ale e];rfl,t.trans (z.trans r)⟩
  ·rw[wrap64 O O];refine⟨L.length - (j+1),O,z.trans r,j+1,rfl,O,?_,rfl⟩;rw[U,alu,alv];rintro(d|d)
   ·exact u d
   ·exact p (by rw[<-d];exact⟨rfl,rfl⟩)
 ·have e:(x,g)∉L:=by rwa[alW O]at u
  exact⟨by rw[alc e];rfl,t.trans z⟩
theorem Ta{H:Hp}{T:TypeId}{u:Value}{K:Value->Hp->Prop}(o:H.own n=some [])(r:bD H 2 u L.length (iq L))(d:L.length<=1000000)
  (m:∀w' J b,(b=n\/H.size<=b)->Sl J 2 w' L.length (iq L) (some b)->aj (fun z=>z=n) H J->K w' J):
  eh T 2 16 cB (.slice (some ⟨n,0,none⟩) 0 0) u H K:=by
 have s:Sl H 2 (.slice (some ⟨n,0,none⟩) 0 0) 0 [] (some n):=⟨rfl,[],0,rfl,o,O,by simp,rfl⟩;refine Sl.append s r rfl (PZ L) O fun c J t x h e=>?_;rw[ak7,alH]at x;have a:aj (fun z=>z=n) H J:=⟨h.size,fun z y p=>h.aW z y Z⟩;rcases e with rfl| ⟨b,rfl,v,j⟩
 ·exact m c J n (.inl rfl) x a
 ·exact m c J b (.inr v) x a
theorem Tb{H:Hp}{T:TypeId}{b:Nat}{w:Value}{h:Int×Nat}{K:Value->Hp->Prop}(s:Sl H 2 w L.length (iq L) (some b))(o:H.own n=some [i64 h.1,.int .u32 (h.2:Int)])(e:L.length<=1000000)
  (v:∀w' J b',(b'=b\/H.size<=b')->Sl J 2 w' (L++[h]).length (iq (L++[h])) (some b')->aj (fun z=>z=b) H J->K w' J):
  eh T 2 16 cB w (.slice (some ⟨n,0,none⟩) 1 1) H K:=by
 have r:bD H 2 (.slice (some ⟨n,0,none⟩) 1 1) 1 (iq [h]):=Sl.rd (fp:=some n) ⟨rfl,_,1,rfl,o,O,by simp,rfl⟩;refine Sl.append s r rfl (PZ [h]) O fun y J m x a c=>?_;rw[<-NH]at x;grind
theorem bT(H:Hp)(b:Nat)(l:List Value):aj (fun x=>x=b) H (H.wr b l):=(aj.refl (fun x=>x=b) _).wr (fun _=>rfl) _
section
variable {H : Hp} {l : List Value} {A : Ar} {T G : List (Int × Nat)} {Bs Q : Nat → Prop} {N : Nat}
theorem EH.ext(h:EH H l A T G Bs N)(e:aj Q H J)(t:∀b,Bs b->¬Q b):EH J l A T G Bs N:=by
 obtain⟨v,y,x,gc,rfl,z,a,n,m,c⟩:=h;exact⟨v,y,x,gc,rfl,bD.aW z e Z,bD.aW a e Z,n,m,c⟩
theorem EH.fresh(h:EH H l A T G Bs N)(e:af H J):EH J l A T G Bs N:=h.ext e fun _ _ h=>h
theorem EH.mono{B2:Nat->Prop}(h:EH H l A T G Bs N)(y:∀b,Bs b->B2 b):EH H l A T G B2 N:=by
 obtain⟨m,c,x,gc,rfl,z,a,v,e,n⟩:=h;exact⟨m,c,x,gc,rfl,z,a,Z,Z,n⟩
theorem fx(h:EH H l A T G Bs N)(L:N<=100000)(x:Int)(g:Nat):aD 82 [.agg l.toArray,dZ x g] H fun v J=>ak (v= .bool (decide (A.yC x g))/\af H J):=by
 obtain⟨n,m,a,gc,rfl,f,u,_,_,r,_,C,K⟩:=h;refine aL Hf ?_;refine vs ?_;have c:af H ((H.new 33 (eD A n T m a G gc)).new 52 [i64 x,.int .u32 (g:Int)]):=bm.new _ _;have b0:((H.new 33 (eD A n T m a G gc)).new 52 [i64 x,.int .u32 (g:Int)]).own H.size=some (eD A n T m a G gc):=by rw[ax (by simp only[ag];omega),am]
 have j:((H.new 33 (eD A n T m a G gc)).new 52 [i64 x,.int .u32 (g:Int)]).own (H.size+1)=some [i64 x,.int .u32 (g:Int)]:=az (by simp only[ag]);generalize (H.new 33 (eD A n T m a G gc)).new 52 [i64 x,.int .u32 (g:Int)]=H0 at*;refine(lZ (f.fresh c) O x g).mono ?_;rintro _ B ⟨rfl,z⟩;have d:=z.own b0 (fun h=>h);have p:=z.own j (fun h=>h);have t:=r.live x g;by_cases y:(x,g)∈T
 ·rw[ale y];refine v2 (ae d) (ae p) ?_;refine(lZ (u.fresh (c.trans z)) O x g).mono ?_;rintro _ P ⟨rfl,o⟩;refine vs ?_;refine⟨ald Value.bool ?_,c.trans (z.trans o)⟩;by_cases e:(x,g)∈G
  ·rw[ale e,alc (fun h:A.yC x g=>(t.2 ⟨h.1,h.2.symm⟩).2 e)];rfl
  ·have:=t.1 ⟨y,e⟩;rw[alc e,ale (show A.yC x g from⟨this.1,this.2.symm⟩)];rfl
 ·rw[alc y];refine vs ?_;exact⟨ald Value.bool (alc (fun h=>y (t.2 ⟨h.1,h.2.symm⟩).1)).symm,c.trans z⟩
theorem qv(h:EH H l A T G Bs N)(I:N<=100000)(K:0<=x):aD 139 [.agg l.toArray,i64 x] H fun v J=>ak (v= .int .u32 (A.be x:Int)/\af H J):=by
 obtain⟨n,c,p,gc,rfl,B,W,_,_,r,_,M,E⟩:=h;refine aL Hh ?_;refine vs ?_;have t:af H (H.new 33 (eD A n T c p G gc)):=bm;generalize H.new 33 (eD A n T c p G gc)=H0 at*;refine ba.intro (fun m env J=>af H0 J/\∃j:Nat,m=T.length - j/\j<=T.length/\env=[(1,i64 x),(5,.int .u32 (fE (T.take j) x 0:Int)),(9,.slice n T.length c),(10,i64 T.length),(11,i64 j)]) T.length ⟨aj.refl _ _,0,O,O,rfl⟩ ?_;rintro m env a ⟨z,j,rfl,V,rfl⟩;refine vs ?_;refine ai.dec (fun L=>?_) (fun L=>?_)<;>refine vs ?_
 ·obtain⟨y,f⟩:∃y,T[j]? =some y:=⟨_,ak9 O⟩;obtain⟨b,o,l,rfl,u,U,c3,c4⟩:=bD.dZ (B.fresh (t.trans z)) f;have C:T.take (j+1)=T.take j++[y]:=by rw[alq,f];rfl
  refine⟨O,?_⟩;refine v2 u Int.toNat_natCast ?_;refine⟨O,?_⟩;refine v1 c4 ?_;obtain⟨d,e,X⟩:=lR a 52 cB [i64 y.1,.int .u32 (y.2:Int)];generalize (a.new 52 cB).wr a.size [i64 y.1,.int .u32 (y.2:Int)]=F at*;refine v1 (ae e) ?_;have D:fE (T.take (j+1)) x 0=if y.1=x then y.2 else fE (T.take j) x 0:=by rw[C,y6]
  refine ai.dec (fun P=>?_) (fun P=>?_)<;>refine v1 (ae e) ?_
  ·rw[wrap64 O O];exact⟨T.length - (j+1),O,z.trans d,j+1,rfl,O,Z⟩
  ·rw[wrap64 O O];exact⟨T.length - (j+1),O,z.trans d,j+1,rfl,O,Z⟩
 ·refine⟨?_,t.trans z⟩;rw[alW O,r.WZ x K];rfl
theorem ow(h:EH H l A T G Bs N)(I:N<=100000):aD 138 [.agg l.toArray] H fun v J=>ak (v=i64 A.nx/\af H J):=by
 obtain⟨a,n,t,gc,rfl,B,W,_,_,r,_,M,E⟩:=h;refine aL E5 ?_;refine vs ?_;have c:af H (H.new 33 (eD A a T n t G gc)):=bm;generalize H.new 33 (eD A a T n t G gc)=H0 at*;refine ba.intro (fun m env J=>af H0 J/\∃j:Nat,m=T.length - j/\j<=T.length/\env=[(3,i64 (((T.take j).countP fun h=>h.2==1:Nat):Int)),(7,.slice a T.length n),(8,i64 T.length),(9,i64 j)]) T.length ⟨aj.refl _ _,0,O,O,rfl⟩ ?_;rintro m env z ⟨x,j,rfl,V,rfl⟩;refine vs ?_;refine ai.dec (fun C=>?_) (fun C=>?_)<;>refine vs ?_
 ·obtain⟨y,d⟩:∃y,T[j]? =some y:=⟨_,ak9 O⟩;obtain⟨b,o,l,rfl,u,U,c3,c4⟩:=bD.dZ (B.fresh (c.trans x)) d;have K:T.take (j+1)=T.take j++[y]:=by rw[alq,d];rfl
  refine⟨O,?_⟩;refine v2 u Int.toNat_natCast ?_;refine⟨O,?_⟩;refine v1 c4 ?_;obtain⟨e,f,X⟩:=lR z 52 cB [i64 y.1,.int .u32 (y.2:Int)];generalize (z.new 52 cB).wr z.size [i64 y.1,.int .u32 (y.2:Int)]=F at*;refine v1 (ae f) ?_;have P:=amq (p:=fun h:Int×Nat=>h.2==1) (l:=T.take j);have D:(T.take (j+1)).countP (fun h=>h.2==1)=(T.take j).countP (fun h=>h.2==1)+if y.2=1 then 1 else 0:=by
   rw[K,amK,List.countP_singleton];simp
  rw[alC]at P;refine ai.dec (fun L=>?_) (fun L=>?_)<;>refine vs ?_
  ·rw[wrap64 O O,wrap64 O O];exact⟨T.length - (j+1),O,x.trans e,j+1,rfl,O,Z⟩
  ·rw[wrap64 O O];exact⟨T.length - (j+1),O,x.trans e,j+1,rfl,O,Z⟩
 ·refine⟨?_,c.trans x⟩;rw[alW O,r.fr];rfl
theorem FI(h:EH H l A T G Bs N)(hN:N<=100000)(hx:A.live x):aD 80 [.agg l.toArray,i64 x] H fun v J=>ak (v= .tuple [dZ x (A.be x),.bool true].toArray/\af H J):=by
 obtain⟨c,e,p,gc,rfl,h1,h2,_,_,r,_,YE,YF⟩:=h;refine aL KS ?_;refine vs ?_;have P:af H ((H.new 33 (eD A c T e p G gc)).new 52 cB):=bm.new _ _;have b0:((H.new 33 (eD A c T e p G gc)).new 52 cB).own H.size=some (eD A c T e p G gc):=by rw[ax (by simp only[ag];omega),am]
 have U:((H.new 33 (eD A c T e p G gc)).new 52 cB).own (H.size+1)=some cB:=az (by simp only[ag]);generalize (H.new 33 (eD A c T e p G gc)).new 52 cB=H0 at*;refine ba.intro (fun m env J=>af H0 J/\∃j:Nat,m=T.length - j/\j<=T.length/\(∀h∈T.take j,h.1=x->h∈G)/\env=[(1,i64 x),(2,ptr H.size),(4,ptr (H.size+1)),(9,.slice c T.length e),(10,i64 T.length),(11,i64 j)]) T.length ⟨aj.refl _ _,0,O,O,by simp,rfl⟩ ?_;rintro m env u ⟨z,j,rfl,hj,kV,rfl⟩;have I:=z.own b0 (fun h=>h);have M:=z.own U (fun h=>h);refine vs ?_;refine ai.dec (fun iD=>?_) (fun iD=>?_)<;>refine vs ?_
 ·obtain⟨y,C⟩:∃y,T[j]? =some y:=⟨_,ak9 O⟩;obtain⟨b,o,l,rfl,V,c2,c3,c4⟩:=bD.dZ (h1.fresh (P.trans z)) C;have ht:T.take (j+1)=T.take j++[y]:=by rw[alq,C];rfl
  refine⟨O,?_⟩;refine v2 V Int.toNat_natCast ?_;refine⟨O,?_⟩;refine v1 c4 ?_;obtain⟨d,B,z2⟩:=lR u 52 cB [i64 y.1,.int .u32 (y.2:Int)];generalize Ns:u.size=D at*;generalize (u.new 52 cB).wr D [i64 y.1,.int .u32 (y.2:Int)]=K at*;have c5:=d.own I (fun h=>h);have E:=d.own M (fun h=>h);refine v1 (ae B) ?_;have next:∀t,af K t->(y.1=x->y∈G)->af H0 t/\∃n:Nat,T.length - (j+1)=T.length - n/\n<=T.length/\(∀h∈T.take n,h.1=x->h∈G)/\n=j+1:=fun t a VS=>by
   refine⟨(z.trans d).trans a,j+1,rfl,O,fun h hh O6=>?_,rfl⟩;grind
  by_cases L:y.1=x
  ·refine v3 (ale L) (ae c5) (ae B) ?_;refine(lZ (h2.fresh ((P.trans z).trans d)) O y.1 y.2).mono ?_;rintro _ t ⟨rfl,a⟩;by_cases f:y∈G
   ·rw[ale (show(y.1,y.2)∈G from f)];refine vs ?_;rw[wrap64 O O];obtain⟨g1,n,g2,g3,g4,g5⟩:=next t a (fun _=>f);grind
   ·rw[alc (show¬ (y.1,y.2)∈G from f)];have hyT:(y.1,y.2)∈T:=ali C;have hl:=(r.live y.1 y.2).1 ⟨hyT,f⟩;have W:=a.own B (fun h=>h);have F:=a.own E (fun h=>h);refine v2 (ae W) F ?_;refine v1 (ci F) ?_;rw[hl.2,L];have X:=(P.trans z).trans (d.trans a);exact⟨rfl,X.then (bT _ _ _) O⟩
  ·refine v1 (alc L) ?_;rw[wrap64 O O];obtain⟨g1,n,g2,g3,g4,g5⟩:=next K (aj.refl _ _) O;grind
 ·exfalso;have:=(r.live x (A.be x)).2 ⟨hx,rfl⟩;grind
theorem Aq(h:EH H l A T G Bs N)(hN:N<=100000):aD 137 [.agg l.toArray] H fun v J=>ak (∃fp,Sl J 1 v A.wt.length (A.wt.reverse.map i64) fp/\af H J):=by
 obtain⟨x,a,p,gc,rfl,h1,D,_,_,r,Fj,YE,YF⟩:=h;refine aL E4 ?_;refine vs ?_;have f0:af H ((H.new 33 (eD A x T a p G gc)).new 3 []):=bm.new _ _;have b0:((H.new 33 (eD A x T a p G gc)).new 3 []).own H.size=some (eD A x T a p G gc):=by rw[ax (by simp only[ag];omega),am]
 have s0:Sl ((H.new 33 (eD A x T a p G gc)).new 3 []) 1 (.slice (some ⟨H.size+1,0,none⟩) 0 0) 0 (([]:List Int).map i64) (some (H.size+1)):=Sl.bs (size:=1) (n:=0) (xs:=[]) rfl (by simp only[ag]);generalize (H.new 33 (eD A x T a p G gc)).new 3 []=H0 at*;rw[wrap64 O O];refine ba.intro (fun m env J=>∃ (j:Nat) (v:Value) (b:Nat),m=j/\j<=G.length/\af H J/\J.own H.size=some (eD A x T a p G gc)/\H.size<b/\
  Sl J 1 v ((((G.drop j).reverse.filter fun h=>decide (h.2<A.mo) && (fE T h.1 0==h.2)).map (·.1)).length) ((((G.drop j).reverse.filter fun h=>decide (h.2<A.mo) && (fE T h.1 0==h.2)).map (·.1)).map i64) (some b)/\env=[(1,ptr H.size),(3,v),(4,i64 ((j:Int) - 1))]) G.length ⟨G.length,_,H.size+1,rfl,O,f0,b0,O,by rw[amF];exact s0,rfl⟩ ?_
 rintro m env B ⟨j,v,b,rfl,hj,d,K,M,s1,rfl⟩;refine vs ?_;refine ai.dec (fun iD=>?_) (fun iD=>?_)<;>refine vs ?_
 ·obtain⟨i,rfl⟩:∃i,m=i+1:=⟨m - 1,O⟩;rw[show((i+1:Nat):Int) - 1=i by omega]at*;obtain⟨y,C⟩:∃y,G[i]? =some y:=⟨_,ak9 O⟩;obtain⟨P,o,l,rfl,c1,c2,c3,c4⟩:=bD.dZ (D.fresh d) C;have L:((G.drop i).reverse.filter fun h=>decide (h.2<A.mo) && (fE T h.1 0==h.2)).map (·.1)=if y.2<A.mo/\fE T y.1 0=y.2 then((G.drop (i+1)).reverse.filter fun h=>decide (h.2<A.mo) && (fE T h.1 0==h.2)).map (·.1)++[y.1]else((G.drop (i+1)).reverse.filter fun h=>decide (h.2<A.mo) && (fE T h.1 0==h.2)).map (·.1):=by
   have:G.drop i=y::G.drop (i+1):=by
    obtain⟨hh,e⟩:=ak8.1 C;rw[<-e,<-alO hh]
   rw[this,List.reverse_cons,amp,alG];by_cases h:y.2<A.mo/\fE T y.1 0=y.2
   ·rw[if_pos h];simp[h.1,h.2]
   ·rw[if_neg h];have:([y].filter fun h=>decide (h.2<A.mo) && (fE T h.1 0==h.2))=[]:=by simp;omega
    rw[this];simp
  refine v1 (ae K) ?_;refine⟨O,?_⟩;refine v2 c1 Int.toNat_natCast ?_;refine⟨O,?_⟩;refine v1 c4 ?_;obtain⟨t,F,z2⟩:=lR B 52 cB [i64 y.1,.int .u32 (y.2:Int)];generalize Ns:B.size=W at*;generalize (B.new 52 cB).wr W [i64 y.1,.int .u32 (y.2:Int)]=H2 at*;have c5:=t.own K (fun h=>h);refine di.intro (fun J=>J.own H.size=some (eD A x T a (some ⟨P,o,none⟩) G gc)/\J.own W=some [i64 y.1,.int .u32 (y.2:Int)]) ⟨c5,F⟩ ?_;refine vs ?_;refine bG.intro (.int .u32 (y.2:Int)) (fun J c=>?_) ?_
  ·refine v1 (ae c.2) ?_;exact⟨trivial,trivial⟩
  refine vs ?_;refine bG.intro (.int .u32 (A.mo:Int)) (fun J c=>?_) ?_
  ·refine v1 (ae c.1) ?_;exact⟨trivial,trivial⟩
  refine vs ?_;refine ai.dec (fun E=>?_) (fun E=>?_)<;>refine vs ?_
  ·refine bG.intro (.agg (eD A x T a (some ⟨P,o,none⟩) G gc).toArray) (fun J c=>?_) ?_
   ·refine v1 (ae c.1) ?_;trivial
   refine vs ?_;refine bG.intro (i64 y.1) (fun J c=>?_) ?_
   ·refine v1 (ae c.2) ?_;exact⟨trivial,trivial⟩
   refine vs ?_;refine bG.intro (.int .u32 (y.2:Int)) (fun J c=>?_) ?_
   ·refine v1 (ae c.2) ?_;exact⟨trivial,trivial⟩
   refine vs ?_;have hx:0<=y.1:=((r.mem y.1 y.2).1 ((r.gv y.1 y.2).1 (ali C)).1).1.1;have v2:EH H2 (eD A x T a (some ⟨P,o,none⟩) G gc) A T G (fun _=>True) N:=⟨x,a,_,gc,rfl,(h1.fresh d).fresh t,(D.fresh d).fresh t,fun _ _=>trivial,fun _ _=>trivial,r,Fj,YE,YF⟩;refine(qv v2 hN hx).mono ?_;rintro _ H3 ⟨rfl,u⟩;have f:=u.own c5 (fun h=>h);have U:=u.own F (fun h=>h);refine⟨⟨f,U⟩,?_⟩;have V:=(d.trans t).trans u;have s4:=s1.ext (t.trans u) (fun _ _ h=>h);refine vs ?_;rw[<-r.WZ _ hx];by_cases X:fE T y.1 0=y.2
   ·rw[ale (show((fE T y.1 0:Nat):Int)=(y.2:Nat) by omega)];refine vs ?_;have hk:=List.length_filter_le (fun h:Int×Nat=>decide (h.2<A.mo) && (fE T h.1 0==h.2)) (G.drop (i+1)).reverse;rw[amJ,List.length_drop]at hk;refine v1 (ae U) ?_;refine Mm s4 y.1 (by rw[alA];omega) fun w' H5 b' hb' s5 I=>?_;refine vs ?_;rw[wrap64 O O];have c7:=I.own f O;have z1:=aB f;exact⟨i,O,i,w',b',rfl,O,V.then I (fun z hz=>O),c7,O,by rw[L,if_pos ⟨O,X⟩];exact s5,rfl⟩
   ·rw[alc (show¬ ((fE T y.1 0:Nat):Int)=(y.2:Nat) by omega)];refine vs ?_;rw[wrap64 O O];exact⟨i,O,i,v,b,rfl,O,V,f,M,by rw[L,if_neg (fun h=>X h.2)];exact s4,rfl⟩
  ·rw[wrap64 O O];exact⟨i,O,i,v,b,rfl,O,d.trans t,c5,M,by rw[L,if_neg (fun h=>E O)];exact s1.ext t (fun _ _ h=>h),rfl⟩
 ·obtain rfl:m=0:=O;rw[List.drop_zero]at s1;rw[r.wt];rw[List.filter_reverse,List.map_reverse]at s1;exact⟨some b,by rw[<-amJ];exact s1,d⟩
theorem oF.pick{A A':Ar}(ok:oF A)(z:A.pick=some (x,A')):oF (A'.out x):=by
 obtain⟨o,v,t,e,m,j,d⟩:=Ar.oG z ok;have r:oF A':=by
  have p:=ok.nx;unfold Ar.pick at z;split at z
  ·injection z with z;injection z with c a;subst a;exact⟨fun y n=>ok.wl y ((amE _).subset n),List.Nodup.sublist Z ok.wd,ok.fr,ok.ct,ok.nx⟩
  ·split at z
   ·cases z
   ·injection z with z;injection z with c a;subst a;exact⟨Z,ok.wd,fun y n=>ok.fr y Z,ok.ct,Z⟩
 exact r.out m Z (fun h=>v (by unfold Ar.live at h ⊢;grind)) t e
theorem BQ(h:EH H l A T G Bs N)(hN:N<=100000)(hg:∀x,A.be x<4294967295):aD 77 [.agg l.toArray] H fun v J=>ak (af H J/\
  match A.pick with
  |none=>v= .tuple [.agg l.toArray,dZ 0 0,i64 32].toArray
  |some (x,A')=>∃l',v= .tuple [.agg l'.toArray,dZ x (A.be x+1),i64 0].toArray/\EH J l' (A'.out x) (T++[(x,A.be x+1)]) G (fun b=>Bs b\/(H.size<=b/\b<J.size)) (N+1)):=by
 have hh:=h;obtain⟨d,p,n,gc,rfl,h1,h2,hta,hga,r,Fj,YE,YF⟩:=h;refine aL He ?_;simp(disch:=(first|exact aV|fail)) only[go_sem, ↓reduceIte,Zv];have f0:af H (((H.new 33 (eD A d T p n G gc)).new 33 wR).new 52 cB):=(bm.new _ _).new _ _;have b0:(((H.new 33 (eD A d T p n G gc)).new 33 wR).new 52 cB).own H.size=some (eD A d T p n G gc):=by rw[ax (by simp only[ag];omega),ax (by simp only[ag];omega),am]
 have b1:(((H.new 33 (eD A d T p n G gc)).new 33 wR).new 52 cB).own (H.size+1)=some wR:=by rw[ax (by simp only[ag];omega)];exact az (by simp only[ag])
 have b2:(((H.new 33 (eD A d T p n G gc)).new 33 wR).new 52 cB).own (H.size+2)=some cB:=az (by simp only[ag]);generalize ((H.new 33 (eD A d T p n G gc)).new 33 wR).new 52 cB=H0 at*;refine(Aq (hh.fresh f0) hN).mono ?_;rintro w H1 ⟨fp,s1,U⟩;obtain⟨wa,wc,rfl⟩:=bD.Dj s1.rd;have c0:=U.own b0 (fun h=>h);simp(disch:=(first|exact aV|fail)) only[go_sem, ↓reduceIte,Zv,ae c0];refine(ow ((hh.fresh f0).fresh U) hN).mono ?_;rintro _ H2 ⟨rfl,K⟩;simp(disch:=(first|exact aV|fail)) only[go_sem, ↓reduceIte,Zv];obtain⟨E,b3,z3⟩:=lR H2 52 cB [i64 A.nx,.int .u32 1];generalize Ns:H2.size=cc at*;generalize (H2.new 52 cB).wr cc [i64 A.nx,.int .u32 1]=H3 at*;have hw:A.wt.length<1000000:=by
  rw[r.wt,alA];have:=List.length_filter_le (fun h:Int×Nat=>decide (h.2<A.mo) && (fE T h.1 0==h.2)) G;omega
 have c3:=(K.trans E).own c0 (fun h=>h);have d1:=(U.trans (K.trans E)).own b1 (fun h=>h);have d2:=(U.trans (K.trans E)).own b2 (fun h=>h);have s3:=s1.ext (K.trans E) (fun _ _ h=>h);have V:=(f0.trans U).trans (K.trans E);have XQ:H.size+2<cc:=by have:=aB b2;have:=U.size;have:=K.size;omega
 refine ai.dec (fun iD=>?A) (fun iD=>?B)<;>simp(disch:=(first|exact aV|fail)) only[go_sem, ↓reduceIte,Zv];case' A=>
  obtain⟨x,P⟩:∃x,A.wt.reverse[0]? =some x:=⟨_,ak9 (by rw[amJ];omega)⟩;obtain⟨b,rfl⟩:∃b,fp=some b:=by
   cases fp with
   |none=>obtain⟨_,h0,_⟩:=s3;omega
   |some b=>exact⟨b,rfl⟩
  have hbc:b<cc:=by
   obtain⟨_,_,_,_,o,_⟩:=s1;have:=aB o;have:=K.size;omega
  rw[<-amJ]at s3;obtain⟨_,rfl,lb,o3,o4⟩:=Sl.num s3 P;have u:A.pick=some (x,{A with wt:=A.wt.dropLast}):=by
   unfold Ar.pick;rw[if_pos (by intro e;rw[e]at P;simp at P)];rw[List.getElem?_reverse O]at P;simp only[alY,List.getLast?_eq_getElem?];rw[show A.wt.length - 1=A.wt.length - 1 - 0 by omega,P];rfl
  have j4:0<=x:=(Fj.wl x (by rw[<-List.mem_reverse];exact ali P)).2.2;refine di.intro (fun J=>J.own H.size=some (eD A d T p n G gc)/\J.own b=some lb) ⟨c3,o3⟩ ?_;simp(disch:=(first|exact aV|fail)) only[go_sem, ↓reduceIte,Zv];refine⟨O,?_⟩;simp(disch:=(first|exact aV|fail)) only[go_sem, ↓reduceIte,Zv];refine bG.intro (i64 x) (fun J j=>?_) ?_
  ·simp(disch:=(first|exact aV|fail)) only[go_sem, ↓reduceIte,Zv,ae j.2];show aF lb[0]? _;rw[o4];exact⟨rfl,rfl⟩
  simp(disch:=(first|exact aV|fail)) only[go_sem, ↓reduceIte,Zv];refine bG.intro (.agg (eD A d T p n G gc).toArray) (fun J j=>?_) ?_
  ·simp(disch:=(first|exact aV|fail)) only[go_sem, ↓reduceIte,Zv,ae j.1];trivial
  simp(disch:=(first|exact aV|fail)) only[go_sem, ↓reduceIte,Zv];refine⟨O,?_⟩;simp(disch:=(first|exact aV|fail)) only[go_sem, ↓reduceIte,Zv];refine bG.intro (i64 x) (fun J j=>?_) ?_
  ·simp(disch:=(first|exact aV|fail)) only[go_sem, ↓reduceIte,Zv,ae j.2];show aF lb[0]? _;rw[o4];exact⟨rfl,rfl⟩
  simp(disch:=(first|exact aV|fail)) only[go_sem, ↓reduceIte,Zv];refine(qv (hh.fresh V) hN j4).mono ?_;rintro _ f ⟨rfl,t⟩;have c4:=t.own c3 (fun h=>h);refine⟨⟨c4,t.own o3 (fun h=>h)⟩,?_⟩;have b4:=t.own b3 (fun h=>h);have Wf:=hg x;simp(disch:=(first|exact aV|fail)) only[go_sem, ↓reduceIte,Zv,b4];refine⟨⟨c4,t.own o3 (fun h=>h)⟩,?_⟩;simp(disch:=(first|exact aV|fail)) only[go_sem, ↓reduceIte,Zv];have hwg:IntKind.u32.wrap ((A.be x:Nat)+1:Int)=((A.be x+1:Nat):Int):=Cf O O;rw[hwg];have z4:=t.size;have z3':=aB b3;have f5:=(V.trans t).then (bT f cc [i64 x,.int .u32 ((A.be x+1:Nat):Int)]) (fun z F=>O);have c5:(f.wr cc [i64 x,.int .u32 ((A.be x+1:Nat):Int)]).own H.size=some (eD A d T p n G gc):=by rw[aG O];exact c4
  have M:(f.wr cc [i64 x,.int .u32 ((A.be x+1:Nat):Int)]).own (H.size+1)=some wR:=by rw[aG O];exact t.own d1 (fun h=>h)
  have e5:(f.wr cc [i64 x,.int .u32 ((A.be x+1:Nat):Int)]).own (H.size+2)=some cB:=by rw[aG O];exact t.own d2 (fun h=>h)
  have W:(f.wr cc [i64 x,.int .u32 ((A.be x+1:Nat):Int)]).own cc=some [i64 x,.int .u32 ((A.be x+1:Nat):Int)]:=ah b4;generalize f.wr cc [i64 x,.int .u32 ((A.be x+1:Nat):Int)]=H5 at*;generalize hA':({A with wt:=A.wt.dropLast}:Ar)=A' at u;clear hA'
 case' B=>
  have Yz:A.wt=[]:=by
   cases hq:A.wt with
   |nil=>rfl
   |cons a r=>rw[hq]at iD;simp at iD
  refine di.intro (fun J=>J.own H.size=some (eD A d T p n G gc)) c3 ?_;simp(disch:=(first|exact aV|fail)) only[go_sem, ↓reduceIte,Zv];refine bG.intro (.agg (eD A d T p n G gc).toArray) (fun J j=>?_) ?_
  ·simp(disch:=(first|exact aV|fail)) only[go_sem, ↓reduceIte,Zv,ae j];trivial
  simp(disch:=(first|exact aV|fail)) only[go_sem, ↓reduceIte,Zv];refine bG.intro (i64 A.g.length) (fun J j=>?_) ?_
  ·simp(disch:=(first|exact aV|fail)) only[go_sem, ↓reduceIte,Zv,ae j];trivial
  simp(disch:=(first|exact aV|fail)) only[go_sem, ↓reduceIte,Zv];refine(ow (hh.fresh V) hN).mono ?_;rintro _ f ⟨rfl,t⟩;have c4:=t.own c3 (fun h=>h);refine⟨c4,?_⟩;simp(disch:=(first|exact aV|fail)) only[go_sem, ↓reduceIte,Zv];have We:=Fj.nx;refine ai.dec (fun hge=>?_) (fun hge=>?_)<;>simp(disch:=(first|exact aV|fail)) only[go_sem, ↓reduceIte,Zv]
  ·have d4:=t.own d1 (fun h=>h);have M:=t.own d2 (fun h=>h);simp(disch:=(first|exact aV|fail)) only[go_sem, ↓reduceIte,Zv,ae c4,d4,M];have f6:=(V.trans t).then (bT f (H.size+1) (eD A d T p n G gc)) (fun z F=>O);have f7:=f6.then (bT _ (H.size+1+1) cB) (fun z F=>O);have L:(f.wr (H.size+1) (eD A d T p n G gc)).own (H.size+1)=some (eD A d T p n G gc):=ah d4;have e2:((f.wr (H.size+1) (eD A d T p n G gc)).wr (H.size+1+1) cB).own (H.size+1+1)=some cB:=ah (by rw[aG O];exact M);simp(disch:=(first|exact aV|fail)) only[go_sem, ↓reduceIte,Zv,ae L,ae e2];refine⟨f7,?_⟩;have u:A.pick=none:=by
    unfold Ar.pick;rw[if_neg (by rw[Yz];simp),if_pos O]
   rw[u];rfl
  obtain⟨x,P⟩:∃x:Int,x=A.nx:=⟨_,rfl⟩;have u:A.pick=some (x,{A with nx:=A.nx+1}):=by
   unfold Ar.pick;rw[if_neg (by rw[Yz];simp),if_neg O,P]
  have Nl:A.be x=0:=r.un x O;have f5:=V.trans t;have c5:=c4;have M:=t.own d1 (fun h=>h);have e5:=t.own d2 (fun h=>h);have W:f.own cc=some [i64 x,.int .u32 ((A.be x+1:Nat):Int)]:=by rw[Nl,P];exact t.own b3 (fun h=>h)
  generalize f=H5 at*;generalize hA':({A with nx:=A.nx+1}:Ar)=A' at u;clear hA'
 all_goals
  have Ww:=Ar.oG u Fj;refine di.intro (fun J=>J.own cc=some [i64 x,.int .u32 ((A.be x+1:Nat):Int)]) W ?_;simp(disch:=(first|exact aV|fail)) only[go_sem, ↓reduceIte,Zv];refine bG.intro (.agg [i64 x,.int .u32 ((A.be x+1:Nat):Int)].toArray) (fun J j=>?_) ?_
  ·simp(disch:=(first|exact aV|fail)) only[go_sem, ↓reduceIte,Zv,ae j];trivial
  simp(disch:=(first|exact aV|fail)) only[go_sem, ↓reduceIte,Zv];have hT:T.length<=1000000:=O;have aij:=aB W;repeat' (first|exact W|refine ry.intro ?_ ?_|simp(disch:=(first|exact aV|fail)) only[go_sem, ↓reduceIte,Zv,ae c5])
  all_goals
   refine Ta (by first|exact am _ _ _|exact az (by simp only[ag])| (rw[ax (by simp only[ag];omega)];exact am _ _ _)) (h1.fresh (by first|exact f5.new _ _|exact(f5.new _ _).new _ _)) hT fun w1 X1 b1 QI s1 L=>?_;have z6:=L.size;simp only[ag]at z6 QI;have fX:=af.then (show af H5 _ by first|exact bm|exact bm.new _ _) L (fun z F=>O);have g6:=fX.own W (fun h=>h);simp(disch:=(first|exact aV|fail)) only[go_sem, ↓reduceIte,Zv,g6];refine Tb (h:=(x,A.be x+1)) (by first|exact s1|exact s1.ext bm (fun _ _ h=>h)) (by first|exact am _ _ _|exact L.own (az (by simp only[ag])) O|exact L.own ((ax (by simp only[ag];omega)).trans (am _ _ _)) O) hT fun w2 C b2 RC s2 e2=>?_;have X:=af.then (show af H5 _ by first|exact fX|exact fX.new _ _) e2 (fun z F=>O);have z7:=e2.size;try simp only[ag]at z7 RC
   obtain⟨m,c,rfl⟩:=bD.Dj s2.rd;have g7:=X.own W (fun h=>h);have c7:=X.own c5 (fun h=>h);simp(disch:=(first|exact aV|fail)) only[go_sem, ↓reduceIte,Zv,g7,c7];have fZ:=(f5.trans X).then (bT C H.size (eD A m (T++[(x,A.be x+1)]) c n G gc)) (fun z F=>O);have c8:(C.wr H.size (eD A m (T++[(x,A.be x+1)]) c n G gc)).own H.size=some (eD A m (T++[(x,A.be x+1)]) c n G gc):=ah c7;have d8:(C.wr H.size (eD A m (T++[(x,A.be x+1)]) c n G gc)).own (H.size+1)=some wR:=by rw[aG O];exact X.own M (fun h=>h)
   have e8:(C.wr H.size (eD A m (T++[(x,A.be x+1)]) c n G gc)).own (H.size+1+1)=some cB:=by rw[aG O];exact X.own e5 (fun h=>h)
   have g8:(C.wr H.size (eD A m (T++[(x,A.be x+1)]) c n G gc)).own cc=some [i64 x,.int .u32 ((A.be x+1:Nat):Int)]:=by rw[aG O];exact g7
   have s8:=s2.ext (bT C H.size (eD A m (T++[(x,A.be x+1)]) c n G gc)) (fun b hb h=>Z);generalize C.wr H.size (eD A m (T++[(x,A.be x+1)]) c n G gc)=D at*;refine di.intro (fun J=>J.own H.size=some (eD A m (T++[(x,A.be x+1)]) c n G gc)/\J.own cc=some [i64 x,.int .u32 ((A.be x+1:Nat):Int)]) ⟨c8,g8⟩ ?_;simp(disch:=(first|exact aV|fail)) only[go_sem, ↓reduceIte,Zv];refine bG.intro (.agg (eD A m (T++[(x,A.be x+1)]) c n G gc).toArray) (fun J j=>?_) ?_
   ·simp(disch:=(first|exact aV|fail)) only[go_sem, ↓reduceIte,Zv,ae j.1];trivial
   simp(disch:=(first|exact aV|fail)) only[go_sem, ↓reduceIte,Zv];refine bG.intro (.agg [i64 x,.int .u32 ((A.be x+1:Nat):Int)].toArray) (fun J j=>?_) ?_
   ·simp(disch:=(first|exact aV|fail)) only[go_sem, ↓reduceIte,Zv,ae j.2];trivial
   simp(disch:=(first|exact aV|fail)) only[go_sem, ↓reduceIte,Zv];have YG:H.size<=b2:=O;have q1:(D.wr (H.size+1) (eD A m (T++[(x,A.be x+1)]) c n G gc)).own (H.size+1)=some (eD A m (T++[(x,A.be x+1)]) c n G gc):=ah d8;have q2:((D.wr (H.size+1) (eD A m (T++[(x,A.be x+1)]) c n G gc)).wr (H.size+1+1) [i64 x,.int .u32 ((A.be x+1:Nat):Int)]).own (H.size+1+1)=some [i64 x,.int .u32 ((A.be x+1:Nat):Int)]:=ah (by rw[aG O];exact e8);simp(disch:=(first|exact aV|fail)) only[go_sem, ↓reduceIte,Zv,ae c8,g8,d8,e8,ae q1,ae q2];refine⟨⟨c8,trivial⟩,?_⟩;have fW:=(fZ.then (bT D (H.size+1) (eD A m (T++[(x,A.be x+1)]) c n G gc)) (fun z F=>O)).then (bT _ (H.size+1+1) [i64 x,.int .u32 ((A.be x+1:Nat):Int)]) (fun z F=>O);have s9:=(s8.ext (bT D (H.size+1) (eD A m (T++[(x,A.be x+1)]) c n G gc)) (fun b hb h=>Z)).ext (bT _ (H.size+1+1) [i64 x,.int .u32 ((A.be x+1:Nat):Int)]) (fun b hb h=>Z);simp(disch:=(first|exact aV|fail)) only[go_sem, ↓reduceIte,Zv,e8];refine⟨⟨c8,by first|trivial|exact g8⟩,?_⟩;simp(disch:=(first|exact aV|fail)) only[go_sem, ↓reduceIte,Zv,ae q1,ae q2];refine⟨fW,?_⟩;rw[u];generalize (D.wr (H.size+1) (eD A m (T++[(x,A.be x+1)]) c n G gc)).wr (H.size+1+1) [i64 x,.int .u32 ((A.be x+1:Nat):Int)]=X9 at*;refine⟨_,rfl,m,c,n,gc,?_,s9.rd,h2.fresh fW,fun y hy=>.inr ?_,fun y hy=>.inl (hga y hy),r.pick Fj u,Fj.pick u,by rw[alm];exact Nat.succ_le_succ YE,O⟩
   ·have L:(A'.out x).g.length=A.g.length:=by
     show(A'.g.set _ _).length=_;rw[alb,Ww.2.2.2.2.1]
    show(eD A m (T++[(x,A.be x+1)]) c n G gc)=_;unfold eD;rw[L,show(A'.out x).mo=A.mo from Ww.2.2.2.2.2.2]
   ·obtain⟨_,l9,c9,I,q6,_⟩:=s9;injection I with I _ _;rw[hy]at I;injection I with I;have:=aB q6;rw[I];exact⟨YG,this⟩
theorem BR(h:EH H l A T G Bs N)(hN:N<=100000)(x:Int)(g:Nat):aD 145 [.agg l.toArray,dZ x g] H fun v J=>ak (af H J/\
  if A.yC x g then∃l',v= .tuple [.agg l'.toArray,i64 0].toArray/\EH J l' (A.back x) T (G++[(x,g)]) (fun b=>Bs b\/(H.size<=b/\b<J.size)) (N+1)
  else v= .tuple [.agg l.toArray,i64 33].toArray):=by
 have hh:=h;obtain⟨z,a,c,gc,rfl,h1,h2,hta,hga,r,Fj,YE,YF⟩:=h;refine aL Hk ?_;simp(disch:=(first|exact aV|fail)) only[go_sem, ↓reduceIte,Zv];have I:af H (((H.new 33 (eD A z T a c G gc)).new 52 [i64 x,.int .u32 (g:Int)]).new 33 wR):=(bm.new _ _).new _ _;have b0:(((H.new 33 (eD A z T a c G gc)).new 52 [i64 x,.int .u32 (g:Int)]).new 33 wR).own H.size=some (eD A z T a c G gc):=by rw[ax (by simp only[ag];omega),ax (by simp only[ag];omega),am]
 have K:(((H.new 33 (eD A z T a c G gc)).new 52 [i64 x,.int .u32 (g:Int)]).new 33 wR).own (H.size+1)=some [i64 x,.int .u32 (g:Int)]:=by rw[ax (by simp only[ag];omega)];exact az (by simp only[ag])
 have b2:(((H.new 33 (eD A z T a c G gc)).new 52 [i64 x,.int .u32 (g:Int)]).new 33 wR).own (H.size+1+1)=some wR:=az (by simp only[ag]);generalize (((H.new 33 (eD A z T a c G gc)).new 52 [i64 x,.int .u32 (g:Int)]).new 33 wR)=H0 at*;refine(fx (hh.fresh I) hN x g).mono ?_;rintro _ p ⟨rfl,u⟩;have B:=I.trans u;have c5:=u.own b0 (fun h=>h);have L:=u.own K (fun h=>h);have f:=u.own b2 (fun h=>h);have z5:=aB f;by_cases t:A.yC x g
 ·rw[ale t];simp(disch:=(first|exact aV|fail)) only[go_sem, ↓reduceIte,Zv];have D:G.length<=1000000:=O;refine di.intro (fun J=>J.own (H.size+1)=some [i64 x,.int .u32 (g:Int)]) L ?_;simp(disch:=(first|exact aV|fail)) only[go_sem, ↓reduceIte,Zv];refine bG.intro (.agg [i64 x,.int .u32 (g:Int)].toArray) (fun J hI=>?_) ?_
  ·simp(disch:=(first|exact aV|fail)) only[go_sem, ↓reduceIte,Zv,ae hI];trivial
  simp(disch:=(first|exact aV|fail)) only[go_sem, ↓reduceIte,Zv];repeat' (first|exact L|refine ry.intro ?_ ?_|simp(disch:=(first|exact aV|fail)) only[go_sem, ↓reduceIte,Zv,ae c5])
  all_goals
   refine Ta (by first|exact am _ _ _|exact az (by simp only[ag])| (rw[ax (by simp only[ag];omega)];exact am _ _ _)) (h2.fresh (by first|exact B.new _ _|exact(B.new _ _).new _ _)) D fun w1 X1 K QI s1 e=>?_;have z6:=e.size;simp only[ag]at z6 QI;have C:=af.then (show af p _ by first|exact bm|exact bm.new _ _) e O;have g6:=C.own L (fun h=>h);simp(disch:=(first|exact aV|fail)) only[go_sem, ↓reduceIte,Zv,g6];refine Tb (h:=(x,g)) (by first|exact s1|exact s1.ext bm (fun _ _ h=>h)) (by first|exact am _ _ _|exact e.own (az (by simp only[ag])) O|exact e.own ((ax (by simp only[ag];omega)).trans (am _ _ _)) O) D fun w2 j b2 RC M W=>?_;have P:=af.then (show af p _ by first|exact C|exact C.new _ _) W O;have z7:=W.size;try simp only[ag]at z7 RC
   obtain⟨n,m,rfl⟩:=bD.Dj M.rd;have g7:=P.own L (fun h=>h);have F:=P.own c5 (fun h=>h);have d7:=P.own f (fun h=>h);simp(disch:=(first|exact aV|fail)) only[go_sem, ↓reduceIte,Zv,g7,F];have fZ:=(B.trans P).then (bT j H.size (eD A z T a n (G++[(x,g)]) m)) O;have X:(j.wr H.size (eD A z T a n (G++[(x,g)]) m)).own H.size=some (eD A z T a n (G++[(x,g)]) m):=ah F;have U:(j.wr H.size (eD A z T a n (G++[(x,g)]) m)).own (H.size+1+1)=some wR:=by rw[aG O];exact d7
   have s8:=M.ext (bT j H.size (eD A z T a n (G++[(x,g)]) m)) Z;generalize j.wr H.size (eD A z T a n (G++[(x,g)]) m)=o at*;have YG:H.size<=b2:=O;have q1:(o.wr (H.size+1+1) (eD A z T a n (G++[(x,g)]) m)).own (H.size+1+1)=some (eD A z T a n (G++[(x,g)]) m):=ah U;simp(disch:=(first|exact aV|fail)) only[go_sem, ↓reduceIte,Zv,ae X,U];have V:=fZ.then (bT o (H.size+1+1) (eD A z T a n (G++[(x,g)]) m)) O;have E:=s8.ext (bT o (H.size+1+1) (eD A z T a n (G++[(x,g)]) m)) Z;simp(disch:=(first|exact aV|fail)) only[go_sem, ↓reduceIte,Zv,ae q1];refine⟨V,?_⟩;rw[if_pos t];generalize o.wr (H.size+1+1) (eD A z T a n (G++[(x,g)]) m)=X9 at*;refine⟨_,rfl,z,a,n,m,?_,h1.fresh V,E.rd,Z,fun y hy=>.inr ?_,by rw[<-t.2];exact r.back t.1,Fj.back t.1,O,Z⟩
   ·show(eD A z T a n (G++[(x,g)]) m)=_;have e:(A.back x).g.length=A.g.length:=by
     show(A.g.set _ _).length=_;grind
    unfold eD;rw[e];rfl
   ·obtain⟨_,l9,c9,d,q6,_⟩:=E;injection d with d _ _;rw[hy]at d;injection d with d;have:=aB q6;grind
 ·rw[alc t];simp(disch:=(first|exact aV|fail)) only[go_sem, ↓reduceIte,Zv,ae c5,f];have f6:=B.then (bT p (H.size+1+1) (eD A z T a c G gc)) O;have e:(p.wr (H.size+1+1) (eD A z T a c G gc)).own (H.size+1+1)=some (eD A z T a c G gc):=ah f;simp(disch:=(first|exact aV|fail)) only[go_sem, ↓reduceIte,Zv,ae e];rw[if_neg t];exact⟨f6,rfl⟩
end
end
section
variable {H : Hp} {s : Nat} {S : Nat → Prop} {w : Nw} {A : Ar} {q : Int}
theorem Ci.key(l:Ci w A){x k s:Int}{y:Ce}(n:A.live x)(m:w.cs[x.toNat]? =some y):Ci (w.put x (y.1,k,s)) A:=by
 have a:=(l.live x).2 n;have t:=a.1;have j:=(ak8.1 m).1;have v:0<=x/\x<w.cs.length:=O;refine⟨by simp[Nw.put,l.len],fun z=>?_⟩;rw[<-l.live z,<-bf,<-bf,dT v];by_cases e:z=x
 ·rw[if_pos e,e];obtain⟨_,c,h,d⟩:=a;rw[m]at h;injection h with h;subst h;have r:=bf.2 ((l.live x).2 n);omega
 omega
theorem uE(h:j0 H s S w A q){x:Int}(P:A.live x)(key:Int):aD 165 [ptr s,dZ x (A.be x),i64 key] H fun v J=>ak (
  ∃y,w.cs[x.toNat]? =some y/\((y.2.1<key/\v=i64 173/\lQ s S H J w A q)\/(key<=y.2.1/\v=i64 0/\lQ s S H J (w.put x (y.1,key,y.2.2)) A q))):=by
 have wz:=h.slt;refine aL iJ ?_;refine vs ?_;have K:af H (H.new 52 [i64 x,.int .u32 (A.be x:Int)]):=bm;have b0:(H.new 52 [i64 x,.int .u32 (A.be x:Int)]).own H.size=some [i64 x,.int .u32 (A.be x:Int)]:=am _ _ _;have z0:(H.new 52 [i64 x,.int .u32 (A.be x:Int)]).size=H.size+1:=ag _ _ _;generalize H.new 52 [i64 x,.int .u32 (A.be x:Int)]=H0 at*;have X:=h.ext K (fun _ _ h=>h);refine v1 (ae b0) ?_;refine(jH X P).mono ?_;rintro _ r ⟨y,c,rfl,j,h1,p,Ik⟩;have hS1:∀z,j z->z≠H.size:=Z;have V:=p.own b0 Z;refine vs ?_;obtain⟨f,C,z2⟩:=lR r 148 [i64 0,u64 0] [i64 y.2.1,u64 y.2.2];have QK:=p.size;generalize Ns:r.size=M at*;generalize (r.new 148 [i64 0,u64 0]).wr M [i64 y.2.1,u64 y.2.2]=H2 at*;have F:=h1.ext f (fun _ _ h=>h);have D:=f.own V (fun h=>h);have o:aj S H H2:=(K.mono fun _ _ h=>h.elim).trans (p.trans (f.mono fun _ _ h=>h.elim));have hsS:∀z,j z->S z\/H.size<=z:=Z;refine v2 alr (ae C) ?_;refine ai.dec (fun hk=>?_) (fun hk=>?_)<;>refine v1 alr ?_
 ·exact⟨y,c,.inl ⟨O,rfl,j,F,o,hsS⟩⟩
 obtain⟨t,vv,I,Sn,B,k,d,n,hi,m,u,d1,E,hS,U⟩:=F;refine v3 (ae u) (ae D) (ae C) ?_;refine(n.jZ x key y.2.2 hi).mono ?_;rintro _ H3 (⟨kV,_⟩| ⟨_,rfl,y',a,L,Og,e,Mq⟩)
 ·refine absurd ⟨(U.live x).2 P,fun y' a=>?_⟩ kV;rw[c]at a;injection a with a;subst a;unfold dY;omega
 rw[c]at a;injection a with a;subst a;refine vs ?_;have hBl:=m.slt;have Kj:=o.size;have SN:=e.size;have hos:=aB u;refine⟨y,c,.inr ⟨O,rfl,fun z=>L z\/B.S z\/z=s,⟨t,vv,I,L,B,k,d,n,Og,m.ext e Z,e.own u Z,fun z W=>?_,E,fun z=>Iff.rfl,U.key P c⟩,?_,fun z W=>?_⟩⟩
 ·grind
 ·refine⟨O,fun z W hn=>?_⟩;cases o;cases e;grind
 grind
end
section
variable{x g k d:Int}{b:Nat}
section
variable {H J H0 : Hp} {s : Nat} {S Sn : Nat → Prop} {w w' : Nw} {A : Ar} {q : Int}
theorem JV{t:TypeId}{h:Value}{I:Hp->(Nat->Prop)->Nw->Prop}{B:Nj}(n:qq (.iface t h) I)(m:EF H B A)(c:H.own s=some [i64 k,i64 d,ptr B.a,.iface t h,u64 q])(j:∀z,Sn z->¬B.S z/\z≠s)(v:¬B.S s)(p:∀z,S z↔Sn z\/B.S z\/z=s)
  (y:br I Sn H J w')(e:Ci w' A):lQ s S H J w' A q:=by
 obtain⟨a,hi',x,f⟩:=y;have u:=m.slt;have o:=aB c;refine⟨fun z=>a z\/B.S z\/z=s,⟨t,h,I,a,B,k,d,n,hi',m.ext x Z,x.own c Z,fun z r=>?_,v,fun z=>Iff.rfl,e⟩,x.mono Z,fun z r=>?_⟩
 ·grind
 grind
theorem Ci.join(l:Ci w A){a b:Int}(h:w.has a)(z:w.has b):Ci (w.join a b) A:=
 ⟨by simp[Nw.join,l.len],fun x=>by rw[Dr w (by have:=h.1;omega) (by have:=z.1;omega)];exact l.live x⟩
theorem Ci.nl(l:Ci w A)(a:A.live x):∃y,w.cs[x.toNat]? =some y/\y.1=aH w x/\y.2.1=w.key x/\y.2.2=w.seq x:=by
 obtain⟨z,y,h,_⟩:=(l.live x).2 a;refine⟨y,h,(iO z h).symm,?_,?_⟩<;>simp[Nw.key,Nw.seq,alf,h]
theorem JW(h:j0 H s S w A q)(g:Int):aD 169 [ptr s,i64 g] H fun v J=>ak (v=(if w.has g then .tuple [i64 (w.len g),i64 0].toArray else .tuple [i64 0,i64 171].toArray)/\lQ s S H J w A q):=by
 have a:=lQ.same h (aj.refl S H);obtain⟨t,j,I,Sn,B,k,d,n,hi,m,z,c,e,y,r⟩:=h;refine aL CZ ?_;refine v1 (ae z) ?_;refine(n.has g hi).mono ?_;rintro _ _ ⟨rfl,rfl⟩;by_cases x:w.has g
 ·rw[ale x,if_pos x];refine v1 (ae z) ?_;refine(n.len g hi).mono ?_;rintro _ _ ⟨rfl,rfl⟩;refine vs ?_;exact⟨rfl,a⟩
 ·rw[alc x,if_neg x];refine vs ?_;exact⟨rfl,a⟩
theorem HU(h:j0 H s S w A q)(a b:Int):aD 168 [ptr s,i64 a,i64 b] H fun v J=>ak (
  v=i64 (if¬ (w.has a/\w.has b)then 171 else if a=b then 174 else 0)/\lQ s S H J (if w.has a/\w.has b/\a≠b then w.join a b else w) A q):=by
 have y:=lQ.same h (aj.refl S H);obtain⟨t,L,I,Sn,B,k,d,n,hi,m,e,r,j,p,o⟩:=h;refine aL Bb ?_;refine v1 (ae e) ?_;refine(n.has a hi).mono ?_;rintro _ _ ⟨rfl,rfl⟩;by_cases x:w.has a
 ·rw[ale x];refine v1 (ae e) ?_;refine(n.has b hi).mono ?_;rintro _ _ ⟨rfl,rfl⟩;by_cases z:w.has b
  ·rw[ale z,if_neg Z];refine vs ?_;refine ai.dec (fun c=>?_) (fun c=>?_)<;>refine v1 (ae e) ?_
   ·rw[if_pos c,if_neg O];exact⟨rfl,y⟩
   ·refine(n.vl a b hi).mono ?_;rintro _ P (⟨u,_⟩| ⟨_,rfl,f⟩)
    ·exact absurd ⟨x,z,c⟩ u
    refine vs ?_;rw[if_neg c,if_pos ⟨x,z,c⟩];exact⟨rfl,JV n m e r j p f (o.join x z)⟩
  ·rw[alc z,if_pos (fun h=>z h.2),if_neg (fun h=>z h.2.1)];refine vs ?_;exact⟨rfl,y⟩
 ·rw[alc x,if_pos (fun h=>x h.1),if_neg (fun h=>x h.1)];refine vs ?_;exact⟨rfl,y⟩
theorem tF(h:j0 H s S w A q)(f:af H J):lQ s S H J w A q:=lQ.same (h.ext f (fun _ _ h=>h)) (f.mono fun _ _ h=>h.elim)
theorem wH(f:af H H0)(h:lQ s S H0 J w A q):lQ s S H J w A q:=Gr (f.mono fun _ _ h=>h.elim) (fun z h=>.inl h) h
theorem aJ{l:List Value}(h:lQ s S H J w A q)(x:H.own b=some l)(z:¬S b):J.own b=some l:=by
 obtain⟨a,n,e,m⟩:=h;exact e.own x z
theorem DZ{l:List Value}(h:lQ s S H0 J w A q)(r:¬S b)(j:b<H0.size)(n:H.size<=b)(f:af H H0):lQ s S H (J.wr b l) w A q:=by
 obtain⟨m,e,x,y⟩:=wH f h;obtain⟨c,a,v,t⟩:=h;have z:=f.size;exact iT (a.tmp Z) (tD x n) Z
theorem sQ(h:j0 H s S w A q){g:Nat}(p:¬A.yC x g):aD 213 [ptr s,dZ x g] H fun v J=>ak (v= .tuple [ms 0 0,i64 33].toArray/\lQ s S H J w A q):=by
 have U:=h.slt;have r:=h;obtain⟨t,W,I,Sn,B,k,d,n,hi,m,j,P,L,K,F⟩:=h;refine aL nK ?_;refine vs ?_;have z:af H ((H.new 52 [i64 x,.int .u32 (g:Int)]).new 148 ml):=bm.new _ _;have b0:((H.new 52 [i64 x,.int .u32 (g:Int)]).new 148 ml).own H.size=some [i64 x,.int .u32 (g:Int)]:=by
  rw[ax (by simp only[ag];omega),am]
 have a:((H.new 52 [i64 x,.int .u32 (g:Int)]).new 148 ml).own (H.size+1)=some ml:=az (by simp only[ag]);generalize (H.new 52 [i64 x,.int .u32 (g:Int)]).new 148 ml=H0 at*;have o:=m.ext z (fun _ _ h=>h);have f:=z.own j (fun h=>h);refine v2 (ae f) (ae b0) ?_;refine(gU o x g).mono ?_;rintro _ u ⟨rfl,e⟩;rw[alc (show¬ (A.live x/\A.be x=g)from p)];have c:=e.own a (fun h=>h);refine v1 c ?_;obtain⟨C,y⟩:=Ij c [i64 0,u64 0];refine v1 (ae y) ?_;exact⟨rfl,DZ (tF (r.ext z (fun _ _ h=>h)) e) Z (aB a) O z⟩
theorem HV(h:j0 H s S w A q)(x:Int)(g:Nat):aD 171 [ptr s,dZ x g] H fun v J=>ak (v=(if A.yC x g then .tuple [i64 (aH w x),i64 0].toArray else .tuple [i64 0,i64 33].toArray)/\lQ s S H J w A q):=by
 have u:=h;obtain⟨t,V,I,Sn,B,k,d,n,hi,m,K,o,f,P,y⟩:=h;refine aL Bc ?_;refine vs ?_;have c:af H (H.new 52 [i64 x,.int .u32 (g:Int)]):=bm;have b0:(H.new 52 [i64 x,.int .u32 (g:Int)]).own H.size=some [i64 x,.int .u32 (g:Int)]:=am _ _ _;generalize H.new 52 [i64 x,.int .u32 (g:Int)]=H0 at*;have F:=m.ext c (fun _ _ h=>h);have r:=c.own K (fun h=>h);refine v2 (ae r) (ae b0) ?_;refine(gU F x g).mono ?_;rintro _ U ⟨rfl,e⟩;have a:=c.trans e;by_cases z:A.yC x g
 ·rw[ale (show A.live x/\A.be x=g from z),if_pos z];have j:=e.own r (fun h=>h);have p:=e.own b0 (fun h=>h);refine v2 (ae j) (ae p) ?_;refine(n.home x (n.ext hi a (fun _ _ h=>h))).mono ?_;rintro _ W (⟨C,_⟩| ⟨_,rfl,L⟩)
  ·exact absurd ((y.live x).2 z.1) C
  refine vs ?_;exact⟨rfl,wH a (JV n (m.ext a (fun _ _ h=>h)) j o f P L y)⟩
 ·rw[alc (show¬ (A.live x/\A.be x=g)from z),if_neg z];refine vs ?_;exact⟨rfl,tF u a⟩
theorem JX(h:j0 H s S w A q)(x:Int)(g:Nat):aD 170 [ptr s,dZ x g] H fun v J=>ak (v=(if A.yC x g then .tuple [i64 (w.key x),i64 0].toArray else .tuple [i64 0,i64 33].toArray)/\lQ s S H J w A q):=by
 have C:=h.slt;have B:=h.Of.1;refine aL C0 ?_;refine vs ?_;have r:af H (H.new 52 [i64 x,.int .u32 (g:Int)]):=bm;have b0:(H.new 52 [i64 x,.int .u32 (g:Int)]).own H.size=some [i64 x,.int .u32 (g:Int)]:=am _ _ _;generalize H.new 52 [i64 x,.int .u32 (g:Int)]=H0 at*;have d:=h.ext r (fun _ _ h=>h);by_cases m:A.yC x g
 ·obtain⟨p,rfl⟩:=id m;rw[if_pos m];refine(jH d p).mono ?_;rintro _ z ⟨y,P,rfl,n⟩;refine vs ?_;obtain⟨a,e,L⟩:=lR z 148 ml [i64 y.2.1,u64 y.2.2];generalize (z.new 148 ml).wr z.size [i64 y.2.1,u64 y.2.2]=o at*;refine v1 (ae e) ?_;obtain⟨K,c,_,u,_⟩:=B.nl p;rw[P]at c;injection c with c;subst c;rw[u];obtain⟨f,n,t,j⟩:=n;exact⟨rfl,wH r (iT (n.ext a (fun _ _ h=>h)) (t.trans (a.mono fun _ _ h=>h.elim)) j)⟩
 ·rw[if_neg m];refine(sQ d m).mono ?_;rintro _ z ⟨rfl,f,n,t,j⟩;refine vs ?_;obtain⟨a,e,L⟩:=lR z 148 ml [i64 0,u64 0];generalize (z.new 148 ml).wr z.size [i64 0,u64 0]=o at*;refine v1 (ae e) ?_;exact⟨rfl,wH r (iT (n.ext a (fun _ _ h=>h)) (t.trans (a.mono fun _ _ h=>h.elim)) j)⟩
theorem yF(h:j0 H s S w A q){g:Nat}(y:¬A.yC x g)(key:Int):aD 165 [ptr s,dZ x g,i64 key] H fun v J=>ak (v=i64 33/\lQ s S H J w A q):=by
 refine aL iJ ?_;refine vs ?_;have a:af H (H.new 52 [i64 x,.int .u32 (g:Int)]):=bm;have b0:(H.new 52 [i64 x,.int .u32 (g:Int)]).own H.size=some [i64 x,.int .u32 (g:Int)]:=am _ _ _;generalize H.new 52 [i64 x,.int .u32 (g:Int)]=H0 at*;refine(sQ (h.ext a (fun _ _ h=>h)) y).mono ?_;rintro _ z ⟨rfl,r,c,m,e⟩;refine vs ?_;obtain⟨n,j,p⟩:=lR z 148 ml [i64 0,u64 0];generalize (z.new 148 ml).wr z.size [i64 0,u64 0]=t at*;refine ai.dec (fun d=>O) (fun _=>?_);refine vs ?_;exact⟨rfl,wH a (iT (c.ext n (fun _ _ h=>h)) (m.trans (n.mono fun _ _ h=>h.elim)) e)⟩
theorem HW(h:j0 H s S w A q)(c:¬w.has g)(key:Int):aD 162 [ptr s,i64 g,i64 key] H fun v J=>ak (v= .tuple [dZ 0 0,i64 171].toArray/\lQ s S H J w A q):=by
 have u:=h.slt;have a:=h;obtain⟨t,P,I,Sn,B,k,d,n,hi,m,e,r,j,o,f⟩:=h;refine aL mC ?_;refine vs ?_;have x:af H (H.new 52 cB):=bm;have b0:(H.new 52 cB).own H.size=some cB:=am _ _ _;generalize H.new 52 cB=H0 at*;have y:=x.own e (fun h=>h);refine v1 (ae y) ?_;refine(n.has g (n.ext hi x (fun _ _ h=>h))).mono ?_;rintro _ _ ⟨rfl,rfl⟩;rw[alc c];refine v1 b0 ?_;obtain⟨p,z⟩:=Ij b0 cB;refine v1 (ae z) ?_;exact⟨rfl,DZ (tF (a.ext x (fun _ _ h=>h)) (aj.refl _ _)) Z (aB b0) O x⟩
theorem JY(h:j0 H s S w A q)(c:¬w.has g):aD 212 [ptr s,i64 g] H fun v J=>ak (v= .tuple [dZ 0 0,i64 171].toArray/\lQ s S H J w A q):=by
 have u:=h.slt;have a:=h;obtain⟨t,P,I,Sn,B,k,d,n,hi,m,e,r,j,o,f⟩:=h;refine aL nJ ?_;refine vs ?_;have x:af H (H.new 52 cB):=bm;have b0:(H.new 52 cB).own H.size=some cB:=am _ _ _;generalize H.new 52 cB=H0 at*;have y:=x.own e (fun h=>h);refine v1 (ae y) ?_;refine(n.has g (n.ext hi x (fun _ _ h=>h))).mono ?_;rintro _ _ ⟨rfl,rfl⟩;rw[alc c];refine v1 b0 ?_;obtain⟨p,z⟩:=Ij b0 cB;refine v1 (ae z) ?_;exact⟨rfl,DZ (tF (a.ext x (fun _ _ h=>h)) (aj.refl _ _)) Z (aB b0) O x⟩
theorem Gy(h:j0 H s S w A q)(t:¬w.has g):aD 163 [ptr s,i64 g] H fun v J=>ak (v= .tuple [dZ 0 0,i64 0,i64 171].toArray/\lQ s S H J w A q):=by
 have u:=h.slt;refine aL rL ?_;refine vs ?_;have m:af H (H.new 52 cB):=bm;have b0:(H.new 52 cB).own H.size=some cB:=am _ _ _;generalize H.new 52 cB=H0 at*;refine(JY (h.ext m (fun _ _ h=>h)) t).mono ?_;rintro _ z ⟨rfl,x⟩;have c:=aJ x b0 Z;refine vs ?_;obtain⟨a,p,B⟩:=lR z 52 cB [i64 0,Value.int .u32 ((0:Nat):Int)];generalize (z.new 52 cB).wr z.size [i64 0,Value.int .u32 ((0:Nat):Int)]=j at*;have n:=a.own c (fun h=>h);refine ai.dec (fun f=>O) (fun _=>?_);refine v1 n ?_;obtain⟨o,e⟩:=Ij n cB;refine v1 (ae e) ?_;obtain⟨d,x,y,r⟩:=x;exact⟨rfl,DZ (iT (x.ext a (fun _ _ h=>h)) (y.trans (a.mono fun _ _ h=>h.elim)) r) Z (aB b0) O m⟩
theorem As(h:j0 H s S w A q)(t:¬w.has g):aD 164 [ptr s,i64 g] H fun v J=>ak (v= .tuple [dZ 0 0,i64 0,i64 171].toArray/\lQ s S H J w A q):=by
 have u:=h.slt;refine aL jk ?_;refine vs ?_;have m:af H (H.new 52 cB):=bm;have b0:(H.new 52 cB).own H.size=some cB:=am _ _ _;generalize H.new 52 cB=H0 at*;refine(Gy (h.ext m (fun _ _ h=>h)) t).mono ?_;rintro _ z ⟨rfl,x⟩;have c:=aJ x b0 Z;refine vs ?_;obtain⟨a,p,B⟩:=lR z 52 cB [i64 0,Value.int .u32 ((0:Nat):Int)];generalize (z.new 52 cB).wr z.size [i64 0,Value.int .u32 ((0:Nat):Int)]=j at*;have n:=a.own c (fun h=>h);refine ai.dec (fun f=>O) (fun _=>?_);refine v1 n ?_;obtain⟨o,e⟩:=Ij n cB;refine v1 (ae e) ?_;obtain⟨d,x,y,r⟩:=x;exact⟨rfl,DZ (iT (x.ext a (fun _ _ h=>h)) (y.trans (a.mono fun _ _ h=>h.elim)) r) Z (aB b0) O m⟩
theorem P9{t:TypeId}{j:Value}{I:Hp->(Nat->Prop)->Nw->Prop}{B:Nj}{v y:Hp}{c:Option Nat}(n:qq (.iface t j) I)(m:EF H B A)(u:H.own s=some [i64 k,i64 d,ptr B.a,.iface t j,u64 q])(U:∀z,Sn z->¬B.S z/\z≠s)(P:¬B.S s)(D:∀z,S z↔Sn z\/B.S z\/z=s)(K:Ci w A)(C:A.live x)
  (f:br I Sn H v (w.put x (0,0,0)))(F:EF y ⟨B.a,B.sb,c⟩ (A.back x))(e:aj B.S v y)(L:∀z,c=some z->B.fo=some z\/v.size<=z):lQ s S H y (w.put x (0,0,0)) (A.back x) q:=by
 obtain⟨p,o,r,X⟩:=f;have V:∀z,B.S z->z<H.size:=m.slt;have E:=aB u;have z1:=r.size;have z2:=e.size;have T3:=fun z a=>n.slt o z a;have W:∀z,(Nj.mk B.a B.sb c).S z->B.S z\/v.size<=z:=fun z a=>by
  rcases a with h|h|h
  ·exact .inl (.inl h)
  ·exact .inl (.inr (.inl h))
  ·exact(L z h).imp_left fun h=>.inr (.inr h)
 refine⟨fun z=>p z\/(Nj.mk B.a B.sb c).S z\/z=s,⟨t,j,I,p,⟨B.a,B.sb,c⟩,k,d,n,n.ext o e (fun z a M=>?_),F,e.own (r.own u Z) P,fun z a=>?_,fun h=>?_,fun z=>Iff.rfl,K.put (Ar.kN C) rfl⟩,?_,fun z a=>?_⟩
 ·grind
 ·grind
 ·grind
 ·exact⟨O,fun z a f=>by cases e;cases r;grind⟩
 grind
theorem D0(h:j0 H s S w A q)(x:Int)(g:Nat):aD 167 [ptr s,dZ x g] H fun v J=>ak (
  (¬A.yC x g/\v= .tuple [i64 0,i64 33].toArray/\lQ s S H J w A q)\/(A.yC x g/\v= .tuple [i64 (w.key x),i64 0].toArray/\lQ s S H J (w.put x (0,0,0)) (A.back x) q)):=by
 have wz:=h.slt;have j:=h.Of.1;refine aL xx ?_;refine vs ?_;have P:af H (H.new 52 [i64 x,.int .u32 (g:Int)]):=bm;have b0:(H.new 52 [i64 x,.int .u32 (g:Int)]).own H.size=some [i64 x,.int .u32 (g:Int)]:=am _ _ _;generalize H.new 52 [i64 x,.int .u32 (g:Int)]=H0 at*;have U:=h.ext P (fun _ _ h=>h);by_cases o:A.yC x g
 ·obtain⟨c,rfl⟩:=id o;refine(jH U c).mono ?_;rintro _ H1 ⟨y,hy,rfl,z⟩;have M:=aJ z b0 Z;obtain⟨u,z,e,p⟩:=z;have T3:=z.slt;have z1:=e.size;have n1:¬u H.size:=fun h=>by rcases p _ h with h|h;have:=wz _ h;omega;have:=aB b0;omega
  refine vs ?_;obtain⟨a,C,z2⟩:=lR H1 148 ml [i64 y.2.1,u64 y.2.2];have n2:¬u H1.size:=Z;generalize Ns:H1.size=X at*;generalize (H1.new 148 ml).wr X [i64 y.2.1,u64 y.2.2]=D at*;have K:=a.own M (fun h=>h);have h2:=z.ext a (fun _ _ h=>h);refine ai.dec (fun _=>?_) (fun W=>absurd trivial W);obtain⟨t,vv,I,Sn,B,k,d,n,hi,m,L,d1,d2,hS,j⟩:=h2;refine v2 (ae L) (ae K) ?_;refine(n.delete x hi).mono ?_;rintro _ H3 (⟨kV,_⟩| ⟨_,rfl,V⟩)
  ·exact absurd ((j.live x).2 c) kV
  obtain⟨Sn',Og,r,Mq⟩:=id V;have ho3:=r.own L Z;have E:=r.own K Z;have c4:=r.own C Z;refine v2 (ae ho3) (ae E) ?_;refine(qo (m.ext r Z) c).mono ?_;rintro _ H4 ⟨rfl,T1,m4,F,XM⟩;have c5:=F.own c4 Z;refine v1 (ae c5) ?_;obtain⟨y',f,_,e5,_⟩:=j.nl c;rw[hy]at f;injection f with f;subst f;rw[e5];have hg:=P9 n m L d1 d2 hS j c V m4 F XM;exact .inr ⟨o,rfl,wH P (Gr (e.trans (a.mono fun _ _ h=>h.elim)) p hg)⟩
 ·refine(sQ U o).mono ?_;rintro _ H1 ⟨rfl,u,z,e,p⟩;refine vs ?_;obtain⟨a,C,z2⟩:=lR H1 148 ml [i64 0,u64 0];generalize (H1.new 148 ml).wr H1.size [i64 0,u64 0]=D at*;refine ai.dec (fun W=>O) (fun _=>?_);refine vs ?_;exact .inl ⟨o,rfl,wH P (iT (z.ext a (fun _ _ h=>h)) (e.trans (a.mono fun _ _ h=>h.elim)) p)⟩
end
end
end Go.Proofs.YtnanofhkpglbaaaGreatDoor
