/- Texts put behind each other. -/
import Derived.Test.YtjkkkibiegfecaaGreatDoorK30
set_option linter.unusedSimpArgs false
set_option linter.unusedVariables false
set_option maxRecDepth 100000
set_option maxHeartbeats 8000000
namespace Go.Proofs.YtjkkkibiegfecaaGreatDoor
open Go Go.Vc
section
variable{d st x:Int}{n c a b:Nat}{rv:Value}{fp:Option Nat}
structure Rw where
 r:Nat
 S:Nat->Prop
 l:List Int
 pl:Int->Option Int
def MV:Option Rw->Value
 |none=>.pointer none
 |some R=>ptr R.r
structure gB(H:Hp)(n c:Nat)(C:Nat->Prop)(rv:Value)(fp:Option Nat)(d st:Int)(w:Nw)(rs:List (Option Rw)):Prop where
 own:H.own n=some [ptr c,i64 d,rv]
 cells:bk H c C st w
 sl:Sl H 1 rv rs.length (rs.map MV) fp
 row:∀ (h:Nat) R,rs[h]? =some (some R)->dB H R.r R.S d R.l R.pl
 nC:¬C n
 uK:∀b,fp=some b->b≠n/\¬C b
 lj:∀ (h:Nat) R,rs[h]? =some (some R)->∀x,R.S x->¬C x/\x≠n/\fp≠some x
 sW:∀ (h h':Nat) R R',rs[h]? =some (some R)->rs[h']? =some (some R')->h≠h'->∀x,R.S x->¬R'.S x
def yy(n:Nat)(C:Nat->Prop)(fp:Option Nat)(rs:List (Option Rw))(z:Nat):Prop:=C z\/z=n\/fp=some z\/∃ (h:Nat) (R:Rw),rs[h]? =some (some R)/\R.S z
structure Gh(d:Int)(w:Nw)(rs:List (Option Rw)):Prop where
 pZ:cX d
 hl:rs.length=w.hs.length
 hs:∀h:Nat,w.hs[h]? =some true↔∃R,rs[h]? =some (some R)
 h0:rs[0]? =some none
 ok:∀ (h:Nat) R,rs[h]? =some (some R)->bL (aU w) d R.l R.pl
 mem:∀ (h:Nat) R,rs[h]? =some (some R)->∀x:Int,x∈R.l↔0<=x/\∃e,w.cs[x.toNat]? =some (((h:Nat):Int),e)
 len:∀ (h:Nat) R,rs[h]? =some (some R)->(R.l.length:Int)=w.len h
def dc(H:Hp)(n:Nat)(S:Nat->Prop)(d st:Int)(w:Nw):Prop:=∃c C rv fp rs,gB H n c C rv fp d st w rs/\Gh d w rs/\(∀z,yy n C fp rs z↔S z)
theorem gB.slt{H:Hp}{C:Nat->Prop}{w:Nw}{rs:List (Option Rw)}(h:gB H n c C rv fp d st w rs):∀z,yy n C fp rs z->z<H.size:=by
 rintro z (x|rfl|x| ⟨i,R,l,x⟩)
 ·exact h.cells.slt z x
 ·exact aC h.own
 ·exact Sl.lt (x▸h.sl)
 ·exact(h.row i R l).slt z x
theorem gB.ext{H J:Hp}{C T:Nat->Prop}{w:Nw}{rs:List (Option Rw)}(h:gB H n c C rv fp d st w rs)(e:aj T H J)(l:∀z,yy n C fp rs z->¬T z):gB J n c C rv fp d st w rs:=
 ⟨e.own h.own (l n (.inr (.inl rfl))),h.cells.ext e (fun x a=>l x (.inl a)),h.sl.ext e (fun b v=>l b (.inr (.inr (.inl v)))),fun i R m=>(h.row i R m).ext e (fun x a=>l x (.inr Z)),h.nC,h.uK,h.lj,h.sW⟩
theorem dc.slt{H:Hp}{S:Nat->Prop}{w:Nw}(h:dc H n S d st w):∀z,S z->z<H.size:=by
 obtain⟨c,C,rv,fp,rs,m,l,x⟩:=h;exact fun z a=>m.slt z ((x z).2 a)
theorem dc.ext{H J:Hp}{S T:Nat->Prop}{w:Nw}(h:dc H n S d st w)(e:aj T H J)(a:∀z,S z->¬T z):dc J n S d st w:=by
 obtain⟨c,C,rv,fp,rs,m,l,x⟩:=h;exact⟨c,C,rv,fp,rs,m.ext e Z,l,x⟩
theorem dc.fresh{H J:Hp}{S:Nat->Prop}{w:Nw}(h:dc H n S d st w)(e:af H J):dc J n S d st w:=h.ext e fun _ _ h=>h
theorem vy(cap d:Int)(H:Hp):aF 74 [i64 cap,i64 d] H fun v J=>ak (
  af H J/\((¬ (0<=cap/\cap<=65536)/\v= .tuple [.pointer none,i64 31].toArray)\/((0<=cap/\cap<=65536)/\¬cX d/\v= .tuple [.pointer none,i64 22].toArray)\/
   ((0<=cap/\cap<=65536)/\cX d/\∃n S,v= .tuple [ptr n,i64 0].toArray/\dc J n S d 0 ⟨[false],List.replicate cap.toNat (0,0,0)⟩/\∀x,S x->H.size<=x))):=by
 refine aT Kl ?_;refine vs ?_;refine(kw cap H).mono ?_;rintro _ q ⟨e,⟨m,rfl⟩| ⟨m,c,C,rfl,j,u⟩⟩
 ·refine vs ?_;exact⟨e,.inl ⟨m,rfl⟩⟩
 refine vs ?_;refine(vp d q).mono ?_;rintro _ a ⟨g,⟨y,rfl⟩| ⟨y,r,S,rfl,K,A⟩⟩
 ·refine vs ?_;exact⟨e.trans g,.inr (.inl ⟨m,y,rfl⟩)⟩
 refine v1 ajZ ?_;have p:af a ((a.new 205 [.pointer none]).new 210 [ptr c,i64 d,.slice (some ⟨a.size,0,none⟩) 1 1]):=bD.new _ _;have F:=e.size;have Q:=g.size;have o:=j.slt;refine⟨(e.trans g).trans p,.inr (.inr ⟨m,y,a.size+1,yy (a.size+1) C (some a.size) [none],rfl,⟨c,C,.slice (some ⟨a.size,0,none⟩) 1 1,some a.size,[none],
  ⟨az (by simp only[ag]),(j.fresh g).fresh p,?_,fun h R l=>?_,Z,fun b m=>?_,fun h R l=>?_,fun h f R R' l=>?_⟩,
  ⟨y,rfl,fun h=>?_,rfl,fun h R l=>?_,fun h R l=>?_,fun h R l=>?_⟩,fun z=>Iff.rfl⟩,fun x t=>?_⟩)⟩
 ·exact(Sl.bJ (size:=1) (n:=1) (xs:=[.pointer none]) rfl rfl).ext ((aj.refl (fun _=>False) _).new _ _) (fun _ _ h=>h)
 ·rcases h with _|h<;>simp at l
 ·injection m with m;subst m;exact⟨O,fun h=>by have:=o _ h;omega⟩
 ·rcases h with _|h<;>simp at l
 ·rcases h with _|h<;>simp at l
 ·rcases h with _|h<;>simp
 ·rcases h with _|h<;>simp at l
 ·rcases h with _|h<;>simp at l
 ·rcases h with _|h<;>simp at l
 ·rcases t with t|rfl|t| ⟨i,R,l,t⟩
  ·grind
  ·omega
  ·grind
  grind
theorem yz{C:Nat->Prop}{w:Nw}(t:¬C n):KK (.iface 144 (ptr n)) (fun H k=>bk H c C (min (st+k) 4611686018427387904) w/\H.own n=some [ptr c,i64 d,rv])
  (fun x=>C x\/x=n) (aU w) (cz w.cs):=by
 refine⟨fun H k a b m g h=>⟨_,_,262,ptr c,rfl,cC (off:=0) Y (ae h.2) rfl,(iN h.1 a b).mono ?_⟩,Wu (x:=(0,262)) Y,fun H J k U h e y=>?_,fun H k h x l=>?_⟩
 ·rintro v J ⟨rfl,z,e⟩;rw[if_pos ⟨m,g⟩]at z;have j:fR (min (st+(k:Nat)) 4611686018427387904) 1=min (st+((k+1:Nat):Int)) 4611686018427387904:=by
   unfold fR;rw[if_neg O];omega
  rw[j]at z;exact⟨by rw[tH m g],⟨z,e.own h.2 t⟩,e.mono Z⟩
 ·exact⟨h.1.ext e Z,e.own h.2 (y n (.inr rfl))⟩
 ·rcases l with l|rfl
  ·exact h.1.slt x l
  ·exact aC h.2
theorem DN{H:Hp}{S:Nat->Prop}{w:Nw}(h:dc H n S d st w):aF 225 [ptr n] H fun v J=>ak (
  (w.hs.length=65537/\v=i64 0/\H=J)\/
  (w.hs.length≠65537/\v=i64 w.hs.length/\∃E,dc J n E d st w.make/\aj S H J/\∀x,E x->S x\/H.size<=x)):=by
 obtain⟨c,C,rv,fp,rs,m,l,j⟩:=h;refine aT zt ?_;refine v1 (ae m.own) ?_;refine(jx m.cells).mono ?_;rintro _ H1 (⟨G,rfl,rfl⟩| ⟨G,rfl,Q,X,f,Y9⟩)
 ·refine vs ?_;exact .inl ⟨G,rfl,rfl⟩
 have pV:0<rs.length:=(ajK.1 l.h0).1;have ze:=l.hl;have o1:=f.own m.own m.nC;refine vs ?_;refine ai.bY Z ?_;refine v1 (ae o1) ?_;refine(vp d H1).mono ?_;rintro _ A ⟨q,⟨hf,_⟩| ⟨_,r,K,rfl,r2,hSr⟩⟩
 ·exact absurd l.pZ hf
 have o2:=q.own o1 (fun h=>h);refine v1 (ae o2) ?_;have JP:=m.cells.JP;have D:=m.slt;have aaO:=X.slt;have LP:=r2.slt;have z1:=f.size;have z2:=q.size;have U:aj (fun _=>False) A (A.new 205 [ptr r]):=bD;have Za:=(m.sl.ext f (fun b o h=>(m.uK b o).2 h)).ext q (fun _ _ h=>h);refine Sl.append (Za.ext U (fun _ _ h=>h)) (Sl.bJ (size:=1) (xs:=[ptr r]) rfl rfl).rd rfl (by intro v hv;simp only[aj6]at hv;subst hv;rfl) O ?_;intro M H3 I s3 e3 yc;have o3:=e3.own (U.own o2 (fun h=>h)) (fun e=>(m.uK n e).1 rfl);obtain⟨a',JR,Vg⟩:=bX.Dh s3.rd;subst Vg;refine v1 o3 ?_;generalize Vg:Value.slice a' (rs.length+1) JR=M at*;have u:aj (fun z=>z=n) H3 (H3.wr n [ptr c,i64 d,M]):=(aj.refl (fun z=>z=n) _).wr (fun _=>rfl) _;have hn:=aC m.own;have afI:∀b,fp=some b->b<H.size:=fun b o=>D b (.inr (.inr (.inl o)));have hCl:∀z,C z->z<H.size:=fun z p=>D z (.inl p);have QQ:∀b,I=some b->fp=some b\/A.size<=b:=fun b o=>by
  grind [ag]
 have Y2:∀z,Q z->C z\/H.size<=z:=Y9;have F:aj (fun z=>fp=some z) A H3:=(U.mono fun _ _ h=>h.elim).lN e3 (fun z _ h=>h);have t:∀ (h:Nat) R,(rs++[some (⟨r,K,[],fun _=>none⟩:Rw)])[h]? =some (some R)->rs[h]? =some (some R)\/(h=rs.length/\R=⟨r,K,[],fun _=>none⟩):=Z;have hold:∀ (h:Nat) R,rs[h]? =some (some R)->∀x,R.S x->¬C x/\x≠n/\fp≠some x/\x<H.size:=fun h R a x g=>
  ⟨(m.lj h R a x g).1,(m.lj h R a x g).2.1,(m.lj h R a x g).2.2,D x (.inr Z)⟩
 have WV:∀ (x:Nat) (e:Int×Int),w.cs[x]? ≠some (((rs.length:Nat):Int),e):=fun x e g=>by
  have:=(m.cells.home _ (ajV g)).2;omega
 refine .inr ⟨G,rfl,yy n Q I (rs++[some ⟨r,K,[],fun _=>none⟩]),⟨c,Q,M,I,rs++[some ⟨r,K,[],fun _=>none⟩],
  ⟨ah o3,?_,?_,fun h R a=>?_,fun h=>?_,fun b o=>⟨?_,fun h=>?_⟩,fun h R a x g=>⟨fun h=>?_,?_,fun h=>?_⟩,fun h h' R R' a hR' nj x g Ta=>?_⟩,
  ⟨l.pZ,?_,fun h=>?_,?_,fun h R a=>?_,fun h R a x=>?_,fun h R a=>?_⟩,fun z=>Iff.rfl⟩,?_,fun x g=>?_⟩
 ·exact(((X.ext q (fun _ _ h=>h)).ext F (fun x g e=>by
   cases m;grind)).ext u (fun x g e=>by
   cases m;grind))
 ·have:=s3.ext u (fun b o e=>by
   cases m;grind)
  rw[ajW,akn];exact this
 ·rcases t h R a with y| ⟨rfl,rfl⟩
  ·exact((((m.row h R y).ext f Z).ext q (fun _ _ h=>h)).ext F Z).ext u Z
  ·exact(r2.ext F Z).ext u Z
 ·cases m;grind
 ·cases m;grind
 ·cases m;grind
 ·rcases t _ R a with y| ⟨_,rfl⟩
  ·grind
  grind
 ·rcases t _ R a with y| ⟨_,rfl⟩
  ·grind
  grind
 ·rcases t _ R a with y| ⟨_,rfl⟩
  ·grind
  grind
 ·cases m;grind
 ·simp[Nw.make,ze]
 ·show(w.hs++[true])[h]? =some true↔_;cases l;grind
 ·cases l;grind
 ·rcases t h R a with y| ⟨rfl,rfl⟩
  ·exact l.ok h R y
  ·exact bL.nil _ _
 ·rcases t h R a with y| ⟨rfl,rfl⟩
  ·exact l.mem h R y x
  ·simp only[List.not_mem_nil,false_iff];rintro⟨_,e,he⟩;exact WV _ _ he
 ·rcases t h R a with y| ⟨rfl,rfl⟩
  ·exact l.len h R y
  ·show((0:Nat):Int)=w.len _;unfold Nw.len;rw[if_pos O,alg.2 (fun x g=>by
    have:=(m.cells.home x g).2;grind)]
 ·exact((f.mono fun z _ p=>(j z).1 (.inl p)).trans ((q.mono fun _ _ h=>h.elim).trans (F.mono fun z _ p=>(j z).1 (.inr (.inr (.inl p)))))).trans (u.mono fun z _ p=>(j z).1 (.inr (.inl p)))
 ·rcases g with g|rfl|g| ⟨i,R,a,g⟩
  ·rcases Y2 x g with h|h
   ·exact .inl ((j x).1 (.inl h))
   omega
  ·exact .inl ((j x).1 (.inr (.inl rfl)))
  ·rcases QQ x g with h|h
   ·exact .inl ((j x).1 (.inr (.inr (.inl h))))
   omega
  ·rcases t _ R a with y| ⟨_,rfl⟩
   ·exact .inl ((j x).1 (.inr Z))
   grind
theorem Gh.ei{w:Nw}{rs:List (Option Rw)}(l:Gh d w rs){g:Int}(h:w.has g):∃R,rs[g.toNat]? =some (some R):=(l.hs g.toNat).1 h.2
theorem vz{H:Hp}{S:Nat->Prop}{w:Nw}(h:dc H n S d st w)(g:Int):aF 227 [ptr n,i64 g] H fun v J=>ak (
  ((¬w.has g/\v= .tuple [i64 0,.bool false].toArray)\/(w.has g/\w.len g=0/\v= .tuple [i64 0,.bool false].toArray)\/
   (w.has g/\∃x,cz w.cs x/\(∃e,w.cs[x.toNat]? =some (g,e))/\v= .tuple [i64 x,.bool true].toArray/\∀y,0<=y->(∃e,w.cs[y.toNat]? =some (g,e))->y≠x->aU w x y=true))/\H=J):=by
 obtain⟨c,C,rv,fp,rs,m,l,D⟩:=h;refine aT Bg ?_;refine v1 (ae m.own) ?_;refine(gQ m.cells g).mono ?_;rintro _ _ ⟨rfl,rfl⟩;refine vs ?_;refine ai.dec (fun z=>?_) (fun z=>?_)
 ·obtain⟨R,a⟩:=l.ei z;have G:=z.1;have M:=(ajK.1 a).1;obtain⟨b,o,c',F,f,u,U,A⟩:=bX.get m.sl.rd (i:=g.toNat) (j:=0) (x:=ptr R.r) O (by simp[a,MV]);subst f;have p:((g.toNat:Nat):Int)=g:=O;refine v1 (ae m.own) ?_;refine⟨O,?_⟩;refine v2 u (show F[o+g.toNat*1]? =some (ptr R.r)from A) ?_;refine(He (m.row _ R a) 0).mono ?_;rintro _ _ ⟨rfl,rfl⟩;have q:=l.mem _ R a;rw[p]at q;have K:=l.len _ R a;rw[p]at K;rw[show(if(0:Int)<=0 then R.l[Int.toNat 0]? else none)=R.l[0]? from rfl,Qu];cases I:R.l[0]? with
  |none=>
   have:R.l.length=0:=by
    rcases Nat.eq_zero_or_pos R.l.length with h|h
    ·exact h
    ·grind
   simp(disch:=(first|exact aV|fail)) only[go_sem, ↓reduceIte,Zv,Option.isSome_none,Option.getD_none];exact⟨.inr (.inl ⟨z,O,rfl⟩),rfl⟩
  |some x=>
   simp(disch:=(first|exact aV|fail)) only[go_sem, ↓reduceIte,Zv,Option.isSome_some,Option.getD_some];obtain⟨Q,e,t⟩:=(q x).1 Z;refine⟨.inr (.inr ⟨z,x,⟨Q,_,t,O⟩,⟨e,t⟩,rfl,fun y hy0 X E=>?_⟩),rfl⟩;cases l;grind [bL.least,au]
 ·refine vs ?_;exact⟨.inl ⟨z,rfl⟩,rfl⟩
theorem gB.setRow{H J:Hp}{C T:Nat->Prop}{U:Int}{w w':Nw}{rs:List (Option Rw)}(m:gB H n c C rv fp d st w rs){g:Nat}{R R':Rw}(f:rs[g]? =some (some R))(G:R'.r=R.r)
  (row:dB J R'.r R'.S d R'.l R'.pl)(u:∀z,R'.S z->R.S z\/H.size<=z)(e:aj T H J)(E:∀z,T z->C z\/R.S z\/z=n)(cells:bk J c C U w')(own:J.own n=some [ptr c,i64 d,rv]):
  gB J n c C rv fp d U w' (rs.set g (some R')):=by
 have v:=m.slt;have hg:=(ajK.1 f).1;have a:∀ (h:Nat) Q,(rs.set g (some R'))[h]? =some (some Q)->(h=g/\Q=R')\/(h≠g/\rs[h]? =some (some Q)):=Z;refine⟨own,cells,?_,fun h Q l=>?_,m.nC,m.uK,fun h Q l x y=>?_,fun h K Q A l F nj x y M=>?_⟩
 ·have t:(rs.set g (some R')).map MV=rs.map MV:=by
   rw[akd];refine akb fun i=>?_;by_cases hi:i=g
   ·subst hi;rw[ajY Z,aj9,f];simp[MV,G]
   ·grind
  rw[t,ajN];exact m.sl.ext e (fun b X D=>by
   cases m;grind)
 ·rcases a h Q l with ⟨rfl,rfl⟩| ⟨t,j⟩
  ·exact row
  ·exact(m.row h Q j).ext e (fun x y D=>by
    cases m;grind)
 ·rcases a h Q l with ⟨rfl,rfl⟩| ⟨t,j⟩
  ·rcases u x y with p|p
   ·exact m.lj _ R f x p
   ·refine⟨fun q=>?_,fun q=>?_,fun q=>?_⟩
    ·have:=v x (.inl q);omega
    ·have:=v n (.inr (.inl rfl));omega
    ·have:=v x (.inr (.inr (.inl q)));omega
  ·exact m.lj h Q j x y
 ·rcases a h Q l with ⟨rfl,rfl⟩| ⟨t,j⟩
  ·rcases a K A F with ⟨rfl,rfl⟩| ⟨p,I⟩
   ·omega
   ·rcases u x y with o|o
    ·cases m;grind
    ·have:=v x (.inr Z);omega
  ·rcases a K A F with ⟨rfl,rfl⟩| ⟨p,I⟩
   ·rcases u x M with o|o
    ·cases m;grind
    ·have:=v x (.inr Z);omega
   cases m;grind
theorem QR(lt:Int->Int->Bool)(z:cX d)(x:Int){m:Nat}(l:List Int)(pl:Int->Option Int){i:Int}(hi:1<=i)(hm:i.toNat<=m):0< (fG lt d x m l pl i).asked:=by
 obtain⟨q,rfl⟩:∃q,m=q+1:=⟨m - 1,O⟩;have h:bv d i=some ((i - 1) / d):=by unfold bv;grind
 simp only[fG,h];split<;>simp
theorem An{H:Hp}{S:Nat->Prop}{w:Nw}(h:dc H n S d st w)(g x k s:Int):aF 223 [ptr n,i64 g,i64 x,mE k s] H fun v J=>ak (
  (¬ (w.has g/\(0<=x/\x<w.cs.length)/\¬cz w.cs x)/\v= .bool false/\dc J n S d st w/\aj S H J)\/
  ((w.has g/\(0<=x/\x<w.cs.length)/\¬cz w.cs x)/\v= .bool true/\∃ (u:Nat->Prop) (q:Nat),(q:Int)<=ix d (w.len g).toNat/\(0<w.len g->0<q)/\dc J n u d (min (st+q) 4611686018427387904) (w.put x (g,k,s))/\aj S H J/\∀z,u z->S z\/H.size<=z)):=by
 obtain⟨c,C,rv,fp,rs,m,l,K⟩:=h;refine aT wh ?_;refine vs ?_;have F:af H (H.new 190 [i64 k,u64 s]):=bD;have b0:(H.new 190 [i64 k,u64 s]).own H.size=some [i64 k,u64 s]:=am _ _ _;have A:=m.ext F (fun _ _ h=>h);generalize H.new 190 [i64 k,u64 s]=H0 at*;refine v2 (ae A.own) (ae b0) ?_;refine(kA A.cells g x k s).mono ?_;rintro _ H1 (⟨mT,rfl,G,f⟩| ⟨Hs,rfl,G,f⟩)
 ·refine vs ?_;refine .inl ⟨mT,rfl,⟨c,C,rv,fp,rs,?_,l,K⟩,(F.mono fun _ _ h=>h.elim).trans (f.mono fun z _ a=>(K z).1 (.inl a))⟩;exact⟨f.own A.own m.nC,G,A.sl.ext f (fun b D h=>(m.uK b D).2 h),fun i R t=>(A.row i R t).ext f (fun x hx=>(m.lj i R t x hx).1),m.nC,m.uK,m.lj,m.sW⟩
 ·obtain⟨hh,⟨kh,Ew⟩,mA⟩:=id Hs;obtain⟨R,t⟩:=l.ei hh;have h1:=hh.1;have ON:((g.toNat:Nat):Int)=g:=O;have pQ:=l.mem _ R t;have ec:=l.len _ R t;rw[ON]at pQ ec;obtain⟨c0,hc0⟩:∃c0,w.cs[x.toNat]? =some c0:=Z;have EA:¬0<c0.1:=fun h=>mA ⟨kh,c0,hc0,h⟩;have ke:(w.put x (g,k,s)).cs[x.toNat]? =some (g,k,s):=ajY O;have yv:∀y:Nat,y≠x.toNat->(w.put x (g,k,s)).cs[y]? =w.cs[y]? :=fun y I=>ajT (Ne.symm I);have Tj:∀ (i:Nat) Q,rs[i]? =some (some Q)->x∉Q.l:=fun i Q p hm=>by
   cases l;grind
  have E:∀ (i:Nat) Q,rs[i]? =some (some Q)->∀y∈Q.l,0<=y/\y.toNat≠x.toNat:=fun i Q p y I=>by
   cases l;grind
  have WW:∀ (i:Nat) Q,rs[i]? =some (some Q)->bL (aU (w.put x (g,k,s))) d Q.l Q.pl:=fun i Q p=>
   bL.congr l.pZ (l.ok i Q p) fun z a y I=>(gS w x _ (E i Q p z a).2 (E i Q p y I).2).symm
  have DL:∀z∈R.l,cz (w.put x (g,k,s)).cs z:=fun z a=>by
   obtain⟨z0,e,he⟩:=(pQ z).1 a;exact⟨z0,_,by rw[yv _ (E _ R t z a).2];exact he,O⟩
  have Tk:cz (w.put x (g,k,s)).cs x:=⟨kh,_,ke,O⟩;have o1:=f.own A.own m.nC;have QP:=m.cells.st;have m1:gB H1 n c C rv fp d st (w.put x (g,k,s)) rs:=⟨o1,G,A.sl.ext f (fun b D h=>(m.uK b D).2 h),fun i R t=>(A.row i R t).ext f (fun x hx=>(m.lj i R t x hx).1),m.nC,m.uK,m.lj,m.sW⟩;have iC:=(ajK.1 t).1;obtain⟨b,o,c',lb,q1,q2,q3,q4⟩:=bX.get m1.sl.rd (i:=g.toNat) (j:=0) (x:=ptr R.r) O (by simp[t,MV]);subst q1;refine v1 (ae o1) ?_;refine⟨O,?_⟩;refine v2 q2 (show lb[o+g.toNat*1]? =some (ptr R.r)from q4) ?_;have uH:=m.cells.zf;have ze:R.l.length<=65536:=by have:=(w.kt g).2;omega
  refine(vr (yz (c:=c) (rv:=.slice (some ⟨b,o,none⟩) rs.length c') (d:=d) (st:=st) (w:=w.put x (g,k,s)) m.nC) (m1.row _ R t) (fun z a ht=>?_) (n:=0) Z x O Tk DL).mono ?_
  ·cases m;grind
  rintro _ H2 (⟨X,_,_⟩| ⟨X,rfl,u,r2,⟨c2,o2⟩,e2,W6⟩)
  ·exact absurd ((bL.mem (l.ok _ R t) x).2 X) (Tj _ R t)
  obtain⟨p1,p2,p3,p4⟩:=bL.add (au (w.put x (g,k,s))) l.pZ (WW _ R t) X;have hq:0<R.l.length->0< (fG (aU (w.put x (g,k,s))) d x R.l.length (R.l++[x]) R.pl R.l.length).asked:=fun h=>QR _ l.pZ x _ _ O O;generalize hU:fG (aU (w.put x (g,k,s))) d x R.l.length (R.l++[x]) R.pl R.l.length=U at*;rw[ajJ]at c2;refine vs ?_;have LS:∀z,(R.S z\/C z\/z=n)->S z:=fun z a=>(K z).1 (by
   rcases a with a|a|a
   ·exact .inr Z
   ·exact .inl a
   ·exact .inr (.inl a))
  have M:∀ (h:Nat) Q,(rs.set g.toNat (some (⟨R.r,u,U.l,U.pl⟩:Rw)))[h]? =some (some Q)->(h=g.toNat/\Q=⟨R.r,u,U.l,U.pl⟩)\/(h≠g.toNat/\rs[h]? =some (some Q)):=Z;refine .inr ⟨Hs,rfl,yy n C fp (rs.set g.toNat (some ⟨R.r,u,U.l,U.pl⟩)),U.asked,?_,O,
   ⟨c,C,_,fp,rs.set g.toNat (some ⟨R.r,u,U.l,U.pl⟩),m1.setRow t (R':=⟨R.r,u,U.l,U.pl⟩) rfl r2 W6 e2 (fun z a=>?_) c2 o2,
    ⟨l.pZ,by rw[ajN];exact l.hl,fun h=>?_,?_,fun h Q p=>?_,fun h Q p y=>?_,fun h Q p=>?_⟩,fun z=>Iff.rfl⟩,?_,fun z a=>?_⟩
  ·grind
  ·grind
  ·show w.hs[h]? =some true↔_;rw[l.hs h];grind
  ·cases l;grind
  ·grind
  ·rcases M h Q p with ⟨rfl,rfl⟩| ⟨h5,h6⟩
   ·grind
   cases l;grind
  ·rcases M h Q p with ⟨rfl,rfl⟩| ⟨h5,h6⟩
   ·grind [Nw.gm]
   cases l;grind [Nw.gm]
  ·exact(F.mono fun _ _ h=>h.elim).trans ((f.mono Z).trans (e2.mono Z))
  ·have z0:=F.size;have z1:=f.size;rcases a with a|rfl|a| ⟨i,Q,p,a⟩
   ·grind
   ·grind
   ·exact .inl ((K z).1 (.inr (.inr (.inl a))))
   ·rcases M i Q p with ⟨rfl,rfl⟩| ⟨h5,h6⟩
    ·grind
    ·exact .inl ((K z).1 (.inr Z))
theorem gB.aD{H z:Hp}{C:Nat->Prop}{v:Int}{w:Nw}{rs:List (Option Rw)}(m:gB H n c C rv fp d st w rs)(e:bk z c C v w)(l:aj C H z):gB z n c C rv fp d v w rs:=
 ⟨l.own m.own m.nC,e,m.sl.ext l (fun b g h=>(m.uK b g).2 h),fun i R a=>(m.row i R a).ext l (fun x y=>(m.lj i R a x y).1),m.nC,m.uK,m.lj,m.sW⟩
theorem oE{H:Hp}{S:Nat->Prop}{w:Nw}(h:dc H n S d st w)(x:Int):aF 218 [ptr n,i64 x] H fun v J=>ak (
  (¬cz w.cs x/\v= .bool false/\H=J)\/
  (cz w.cs x/\v= .bool true/\∃ (c0:Ce) (q:Nat),w.cs[x.toNat]? =some c0/\(q:Int)<=d*(ix d (w.len c0.1 - 1):Nat)+1/\∃S',dc J n S' d (min (st+q) 4611686018427387904) (w.put x (0,0,0))/\aj S H J/\∀z,S' z->S z\/H.size<=z)):=by
 obtain⟨c,C,rv,fp,rs,m,l,G⟩:=h;refine aT we ?_;refine v1 (ae m.own) ?_;refine(da m.cells x).mono ?_;rintro _ H1 (⟨E,rfl,rfl⟩| ⟨M,c0,D,rfl,c1,u⟩)
 ·refine vs ?_;exact .inl ⟨E,rfl,rfl⟩
 obtain⟨kh,c0',A,pV⟩:=id M;rw[D]at A;injection A with A;subst A;obtain⟨R,g⟩:=(l.hs c0.1.toNat).1 (m.cells.live _ Z pV);have ON:((c0.1.toNat:Nat):Int)=c0.1:=O;have pQ:=l.mem _ R g;have ec:=l.len _ R g;rw[ON]at pQ ec;have ke:(w.put x (0,0,0)).cs[x.toNat]? =some (0,0,0):=ajY Z;have yv:∀y:Nat,y≠x.toNat->(w.put x (0,0,0)).cs[y]? =w.cs[y]? :=fun y f=>ajT (Ne.symm f);have o1:=u.own m.own m.nC;have m1:gB H1 n c C rv fp d st w rs:=⟨o1,c1,m.sl.ext u (fun b hb h=>(m.uK b hb).2 h),fun i R g=>(m.row i R g).ext u (fun x hx=>(m.lj i R g x hx).1),m.nC,m.uK,m.lj,m.sW⟩;have iC:=(ajK.1 g).1;have hxR:x∈R.l:=Z;have DL:∀z∈R.l,cz w.cs z:=fun z a=>by
  obtain⟨z0,e,he⟩:=(pQ z).1 a;exact⟨z0,_,he,pV⟩
 obtain⟨b,o,c',lb,q1,q2,q3,q4⟩:=bX.get m1.sl.rd (i:=c0.1.toNat) (j:=0) (x:=ptr R.r) O (by simp[g,MV]);subst q1;have QP:=m.cells.st;have uH:=m.cells.zf;have ze:R.l.length<=65536:=by have:=(w.kt c0.1).2;omega
 refine v1 (ae o1) ?_;refine⟨O,?_⟩;refine v2 q2 (show lb[o+c0.1.toNat*1]? =some (ptr R.r)from q4) ?_;refine(Am (yz (c:=c) (rv:=.slice (some ⟨b,o,none⟩) rs.length c') (d:=d) (st:=st) (w:=w) m.nC) (m1.row _ R g) (fun z a ht=>?_) (n:=0) Z l.pZ x O (l.ok _ R g).pl DL).mono ?_
 ·cases m;grind
 rintro _ H2 (⟨X,_,_⟩| ⟨i,X,rfl,r2,⟨c2,o2⟩,e2⟩)
 ·exact absurd X ((bL.mem (l.ok _ R g) x).1 hxR)
 obtain⟨p1,p2,p3,p4⟩:=bL.Tu (au w) l.pZ (l.ok _ R g) X;generalize hU:cT (aU w) d x R.l R.pl i=U at*;rw[ajJ]at c2;refine v1 (ae o2) ?_;refine(jy c2 x).mono ?_;rintro _ H3 (⟨E,_,_⟩| ⟨_,rfl,c3,F⟩)
 ·exact absurd M E
 refine vs ?_;have o3:=F.own o2 m.nC;have Ov:aj (fun z=>R.S z\/C z\/z=n) H1 H3:=e2.trans (F.mono Z);have r3:=r2.ext F (fun z a=>(m.lj _ R g z a).1);have LS:∀z,(R.S z\/C z\/z=n)->S z:=fun z a=>(G z).1 (by
  rcases a with a|a|a
  ·exact .inr Z
  ·exact .inl a
  ·exact .inr (.inl a))
 have K:∀ (h:Nat) Q,(rs.set c0.1.toNat (some (⟨R.r,R.S,U.1,U.2.1⟩:Rw)))[h]? =some (some Q)->(h=c0.1.toNat/\Q=⟨R.r,R.S,U.1,U.2.1⟩)\/(h≠c0.1.toNat/\rs[h]? =some (some Q)):=Z;have MH:∀ (h:Nat) Q,rs[h]? =some (some Q)->0<h:=fun h Q t=>by
  cases l;grind
 have nj:∀ (h:Nat) Q,h≠c0.1.toNat->rs[h]? =some (some Q)->∀y∈Q.l,y.toNat≠x.toNat:=fun h Q hh t y f e=>by
  obtain⟨y0,e',he⟩:=(l.mem h Q t y).1 f;grind
 have Tn:∀y∈U.1,y.toNat≠x.toNat:=Z;refine .inr ⟨M,rfl,c0,U.2.2,D,?_,yy n C fp (rs.set c0.1.toNat (some ⟨R.r,R.S,U.1,U.2.1⟩)),
  ⟨c,C,_,fp,rs.set c0.1.toNat (some ⟨R.r,R.S,U.1,U.2.1⟩),m1.setRow g (R':=⟨R.r,R.S,U.1,U.2.1⟩) rfl r3 Z Ov (fun z a=>?_) c3 o3,
   ⟨l.pZ,by rw[ajN];exact l.hl,fun h=>?_,?_,fun h Q t=>?_,fun h Q t y=>?_,fun h Q t=>?_⟩,fun z=>Iff.rfl⟩,?_,fun z a=>?_⟩
 ·grind
 ·grind
 ·show w.hs[h]? =some true↔_;rw[l.hs h];grind
 ·rw[ajT O];exact l.h0
 ·rcases K h Q t with ⟨rfl,rfl⟩| ⟨I,p⟩
  ·exact bL.congr l.pZ p1 fun z a y f=>(gS w x _ (Tn z a) (Tn y f)).symm
  ·exact bL.congr l.pZ (l.ok h Q p) fun z a y f=>(gS w x _ Z Z).symm
 ·by_cases KM:y.toNat=x.toNat
  ·grind
  ·rw[yv _ KM];rcases K h Q t with ⟨rfl,rfl⟩| ⟨I,p⟩
   ·grind
   ·exact l.mem h Q p y
 ·rcases K h Q t with ⟨rfl,rfl⟩| ⟨I,p⟩
  ·grind [Nw.gm]
  ·have:=MH h Q p;rw[l.len h Q p,Nw.gm D h,if_neg O,if_neg O];omega
 ·exact(u.mono Z).trans (Ov.mono Z)
 ·rcases a with a|rfl|a| ⟨i,Q,t,a⟩
  ·grind
  ·grind
  ·exact .inl ((G z).1 (.inr (.inr (.inl a))))
  ·rcases K i Q t with ⟨rfl,rfl⟩| ⟨I,p⟩
   ·grind
   ·exact .inl ((G z).1 (.inr Z))
theorem yA{H:Hp}{S:Nat->Prop}{w:Nw}(h:dc H n S d st w)(g:Int):aF 220 [ptr n,i64 g] H fun v J=>ak (
  ((¬w.has g\/(w.has g/\w.len g=0))/\v= .tuple [i64 0,.bool false].toArray/\H=J)\/
  (w.has g/\∃x,cz w.cs x/\(∃e,w.cs[x.toNat]? =some (g,e))/\(∀y,0<=y->(∃e,w.cs[y.toNat]? =some (g,e))->y≠x->aU w x y=true)/\v= .tuple [i64 x,.bool true].toArray/\
   ∃q:Nat,(q:Int)<=d*(ix d (w.len g - 1):Nat)+1/\∃l,dc J n l d (min (st+q) 4611686018427387904) (w.put x (0,0,0))/\aj S H J/\∀z,l z->S z\/H.size<=z)):=by
 refine aT tZ ?_;refine vs ?_;refine(vz h g).mono ?_;rintro _ _ ⟨⟨c,rfl⟩| ⟨m,f,rfl⟩| ⟨m,x,j,t,rfl,K⟩,rfl⟩
 ·refine vs ?_;exact .inl ⟨.inl c,rfl,rfl⟩
 ·refine vs ?_;exact .inl ⟨.inr ⟨m,f⟩,rfl,rfl⟩
 ·refine vs ?_;refine(oE h x).mono ?_;rintro _ Q (⟨c,_,_⟩| ⟨_,rfl,U,q,A,F,l,p,o,u⟩)
  ·exact absurd j c
  refine vs ?_;obtain⟨e,a⟩:=id t;rw[A]at a;injection a with a;subst a;exact .inr ⟨m,x,j,t,K,rfl,q,F,l,p,o,u⟩
theorem MW(w:Nw){y:Ce}{k s:Int}(n:w.cs[x.toNat]? =some y)(d:¬ef y.2.1 y.2.2 k s){z:Int}(p:z.toNat≠x.toNat)(h:aU w z x=false):aU (w.put x (y.1,k,s)) z x=false:=by
 have c:w.key x=y.2.1:=by unfold Nw.key;rw[ajR,n];rfl
 have v:w.seq x=y.2.2:=by unfold Nw.seq;rw[ajR,n];rfl
 have m:=ajY (l:=w.cs) (a:=(y.1,k,s)) (ajK.1 n).1;have e:(w.put x (y.1,k,s)).key x=k:=by unfold Nw.key Nw.put;simp only[ajR];rw[m];rfl
 have g:(w.put x (y.1,k,s)).seq x=s:=by unfold Nw.seq Nw.put;simp only[ajR];rw[m];rfl
 have t:(w.put x (y.1,k,s)).key z=w.key z:=by unfold Nw.key Nw.put;simp only[ajR];grind
 have j:(w.put x (y.1,k,s)).seq z=w.seq z:=by unfold Nw.seq Nw.put;simp only[ajR];grind
 unfold aU at h ⊢;rw[e,g,t,j];rw[c,v]at h;simp only[decide_eq_false_iff_not,ef]at*;omega
theorem wU{H:Hp}{S:Nat->Prop}{w:Nw}(h:dc H n S d st w)(x k s:Int):aF 217 [ptr n,i64 x,mE k s] H fun v J=>ak (
  (¬ (cz w.cs x/\∀y,w.cs[x.toNat]? =some y->¬ef y.2.1 y.2.2 k s)/\v= .bool false/\dc J n S d st w/\af H J)\/
  (cz w.cs x/\∃y,w.cs[x.toNat]? =some y/\¬ef y.2.1 y.2.2 k s/\v= .bool true/\∃q:Nat,(q:Int)<=ix d (w.len y.1 - 1)/\∃S',dc J n S' d (min (st+q) 4611686018427387904) (w.put x (y.1,k,s))/\aj S H J/\∀z,S' z->S z\/H.size<=z)):=by
 obtain⟨c,C,rv,fp,rs,m,l,A⟩:=h;refine aT rW ?_;refine vs ?_;have G:af H (H.new 190 [i64 k,u64 s]):=bD;have b0:(H.new 190 [i64 k,u64 s]).own H.size=some [i64 k,u64 s]:=am _ _ _;have f:=m.ext G (fun _ _ h=>h);generalize H.new 190 [i64 k,u64 s]=H0 at*;refine v2 (ae f.own) (ae b0) ?_;refine(iM f.cells x k s).mono ?_;rintro _ H1 (⟨M,rfl,c1,u⟩| ⟨mA,rfl,y,hy,mi,c1,u⟩)
 ·refine vs ?_;exact .inl ⟨M,rfl,⟨c,C,rv,fp,rs,f.ext u (fun _ _ h=>h),l,A⟩,G.trans u⟩
 have o1:=u.own f.own m.nC;refine v1 (ae o1) ?_;obtain⟨kh,y',K,X⟩:=id mA;rw[hy]at K;injection K with K;subst K;have ke:(w.put x (y.1,k,s)).cs[x.toNat]? =some (y.1,k,s):=ajY Z;have yv:∀z:Nat,z≠x.toNat->(w.put x (y.1,k,s)).cs[z]? =w.cs[z]? :=fun z g=>ajT (Ne.symm g);have QN:cz (w.put x (y.1,k,s)).cs x:=⟨kh,_,ke,X⟩;refine(da c1 x).mono ?_;rintro _ H2 (⟨M,_,_⟩| ⟨_,y2,F,rfl,c2,e2⟩)
 ·exact absurd QN M
 rw[ke]at F;injection F with F;subst F;have I:=u.trans e2;obtain⟨R,t⟩:=(l.hs y.1.toNat).1 (m.cells.live _ Z X);have ON:((y.1.toNat:Nat):Int)=y.1:=O;have OP:∀ (h:Nat) Q,rs[h]? =some (some Q)->∀z:Int,z∈Q.l↔0<=z/\∃e,(w.put x (y.1,k,s)).cs[z.toNat]? =some (((h:Nat):Int),e):=fun h Q p z=>by
  cases l;grind
 have pQ:=OP _ R t;have ec:=l.len _ R t;rw[ON]at pQ ec;have hxR:x∈R.l:=Z;have DL:∀z∈R.l,cz (w.put x (y.1,k,s)).cs z:=fun z g=>by
  obtain⟨z0,e,he⟩:=(pQ z).1 g;exact⟨z0,_,he,X⟩
 have o2:=e2.own o1 m.nC;have m2:gB H2 n c C rv fp d st (w.put x (y.1,k,s)) rs:=⟨o2,c2,f.sl.ext I (fun b D h=>(m.uK b D).2 h),fun i R t=>(f.row i R t).ext I (fun x hx=>(m.lj i R t x hx).1),m.nC,m.uK,m.lj,m.sW⟩;have iC:=(ajK.1 t).1;obtain⟨b,o,c',lb,q1,q2,q3,q4⟩:=bX.get m2.sl.rd (i:=y.1.toNat) (j:=0) (x:=ptr R.r) O (by simp[t,MV]);subst q1;have QP:=m.cells.st;have uH:=m.cells.zf;have ze:R.l.length<=65536:=by have:=(w.kt y.1).2;omega
 refine v1 (ae o2) ?_;refine⟨O,?_⟩;refine v2 q2 (show lb[o+y.1.toNat*1]? =some (ptr R.r)from q4) ?_;refine(BC (yz (c:=c) (rv:=.slice (some ⟨b,o,none⟩) rs.length c') (d:=d) (st:=st) (w:=w.put x (y.1,k,s)) m.nC) (m2.row _ R t) (fun z g ht=>?_) (n:=0) Z x O (fun i hi=>by
  obtain⟨h1,h2⟩:=((l.ok _ R t).pl x i).1 hi;grind) QN DL).mono ?_
 ·cases m;grind
 rintro _ H3 (⟨E,_,_⟩| ⟨i,E,rfl,r3,⟨c3,o3⟩,e3⟩)
 ·exact absurd E ((bL.mem (l.ok _ R t) x).1 hxR)
 have Ve:∀z∈R.l,z≠x->z.toNat≠x.toNat:=Z;obtain⟨p1,p2,p3,p4⟩:=bL.raise (au w) (au (w.put x (y.1,k,s))) l.pZ (l.ok _ R t) E (fun a ha b D wS Ac=>gS w x _ (Ve a ha wS) (Ve b D Ac)) (fun z g hzx hl=>MW w hy mi (Ve z g hzx) hl);generalize hU:fG (aU (w.put x (y.1,k,s))) d x i.toNat R.l R.pl i=U at*;rw[ajJ]at c3;refine vs ?_;have LS:∀z,(R.S z\/C z\/z=n)->S z:=fun z g=>(A z).1 (by
  rcases g with g|g|g
  ·exact .inr Z
  ·exact .inl g
  ·exact .inr (.inl g))
 have SD:∀ (h:Nat) Q,(rs.set y.1.toNat (some (⟨R.r,R.S,U.l,U.pl⟩:Rw)))[h]? =some (some Q)->(h=y.1.toNat/\Q=⟨R.r,R.S,U.l,U.pl⟩)\/(h≠y.1.toNat/\rs[h]? =some (some Q)):=Z;have nj:∀ (h:Nat) Q,h≠y.1.toNat->rs[h]? =some (some Q)->∀z∈Q.l,z.toNat≠x.toNat:=Z;have U6:∀h:Int,(w.put x (y.1,k,s)).len h=w.len h:=fun h=>by
  grind [Nw.gm]
 refine .inr ⟨mA,y,hy,mi,rfl,U.asked,Z,yy n C fp (rs.set y.1.toNat (some ⟨R.r,R.S,U.l,U.pl⟩)),
  ⟨c,C,_,fp,rs.set y.1.toNat (some ⟨R.r,R.S,U.l,U.pl⟩),m2.setRow t (R':=⟨R.r,R.S,U.l,U.pl⟩) rfl r3 Z e3 (fun z g=>?_) c3 o3,
   ⟨l.pZ,by rw[ajN];exact l.hl,fun h=>?_,?_,fun h Q p=>?_,fun h Q p z=>?_,fun h Q p=>?_⟩,fun z=>Iff.rfl⟩,?_,fun z g=>?_⟩
 ·grind
 ·show w.hs[h]? =some true↔_;rw[l.hs h];grind
 ·rw[ajT O];exact l.h0
 ·rcases SD h Q p with ⟨rfl,rfl⟩| ⟨h5,h6⟩
  ·exact p1
  ·exact bL.congr l.pZ (l.ok h Q h6) fun z g v hv=>(gS w x _ Z Z).symm
 ·grind
 ·cases l;grind
 ·exact(G.mono fun _ _ h=>h.elim).trans ((I.mono Z).trans (e3.mono Z))
 ·rcases g with g|rfl|g| ⟨j,Q,p,g⟩
  ·grind
  ·grind
  ·exact .inl ((A z).1 (.inr (.inr (.inl g))))
  ·rcases SD j Q p with ⟨rfl,rfl⟩| ⟨h5,h6⟩
   ·grind
   ·exact .inl ((A z).1 (.inr Z))
theorem gB.at_{H:Hp}{C:Nat->Prop}{w:Nw}{rs:List (Option Rw)}(m:gB H n c C rv fp d st w rs){i:Nat}{o:Option Rw}(h:rs[i]? =some o):
  ∃f z x,rv= .slice (some ⟨f,0,none⟩) rs.length z/\fp=some f/\H.own f=some x/\x[i]? =some (MV o)/\i<rs.length:=by
 have hi:=(ajK.1 h).1;obtain⟨j,hm⟩:=id m.sl;cases fp with
 |none=>obtain⟨e,_⟩:=hm;omega
 |some f=>
  obtain⟨x,z,a,l,v,g,y⟩:=hm;refine⟨f,z,x,a,rfl,l,?_,hi⟩;have t:(rs.map MV)[i]? =some (MV o):=by rw[aj9,h];rfl
  grind
theorem KZ{rs:List (Option Rw)}{T:Rw}(z:a<rs.length)(n:b<rs.length)(l:a≠b){h:Nat}{Q:Rw}(x:((rs.set a (some T)).set b none)[h]? =some (some Q)):
  (h=a/\Q=T)\/(h≠a/\h≠b/\rs[h]? =some (some Q)):=by
 grind
theorem gB.two{H:Hp}{f o:Nat}{C:Nat->Prop}{w:Nw}{rs:List (Option Rw)}(m:gB H n c C (.slice (some ⟨f,0,none⟩) rs.length o) (some f) d st w rs)(X:a≠b){T:Rw}(M:rs[a]? =some (some T)\/rs[b]? =some (some T))
  (E:a<rs.length)(hb:b<rs.length){y:List Value}(u:H.own f=some y):
  gB ((H.wr f (y.set a (ptr T.r))).wr f ((y.set a (ptr T.r)).set b (.pointer none))) n c C (.slice (some ⟨f,0,none⟩) rs.length o) (some f) d st w ((rs.set a (some T)).set b none)/\
   aj (fun z=>z=f) H ((H.wr f (y.set a (ptr T.r))).wr f ((y.set a (ptr T.r)).set b (.pointer none))):=by
 have e:aj (fun z=>z=f) H ((H.wr f (y.set a (ptr T.r))).wr f ((y.set a (ptr T.r)).set b (.pointer none))):=((aj.refl (fun z=>z=f) _).wr (fun _=>rfl) _).wr (fun _=>rfl) _;have U:=m.uK f rfl;have p:∀ (h:Nat) Q,((rs.set a (some T)).set b none)[h]? =some (some Q)->∃l,rs[l]? =some (some Q)/\((l=h/\h≠a/\h≠b)\/(h=a/\(l=a\/l=b))):=Z;refine⟨⟨e.own m.own (Ne.symm U.1),m.cells.ext e Z,?_,fun h Q t=>?_,m.nC,m.uK,fun h Q t x j=>?_,fun h l Q q t F nj x j I=>?_⟩,e⟩
 ·have v:=(m.sl.nQ u a (ptr T.r)).nQ (ah u) b (.pointer none);rw[ajN,ajN,akd,akd];exact v
 ·obtain⟨l,v,_⟩:=p h Q t;exact(m.row l Q v).ext e (fun x j hz=>(m.lj l Q v x j).2.2 Z)
 ·obtain⟨l,v,_⟩:=p h Q t;exact m.lj l Q v x j
 ·obtain⟨g,v,G⟩:=p h Q t;obtain⟨A,K,D⟩:=p l q F;exact m.sW g A Q q v K O x j I
theorem Gh.join{w:Nw}{rs:List (Option Rw)}(l:Gh d w rs){a b:Int}(o:w.has a)(K:w.has b)(X:a≠b){x n T:Rw}(p:rs[a.toNat]? =some (some x))(q:rs[b.toNat]? =some (some n))
  (I:bL (aU (w.join a b)) d T.l T.pl)(U:∀z,z∈T.l↔z∈x.l\/z∈n.l)(ec:T.l.length=x.l.length+n.l.length):Gh d (w.join a b) ((rs.set a.toNat (some T)).set b.toNat none):=by
 have E:=o.1;have Oz:=K.1;have j:=(ajK.1 p).1;have f:=(ajK.1 q).1;have u:a.toNat≠b.toNat:=O;have A:((a.toNat:Nat):Int)=a:=O;have F:((b.toNat:Nat):Int)=b:=O;refine⟨l.pZ,by rw[ajN,ajN,l.hl];simp[Nw.join],fun h=>?_,?_,fun h Q g=>?_,fun h Q g z=>?_,fun h Q g=>?_⟩
 ·show(w.hs.set b.toNat false)[h]? =some true↔_;by_cases m:h=b.toNat
  ·grind
  ·rw[ajT (Ne.symm m),ajT (Ne.symm m)];by_cases v:h=a.toNat
   ·subst v;rw[ajY j];exact⟨Z,fun _=>o.2⟩
   ·rw[ajT (Ne.symm v)];exact l.hs h
 ·cases l;grind
 ·rcases KZ j f u g with ⟨rfl,rfl⟩| ⟨m,v,t⟩
  ·exact I
  ·exact bL.congr l.pZ (l.ok h Q t) fun z _ y _=>(sH w a b z y).symm
 ·rw[sG];rcases KZ j f u g with ⟨rfl,rfl⟩| ⟨m,v,t⟩
  ·rw[U z,l.mem _ x p z,l.mem _ n q z,A,F];cases w.cs[z.toNat]? with
   |none=>simp
   |some c=>
    obtain⟨D,M⟩:=c;simp only[Option.map_some,ajS,Prod.mk.injEq];constructor
    ·rintro(⟨G,e,rfl,rfl⟩| ⟨G,e,rfl,rfl⟩)
     ·simp_all
     grind
    grind
  ·rw[l.mem h Q t z];grind
 cases l;grind [Nw.Do]
theorem DO{H:Hp}{S:Nat->Prop}{w:Nw}(h:dc H n S d st w)(a b:Int):aF 226 [ptr n,i64 a,i64 b] H fun v J=>ak (
  (¬ (w.has a/\w.has b/\a≠b)/\v= .bool false/\H=J)\/
  ((w.has a/\w.has b/\a≠b)/\v= .bool true/\∃q:Nat,(q:Int)<=min (w.len a) (w.len b)*(ix d (w.len a+w.len b):Nat)/\∃S',dc J n S' d (min (st+q) 4611686018427387904) (w.join a b)/\aj S H J/\∀z,S' z->S z\/H.size<=z)):=by
 obtain⟨c,C,rv,fp,rs,m,l,hS⟩:=h;refine uS zu ⟨rfl,?_⟩;refine v2 nV.eq_1 (ae m.own) ?_;refine(jz m.cells a b).mono ?_;rintro _ H1 (⟨mT,rfl,rfl⟩| ⟨⟨ha,t,Fc⟩,rfl,c1,X⟩)
 ·refine vs ?_;exact .inl ⟨mT,rfl,rfl⟩
 obtain⟨p,K⟩:=l.ei ha;obtain⟨o,I⟩:=l.ei t;have Zb:=ha.1;have Oz:=t.1;have OL:=(ajK.1 K).1;have E5:=(ajK.1 I).1;have o1:=X.own m.own m.nC;have M:gB H1 n c C rv fp d st (w.join a b) rs:=⟨o1,c1,m.sl.ext X (fun b t h=>(m.uK b t).2 h),fun i R hR=>(m.row i R hR).ext X (fun x G=>(m.lj i R hR x G).1),m.nC,m.uK,m.lj,m.sW⟩;obtain⟨f,cc,lb,rfl,rfl,of,ga,la⟩:=M.at_ K;obtain⟨f',JR,S4,hv,PX,QO,gb,WZ⟩:=M.at_ I;injection PX with PX;subst PX;rw[of]at QO;injection QO with QO;subst QO;refine v1 (ae o1) ?_;refine⟨O,?_⟩;simp(disch:=(first|exact aV|fail)) only[go_sem, ↓reduceIte,Zv,ae of,ae o1,ajM,ga,MV];refine⟨O,?_⟩;simp(disch:=(first|exact aV|fail)) only[go_sem, ↓reduceIte,Zv,ae of,ajM,gb,MV];refine eS (fun e J=>e.find 0=some (ptr n)/\e.find 1=some (i64 a)/\e.find 2=some (i64 b)/\J=H1/\∃T F:Rw,e.find 7=some (ptr T.r)/\e.find 8=some (ptr F.r)/\
  ((T=p/\F=o/\o.l.length<=p.l.length)\/(T=o/\F=p/\p.l.length<o.l.length))) ?_ ?_
 ·refine vs ?_;refine(vq (M.row _ p K)).mono ?_;rintro _ _ ⟨rfl,rfl⟩;refine vs ?_;refine(vq (M.row _ o I)).mono ?_;rintro _ _ ⟨rfl,rfl⟩;refine vs ?_;refine ai.dec (fun iC=>?_) (fun iC=>?_)<;>refine vs ?_
  ·exact⟨trivial,trivial,trivial,trivial,o,p,rfl,rfl,.inr ⟨rfl,rfl,O⟩⟩
  ·exact⟨trivial,trivial,trivial,trivial,p,o,rfl,rfl,.inl ⟨rfl,rfl,O⟩⟩
 rintro e H1' ⟨e0,ea,eb,hH1,T,F,eT,eF,W7⟩;obtain rfl:=hH1.symm;have haa:((a.toNat:Nat):Int)=a:=O;have KJ:((b.toNat:Nat):Int)=b:=O;have nj:a.toNat≠b.toNat:=O;have hT:rs[a.toNat]? =some (some T)\/rs[b.toNat]? =some (some T):=by
  rcases W7 with ⟨rfl,rfl,_⟩| ⟨rfl,rfl,_⟩
  ·exact .inl K
  ·exact .inr I
 obtain⟨D,iF,Vh,hF,Tp,pV⟩:∃D iF:Nat,rs[D]? =some (some T)/\rs[iF]? =some (some F)/\D≠iF/\0<iF:=by
  rcases W7 with ⟨rfl,rfl,_⟩| ⟨rfl,rfl,_⟩
  ·exact⟨_,_,K,I,nj,O⟩
  ·exact⟨_,_,I,K,Ne.symm nj,O⟩
 have Al:∀z,(z∈T.l\/z∈F.l)↔(z∈p.l\/z∈o.l):=fun z=>by
  rcases W7 with ⟨rfl,rfl,_⟩| ⟨rfl,rfl,_⟩
  ·exact Iff.rfl
  ·exact Or.comm
 have eLa:=l.len _ p K;have eLb:=l.len _ o I;rw[haa]at eLa;rw[KJ]at eLb;have ec:T.l.length+F.l.length=p.l.length+o.l.length/\((F.l.length:Nat):Int)=min (w.len a) (w.len b):=by
  rcases W7 with ⟨rfl,rfl,_⟩| ⟨rfl,rfl,_⟩<;>omega
 clear W7;have OQ:∀z∈F.l,z∉T.l:=fun z g hz'=>by
  obtain⟨_,X,h1⟩:=(l.mem iF F hF z).1 g;obtain⟨_,e2,A⟩:=(l.mem D T Vh z).1 hz';rw[h1]at A;injection A with A;injection A with A _;omega
 have KY:∀ (i:Nat) Q,rs[i]? =some (some Q)->0<i->∀z∈Q.l,cz (w.join a b).cs z:=fun i Q hQ hi z g=>by
  obtain⟨z0,e,he⟩:=(l.mem i Q hQ z).1 g;exact(Dp w O O z).2 ⟨z0,_,he,by simp only;omega⟩
 have MH:∀ (h:Nat) Q,rs[h]? =some (some Q)->0<h:=fun h Q hQ=>by
  rcases Nat.eq_zero_or_pos h with hi|hi
  ·subst hi;rw[l.h0]at hQ;cases hQ
  ·exact hi
 have uH:=m.cells.zf;have ze:p.l.length<=65536/\o.l.length<=65536:=by have:=(w.kt a).2;have:=(w.kt b).2;omega
 have QP:=m.cells.st;have A:=M.two nj hT OL E5 of;rw[Jq]at A;obtain⟨m2,e2⟩:=A;have W8:dB (H1.wr f ((lb.set a.toNat (ptr T.r)).set b.toNat (.pointer none))) F.r F.S d F.l F.pl:=(M.row iF F hF).ext e2 (fun x G g=>(m.lj iF F hF x G).2.2 (ajP some g.symm));have of1:(H1.wr f (lb.set a.toNat (ptr T.r))).own f=some (lb.set a.toNat (ptr T.r)):=ah of;have aaX:lb.length=(lb.set a.toNat (ptr T.r)).length:=(ajN ..).symm;have MG:=(ajK.1 gb).1;have Og:=(ajK.1 ga).1;refine v6 e0 ea eb eT eF (ae o1) ?_;refine⟨O,?_⟩;refine v7 e0 ea eb eT eF of ajM ?_;refine⟨O,?_⟩;refine v1 ajJ ?_;refine⟨O,?_⟩;refine v2 of1 ajM ?_;refine⟨by rw[ajN];omega,?_⟩;refine v1 ajJ ?_;generalize H1.wr f ((lb.set a.toNat (ptr T.r)).set b.toNat (.pointer none))=H2 at*;refine v5 e0 ea eb eT eF ?_;refine(E6 W8 O).mono ?_;rintro v3 H3 ⟨f3,Zd,s3,Tv⟩;obtain⟨a3,c3,rfl⟩:=bX.Dh s3.rd;refine v5 e0 ea eb eT eF ?_;have m3:=m2.ext f3 (fun _ _ h=>h);have wO:=M.slt;have z1:=X.size;have z2:=e2.size;have z3:=f3.size;have hU:∀j:Nat,j<=F.l.length->ix d ((T.l.length+j:Nat):Int)<=ix d (w.len a+w.len b):=fun j hj=>j1 l.pZ (w.len a+w.len b).toNat _ _ (ajU _) O;generalize ix d (w.len a+w.len b)=U at*;refine bj.intro (fun k env J=>∃ (j:Nat) (T':Rw) (q:Nat),env=[(0,ptr n),(7,ptr T.r),(54,.slice a3 F.l.length c3),(55,i64 F.l.length),(56,i64 j)]/\k=F.l.length - j/\j<=F.l.length/\T'.r=T.r/\
   gB J n c C (.slice (some ⟨f,0,none⟩) rs.length cc) (some f) d (min (st+q) 4611686018427387904) (w.join a b) ((rs.set a.toNat (some T')).set b.toNat none)/\bL (aU (w.join a b)) d T'.l T'.pl/\
   (∀z,z∈T'.l↔z∈T.l\/z∈F.l.take j)/\T'.l.length=T.l.length+j/\q<=j*U/\(∀z,T'.S z->T.S z\/H3.size<=z)/\aj (fun z=>T.S z\/C z\/z=n) H3 J/\Sl J 1 (.slice a3 F.l.length c3) F.l.length (F.l.map i64) Zd/\
   (∀b,Zd=some b->¬T'.S b/\¬C b/\b≠n)) F.l.length
  ⟨0,T,0,rfl,O,O,rfl,by rw[show min (st+((0:Nat):Int)) 4611686018427387904=st by omega];exact m3,bL.congr l.pZ (l.ok D T Vh) fun z _ y _=>(sH w a b z y).symm,
   fun z=>by simp,rfl,O,fun z g=>.inl g,aj.refl _ _,s3,fun b t=>⟨fun h=>by have:=Tv b t;have:=wO b (.inr (.inr (.inr ⟨D,T,Vh,h⟩)));omega,fun h=>by have:=Tv b t;have:=wO b (.inl h);omega,fun h=>by have:=Tv b t;have:=aC o1;omega⟩⟩ ?_
 rintro k env H4 ⟨j,T',q,rfl,rfl,hj,hr,E,KV,pQ,OR,hq,R0,e4,s4,OS⟩;refine vs ?_;have Tq:((rs.set a.toNat (some T')).set b.toNat none)[a.toNat]? =some (some T'):=by
  rw[ajT (Ne.symm nj),ajY OL]
 refine ai.dec (fun iC=>?_) (fun iC=>?_)<;>refine vs ?_
 ·obtain⟨x,G⟩:∃x,F.l[j]? =some x:=⟨_,ajL O⟩;have Vf:=ajV G;obtain⟨bb,bo,bc,bl,q1,q2,q3,q4⟩:=bX.get s4.rd (i:=j) (j:=0) (x:=i64 x) O (by simp[G]);injection q1 with q1 _ q1';subst q1 q1';refine⟨O,?_⟩;refine v3 q2 Int.toNat_natCast (show bl[bo+j*1]? =some (i64 x)from q4) ?_;rw[<-hr];have hxT:x∉T'.l:=fun hm=>by
   rcases(pQ x).1 hm with h|h
   ·exact OQ x Vf h
   ·obtain⟨i,hi⟩:=aj5 h;rw[akM]at hi;split at hi
    ·have:=(l.ok iF F hF).pl.zS hi G;omega
    ·cases hi
  have MX:T'.pl x=none:=by
   cases hp:T'.pl x with
   |none=>rfl
   |some i=>exact absurd ((bL.mem KV x).2 (by rw[hp];simp)) hxT
  have Tr:∀z∈T'.l,cz (w.join a b).cs z:=fun z g=>by
   rcases(pQ z).1 g with h|h
   ·exact KY D T Vh (MH D T Vh) z h
   ·exact KY iF F hF pV z (List.mem_of_mem_take h)
  refine(vr (yz (c:=c) (rv:=.slice (some ⟨f,0,none⟩) rs.length cc) (d:=d) (st:=min (st+q) 4611686018427387904) (w:=w.join a b) m.nC) (E.row _ T' Tq) (fun z g ht=>?_) (n:=0)
   ⟨by rw[show min (min (st+(q:Int)) 4611686018427387904+((0:Nat):Int)) 4611686018427387904=min (st+q) 4611686018427387904 by omega];exact E.cells,E.own⟩ x O (KY iF F hF pV x Vf) Tr).mono ?_
  ·rcases ht with ht|ht
   ·exact(E.lj _ T' Tq z g).1 ht
   ·exact(E.lj _ T' Tq z g).2.1 ht
  rintro _ H5 (⟨hp,_,_⟩| ⟨_,rfl,S',r5,⟨c5,o5⟩,e5,W6⟩)
  ·exact absurd MX hp
  obtain⟨p1,p2,p3,p4⟩:=bL.add (au (w.join a b)) l.pZ KV MX;generalize hUp:fG (aU (w.join a b)) d x T'.l.length (T'.l++[x]) T'.pl T'.l.length=u at*;rw[ajJ]at c5;refine vs ?_;have hq5:u.asked<=U:=by
   have:=hU j hj;rw[OR]at p4;omega
  have m5:=E.setRow Tq (R':=⟨T'.r,S',u.l,u.pl⟩) rfl r5 W6 e5 (fun z g=>by
   rcases g with g|g|g
   ·exact .inr (.inl g)
   ·exact .inl g
   ·exact .inr (.inr g)) c5 o5
  rw[List.set_comm _ _ (Ne.symm nj),List.set_set,show min (min (st+(q:Int)) 4611686018427387904+((u.asked:Nat):Int)) 4611686018427387904=min (st+((q+u.asked:Nat):Int)) 4611686018427387904 by omega]at m5;have z4:=e4.size;have S3:∀b,Zd=some b->b<H4.size:=fun b t=>Sl.lt (t▸s4);rw[wrap64 (n:=(j:Int)+1) O O,hr];refine⟨F.l.length - (j+1),O,j+1,⟨T'.r,S',u.l,u.pl⟩,q+u.asked,rfl,rfl,O,hr,m5,p1,fun z=>?_,by show u.l.length=_;omega,?_,fun z g=>?_,e4.lN e5 (fun z Y7 g=>?_),s4.ext e5 (fun b t g=>?_),fun b t=>⟨fun g=>?_,(OS b t).2⟩⟩
  ·show z∈u.l↔_;rw[p2 z,pQ z,aj2,G];simp only[Option.toList_some,aj4,aj6];constructor
   ·rintro(h|h|h)
    ·exact .inr (.inr h)
    ·exact .inl h
    ·exact .inr (.inl h)
   ·rintro(h|h|h)
    ·exact .inr (.inl h)
    ·exact .inr (.inr h)
    ·exact .inl h
  ·rw[akX,alf];omega
  ·rcases W6 z g with h|h
   ·exact R0 z h
   ·exact .inr O
  ·rcases g with g|g|g
   ·rcases R0 z g with h|h
    ·exact .inl h
    ·exact absurd Y7 O
   ·exact .inr (.inl g)
   ·exact .inr (.inr g)
  ·rcases g with g|g|g
   ·exact(OS b t).1 g
   ·exact(OS b t).2.1 g
   ·exact(OS b t).2.2 g
  ·rcases W6 b g with h|h
   ·exact(OS b t).1 h
   ·have:=S3 b t;omega
 ·have hjL:j=F.l.length:=O;subst hjL;have LS:∀z,(T.S z\/C z\/z=n)->S z:=fun z g=>(hS z).1 (by
   rcases g with g|g|g
   ·exact .inr (.inr (.inr ⟨_,T,Vh,g⟩))
   ·exact .inl g
   ·exact .inr (.inl g))
  refine .inr ⟨⟨ha,t,Fc⟩,rfl,q,?_,yy n C (some f) ((rs.set a.toNat (some T')).set b.toNat none),⟨c,C,_,some f,_,E,l.join ha t Fc K I KV (fun z=>?_) O,fun z=>Iff.rfl⟩,?_,fun z g=>?_⟩
  ·rw[<-ec.2,<-Int.natCast_mul];exact Int.ofNat_le.2 hq
  ·rw[pQ z,aj8,Al z]
  ·exact(X.mono fun z _ g=>LS z (.inr (.inl g))).trans ((e2.mono fun z _ g=>(hS z).1 (.inr (.inr (.inl (by rw[g]))))).trans ((f3.mono fun _ _ h=>h.elim).trans (e4.mono fun z _ g=>LS z g)))
  ·rcases g with g|rfl|g| ⟨i,Q,hQ,g⟩
   ·exact .inl ((hS z).1 (.inl g))
   ·exact .inl ((hS z).1 (.inr (.inl rfl)))
   ·exact .inl ((hS z).1 (.inr (.inr (.inl g))))
   ·rcases KZ OL E5 nj hQ with ⟨rfl,rfl⟩| ⟨h5,h6,h7⟩
    ·rcases R0 z g with h|h
     ·exact .inl (LS z (.inl h))
     ·exact .inr O
    ·exact .inl ((hS z).1 (.inr (.inr (.inr ⟨i,Q,h7,g⟩))))
theorem K1(n:Nat):qD (.iface 168 (ptr n)) (fun H S w=>∃st,dK H n S st w) where
 slt:=by rintro H S w ⟨st,h⟩;exact h.slt
 ext:=by rintro H J S w T ⟨st,h⟩ e hd;exact⟨st,h.ext e hd⟩
 cells:=by
  rintro H S w ⟨st,c,C,rv,Q,F,ps,at_,m,l,K⟩;exact⟨c,C,st,m.cells⟩
 has:=by
  rintro H S w g ⟨st,c,C,rv,Q,F,ps,at_,m,l,K⟩;obtain⟨U,A,_⟩:=m.own;exact⟨_,_,221,ptr c,rfl,cC (off:=0) Y (ae A) rfl,(gQ m.cells g).mono fun v J I=>I⟩
 make:=by
  rintro H S w ⟨st,h⟩;refine⟨_,_,362,ptr n,rfl,ba Y,(DK h).mono ?_⟩;rintro v J (⟨t,rfl,rfl⟩| ⟨t,rfl,d,p,j,o⟩)
  ·exact .inl ⟨t,rfl,br.same ⟨st,h⟩ (aj.refl _ _)⟩
  ·exact .inr ⟨t,rfl,d,⟨_,p⟩,j,o⟩
 insert:=by
  rintro H S w g x k s ⟨st,h⟩;refine⟨_,_,361,ptr n,rfl,ba Y,(Ak h g x k s).mono ?_⟩;rintro v J (⟨t,rfl,p,j⟩| ⟨t,rfl,d,q,p,_,j,o,u⟩)
  ·exact .inl ⟨t,rfl,br.same ⟨st,p⟩ j⟩
  ·exact .inr ⟨t,rfl,d,⟨_,j⟩,o,u⟩
 min:=by
  rintro H S w g ⟨st,h⟩;refine⟨_,_,364,ptr n,rfl,ba Y,(vx h g).mono ?_⟩;rintro v J ⟨t,rfl⟩;rcases t with ⟨t,rfl⟩| ⟨x,p,rfl⟩
  ·exact .inl ⟨t,rfl,br.same ⟨st,h⟩ (aj.refl _ _)⟩
  ·exact .inr ⟨x,p,rfl,br.same ⟨st,h⟩ (aj.refl _ _)⟩
 extract:=by
  rintro H S w g ⟨st,h⟩;refine⟨_,_,360,ptr n,rfl,ba Y,(yw h g).mono ?_⟩;rintro v J (⟨t,rfl,rfl⟩| ⟨x,t,rfl,q,hq,d,u,E,X⟩)
  ·exact .inl ⟨t,rfl,br.same ⟨st,h⟩ (aj.refl _ _)⟩
  ·exact .inr ⟨x,t,rfl,d,⟨_,u⟩,E,X⟩
 j9:=by
  rintro H S w x k s ⟨st,h⟩;refine⟨_,_,358,ptr n,rfl,ba Y,(wT h x k s).mono ?_⟩;rintro v J (⟨t,rfl,p,j⟩| ⟨t,y,G,p,rfl,q,hq,d,j,o,u⟩)
  ·exact .inl ⟨t,rfl,br.same ⟨st,p⟩ (j.mono fun _ _ h=>h.elim)⟩
  ·exact .inr ⟨⟨t,Z⟩,rfl,y,G,d,⟨_,j⟩,o,u⟩
 entry:=by
  rintro H S w x ⟨st,h⟩;obtain⟨c,C,rv,Q,F,ps,at_,m,l,K⟩:=id h;obtain⟨U,A,_⟩:=m.own;refine⟨_,_,219,ptr c,rfl,cC (off:=0) Y (ae A) rfl,(iL m.cells x).mono ?_⟩;rintro v J ⟨_,f,hv⟩;exact⟨⟨st,h.fresh f⟩,f,hv⟩
 len:=by
  rintro H S w g ⟨st,c,C,rv,Q,F,ps,at_,m,l,K⟩;obtain⟨U,A,_⟩:=m.own;exact⟨_,_,224,ptr c,rfl,cC (off:=0) Y (ae A) rfl,(gR m.cells g).mono fun v J I=>I⟩
 home:=by
  rintro H S w x ⟨st,h⟩;obtain⟨c,C,rv,Q,F,ps,at_,m,l,K⟩:=id h;obtain⟨U,A,_⟩:=m.own;refine⟨_,_,222,ptr c,rfl,cC (off:=0) Y (ae A) rfl,(da m.cells x).mono ?_⟩;rintro v J (⟨t,rfl,rfl⟩| ⟨t,y,G,rfl,M,D⟩)
  ·exact .inl ⟨t,rfl,br.same ⟨st,h⟩ (aj.refl _ _)⟩
  ·exact .inr ⟨t,by rw[iO t.1 G],br.same ⟨st,c,C,rv,Q,F,ps,at_,m.aD M D,l,K⟩ (D.mono fun z _ hz=>(K z).1 (.inl hz))⟩
 delete:=by
  rintro H S w x ⟨st,h⟩;refine⟨_,_,359,ptr n,rfl,ba Y,(oD h x).mono ?_⟩;rintro v J (⟨t,rfl,rfl⟩| ⟨t,rfl,_,_,_,_,d,j,o,u⟩)
  ·exact .inl ⟨t,rfl,br.same ⟨st,h⟩ (aj.refl _ _)⟩
  ·exact .inr ⟨t,rfl,d,⟨_,j⟩,o,u⟩
 vI:=by
  rintro H S w a b ⟨st,h⟩;refine⟨_,_,363,ptr n,rfl,ba Y,(DM h a b).mono ?_⟩;rintro v J (⟨t,rfl,rfl⟩| ⟨t,rfl,_,_,d,j,o,u⟩)
  ·exact .inl ⟨t,rfl,br.same ⟨st,h⟩ (aj.refl _ _)⟩
  ·exact .inr ⟨t,rfl,d,⟨_,j⟩,o,u⟩
theorem DP(n:Nat)(d:Int):qD (.iface 144 (ptr n)) (fun H S w=>∃st,dc H n S d st w) where
 slt:=by rintro H S w ⟨st,h⟩;exact h.slt
 ext:=by rintro H J S w T ⟨st,h⟩ e hd;exact⟨st,h.ext e hd⟩
 cells:=by
  rintro H S w ⟨st,c,C,rv,fp,rs,m,l,K⟩;exact⟨c,C,st,m.cells⟩
 has:=by
  rintro H S w g ⟨st,c,C,rv,fp,rs,m,l,K⟩;exact⟨_,_,221,ptr c,rfl,cC (off:=0) Y (ae m.own) rfl,(gQ m.cells g).mono fun v J Q=>Q⟩
 make:=by
  rintro H S w ⟨st,h⟩;refine⟨_,_,225,ptr n,rfl,ba Y,(DN h).mono ?_⟩;rintro v J (⟨t,rfl,rfl⟩| ⟨t,rfl,u,o,j,p⟩)
  ·exact .inl ⟨t,rfl,br.same ⟨st,h⟩ (aj.refl _ _)⟩
  ·exact .inr ⟨t,rfl,u,⟨_,o⟩,j,p⟩
 insert:=by
  rintro H S w g x k s ⟨st,h⟩;refine⟨_,_,223,ptr n,rfl,ba Y,(An h g x k s).mono ?_⟩;rintro v J (⟨t,rfl,o,j⟩| ⟨t,rfl,u,q,o,_,j,p,A⟩)
  ·exact .inl ⟨t,rfl,br.same ⟨st,o⟩ j⟩
  ·exact .inr ⟨t,rfl,u,⟨_,j⟩,p,A⟩
 min:=by
  rintro H S w g ⟨st,h⟩;refine⟨_,_,227,ptr n,rfl,ba Y,(vz h g).mono ?_⟩;rintro v J ⟨t,rfl⟩;have F:=br.same (I:=fun H S w=>∃st,dc H n S d st w) ⟨st,h⟩ (aj.refl S H);obtain⟨c,C,rv,fp,rs,m,l,K⟩:=h;rcases t with ⟨t,rfl⟩| ⟨t,o,rfl⟩| ⟨t,x,o,j,rfl,p⟩
  ·refine .inl ⟨Nw.E7.2 ?_,rfl,F⟩;by_cases hg:g<=0
   ·omega
   ·refine .inr fun i c X e=>t ⟨O,?_⟩;have:=m.cells.live c Z O;grind
  ·grind
  ·exact .inr ⟨x,⟨by have:=t.1;omega,o.1,j,p⟩,rfl,F⟩
 extract:=by
  rintro H S w g ⟨st,h⟩;refine⟨_,_,220,ptr n,rfl,ba Y,(yA h g).mono ?_⟩;rintro v J (⟨t,rfl,rfl⟩| ⟨t,x,o,j,p,rfl,q,hq,u,A,M,E⟩)
  ·have F:=br.same (I:=fun H S w=>∃st,dc H n S d st w) ⟨st,h⟩ (aj.refl S H);obtain⟨c,C,rv,fp,rs,m,l,K⟩:=h;rcases t with t| ⟨_,t⟩
   ·refine .inl ⟨Nw.E7.2 ?_,rfl,F⟩;by_cases hg:g<=0
    ·omega
    ·refine .inr fun i c X e=>t ⟨O,?_⟩;have:=m.cells.live c Z O;grind
   grind
  ·exact .inr ⟨x,⟨by have:=t.1;omega,o.1,j,p⟩,rfl,u,⟨_,A⟩,M,E⟩
 j9:=by
  rintro H S w x k s ⟨st,h⟩;refine⟨_,_,217,ptr n,rfl,ba Y,(wU h x k s).mono ?_⟩;rintro v J (⟨t,rfl,o,j⟩| ⟨t,y,U,o,rfl,q,hq,u,j,p,A⟩)
  ·exact .inl ⟨t,rfl,br.same ⟨st,o⟩ (j.mono fun _ _ h=>h.elim)⟩
  ·exact .inr ⟨⟨t,Z⟩,rfl,y,U,u,⟨_,j⟩,p,A⟩
 entry:=by
  rintro H S w x ⟨st,h⟩;obtain⟨c,C,rv,fp,rs,m,l,K⟩:=id h;refine⟨_,_,219,ptr c,rfl,cC (off:=0) Y (ae m.own) rfl,(iL m.cells x).mono ?_⟩;rintro v J ⟨_,f,hv⟩;exact⟨⟨st,h.fresh f⟩,f,hv⟩
 len:=by
  rintro H S w g ⟨st,c,C,rv,fp,rs,m,l,K⟩;exact⟨_,_,224,ptr c,rfl,cC (off:=0) Y (ae m.own) rfl,(gR m.cells g).mono fun v J Q=>Q⟩
 home:=by
  rintro H S w x ⟨st,h⟩;obtain⟨c,C,rv,fp,rs,m,l,K⟩:=id h;refine⟨_,_,222,ptr c,rfl,cC (off:=0) Y (ae m.own) rfl,(da m.cells x).mono ?_⟩;rintro v J (⟨t,rfl,rfl⟩| ⟨t,y,U,rfl,D,G⟩)
  ·exact .inl ⟨t,rfl,br.same ⟨st,h⟩ (aj.refl _ _)⟩
  ·exact .inr ⟨t,by rw[iO t.1 U],br.same ⟨st,c,C,rv,fp,rs,m.aD D G,l,K⟩ (G.mono fun z _ hz=>(K z).1 (.inl hz))⟩
 delete:=by
  rintro H S w x ⟨st,h⟩;refine⟨_,_,218,ptr n,rfl,ba Y,(oE h x).mono ?_⟩;rintro v J (⟨t,rfl,rfl⟩| ⟨t,rfl,_,_,_,_,u,j,p,A⟩)
  ·exact .inl ⟨t,rfl,br.same ⟨st,h⟩ (aj.refl _ _)⟩
  ·exact .inr ⟨t,rfl,u,⟨_,j⟩,p,A⟩
 vI:=by
  rintro H S w a b ⟨st,h⟩;refine⟨_,_,226,ptr n,rfl,ba Y,(DO h a b).mono ?_⟩;rintro v J (⟨t,rfl,rfl⟩| ⟨t,rfl,_,_,u,j,p,A⟩)
  ·exact .inl ⟨t,rfl,br.same ⟨st,h⟩ (aj.refl _ _)⟩
  ·exact .inr ⟨t,rfl,u,⟨_,j⟩,p,A⟩
structure gf(H:Hp)(r nb pb:Nat)(N P:List Int):Prop where
 own:H.own r=some [.slice (some ⟨nb,0,none⟩) N.length N.length,.slice (some ⟨pb,0,none⟩) P.length P.length]
 LU:H.own nb=some (N.map i64)
 R1:H.own pb=some (P.map i64)
 len:P.length=N.length
 ne:r≠nb/\r≠pb/\nb≠pb
def bW(N:List Int)(x:Int):Int:=if 0<=x/\x<N.length then N.getD x.toNat 0 else x
theorem DQ{N:List Int}(h:0<=x/\x<N.length):N[x.toNat]? =some (bW N x):=by
 grind [bW]
theorem Tw{N:List Int}(h:¬ (0<=x/\x<N.length)):bW N x=x:=by unfold bW;omega
theorem Ci{N:List Int}(h:0<=x/\x<N.length)(v z:Int):bW (N.set x.toNat v) z=if z=x then v else bW N z:=by
 grind [bW]
theorem K3{N P:List Int}(h:xm (bW N) (bW P))(a:0<=x/\x<N.length):0<=bW N x/\bW N x<N.length:=by
 apply aj3;intro z;have l:=Tw z;cases h;grind
section
variable {H J : Hp} {r nb pb : Nat} {N P : List Int} {T : Nat → Prop}
theorem gf.ext(h:gf H r nb pb N P)(e:aj T H J)(x:¬T r)(z:¬T nb)(l:¬T pb):gf J r nb pb N P:=⟨e.own h.own x,e.own h.LU z,e.own h.R1 l,h.len,h.ne⟩
theorem gK(h:gf H r nb pb N P)(x:Int):aF 322 [ptr r,i64 x] H fun v J=>ak (v= .bool (decide (0<=x/\x<N.length))/\J=H):=by
 refine aT zA ?_;refine vs ?_;refine ai.dec (fun z=>?_) (fun z=>?_)<;>refine v1 (ae h.own) ?_
 ·refine⟨?_,rfl⟩;rw[show(decide (0<=x/\x< (N.length:Int)))=decide (x< (N.length:Int)) by simp[z]];rfl
 ·refine⟨?_,rfl⟩;rw[ajO (fun h=>z h.1)];rfl
theorem DR(h:gf H r nb pb N P)(z:0<=x/\x<N.length):aF 324 [ptr r,i64 x] H fun v J=>ak (v= .tuple [i64 (bW N x),.bool true].toArray/\J=H):=by
 refine aT xU ?_;refine vs ?_;refine(gK h x).mono ?_;rintro _ J ⟨rfl,e⟩;obtain rfl:=e.symm;rw[ajQ z];have l:(N.map i64)[x.toNat]? =some (i64 (bW N x)):=by rw[aj9,DQ z];rfl
 refine v1 (ae h.own) ?_;refine⟨O,?_⟩;refine v4 (ae h.LU) ajJ ajM l ?_;exact⟨rfl,rfl⟩
theorem de(h:gf H r nb pb N P)(hi:xm (bW N) (bW P)){y:Int}(n:0<=x/\x<N.length)(t:0<=y/\y<N.length):aF 321 [ptr r,i64 x,i64 y] H fun v J=>ak (v= .bool true/\
  ∃N' P',gf J r nb pb N' P'/\N'.length=N.length/\bW N'=rD (bW N) x y/\xm (bW N') (bW P')/\aj (fun z=>z=nb\/z=pb) H J):=by
 refine uS uv ⟨rfl,?_⟩;refine v1 kR.eq_1 ?_;refine(gK h x).mono ?_;rintro _ J ⟨rfl,e⟩;obtain rfl:=e.symm;rw[ajQ n];refine vs ?_;refine(gK h y).mono ?_;rintro _ J ⟨rfl,e⟩;obtain rfl:=e.symm;rw[ajQ t];have G:(N.map i64)[x.toNat]? =some (i64 (bW N x)):=by rw[aj9,DQ n];rfl
 have D:(N.map i64)[y.toNat]? =some (i64 (bW N y)):=by rw[aj9,DQ t];rfl
 obtain⟨a0,a1⟩:=K3 hi n;obtain⟨b0,b1⟩:=K3 hi t;obtain⟨j,K,d⟩:=h.ne;have I:=h.len;refine v1 (ae h.own) ?_;refine⟨O,?_⟩;refine v5 (ae h.LU) (ae h.own) ajJ ajM G ?_;refine⟨O,?_⟩;refine v5 (ae h.LU) (ae h.own) ajJ ajM D ?_;refine⟨O,?_⟩;refine v3 h.LU ajJ ajM ?_;refine⟨Z,?_⟩;refine vs ?_;have p:aj (fun z=>z=nb) H (H.wr nb ((N.map i64).set x.toNat (i64 (bW N y)))):=(aj.refl (fun z=>z=nb) _).wr (fun _=>rfl) _;have u:(H.wr nb ((N.map i64).set x.toNat (i64 (bW N y)))).own nb=some ((N.map i64).set x.toNat (i64 (bW N y))):=ah h.LU;generalize H.wr nb ((N.map i64).set x.toNat (i64 (bW N y)))=l at*;refine⟨O,?_⟩;refine v3 u ajJ ajM ?_;refine⟨Z,?_⟩;refine vs ?_;have F:aj (fun z=>z=nb) l (l.wr nb (((N.map i64).set x.toNat (i64 (bW N y))).set y.toNat (i64 (bW N x)))):=(aj.refl (fun z=>z=nb) _).wr (fun _=>rfl) _;have X:(l.wr nb (((N.map i64).set x.toNat (i64 (bW N y))).set y.toNat (i64 (bW N x)))).own nb=some (((N.map i64).set x.toNat (i64 (bW N y))).set y.toNat (i64 (bW N x))):=ah u;generalize l.wr nb (((N.map i64).set x.toNat (i64 (bW N y))).set y.toNat (i64 (bW N x)))=a at*;have c:=p.trans F;have o:=c.own h.own j;have f:=c.own h.R1 (Ne.symm d);have M:=p.own h.own j;refine v2 (ae M) (ae o) ?_;refine⟨O,?_⟩;refine v3 f ajJ ajM ?_;refine⟨Z,?_⟩;refine vs ?_;have Q:aj (fun z=>z=pb) a (a.wr pb ((P.map i64).set (bW N y).toNat (i64 x))):=(aj.refl (fun z=>z=pb) _).wr (fun _=>rfl) _;have A:(a.wr pb ((P.map i64).set (bW N y).toNat (i64 x))).own pb=some ((P.map i64).set (bW N y).toNat (i64 x)):=ah f;generalize a.wr pb ((P.map i64).set (bW N y).toNat (i64 x))=m at*;refine⟨O,?_⟩;refine v3 A ajJ ajM ?_;refine⟨Z,?_⟩;refine vs ?_;have U:aj (fun z=>z=pb) m (m.wr pb (((P.map i64).set (bW N y).toNat (i64 x)).set (bW N x).toNat (i64 y))):=(aj.refl (fun z=>z=pb) _).wr (fun _=>rfl) _;have q4:(m.wr pb (((P.map i64).set (bW N y).toNat (i64 x)).set (bW N x).toNat (i64 y))).own pb=some (((P.map i64).set (bW N y).toNat (i64 x)).set (bW N x).toNat (i64 y)):=ah A;have g:=Q.trans U;have q:bW ((N.set x.toNat (bW N y)).set y.toNat (bW N x))=rD (bW N) x y:=by
  funext z;rw[Ci Z,Ci n];unfold rD;by_cases h1:z=x
  ·grind
  ·omega
 have E:bW ((P.set (bW N y).toNat x).set (bW N x).toNat y)=Qe (bW N) (bW P) x y:=by
  funext z;rw[Ci Z,Ci O];rfl
 refine⟨rfl,(N.set x.toNat (bW N y)).set y.toNat (bW N x),(P.set (bW N y).toNat x).set (bW N x).toNat y,⟨?_,?_,?_,by simp[I],h.ne⟩,by simp,q,?_,(c.mono fun z _ h=>.inl h).trans (g.mono fun z _ h=>.inr h)⟩
 ·rw[ajN,ajN,ajN,ajN];exact g.own o K
 ·rw[akd,akd];exact g.own X d
 ·simp_all
 ·rw[q,E];exact hi.rD x y
theorem iV(h:gf H r nb pb N P)(hi:xm (bW N) (bW P))(l:0<=x/\x<N.length):aF 315 [ptr r,i64 x] H fun v J=>ak (v= .bool true/\
  ∃N' P',gf J r nb pb N' P'/\N'.length=N.length/\bW N'=rD (bW N) x (bW P x)/\xm (bW N') (bW P')/\aj (fun z=>z=nb\/z=pb) H J):=by
 have n:xm (bW P) (bW N):=⟨hi.np,hi.pn⟩;have g:=h.len;have t:=K3 n (x:=x) O;have m:(P.map i64)[x.toNat]? =some (i64 (bW P x)):=by rw[aj9,DQ O];rfl
 refine aT xT ?_;refine vs ?_;refine(gK h x).mono ?_;rintro _ J ⟨rfl,e⟩;obtain rfl:=e.symm;rw[ajQ l];refine v1 (ae h.own) ?_;refine⟨O,?_⟩;refine v4 (ae h.R1) ajJ ajM m ?_;refine(de h hi l (y:=bW P x) O).mono ?_;rintro _ c ⟨rfl,a⟩;refine vs ?_;exact⟨rfl,a⟩
theorem nH(h:gf H r nb pb N P){A:List Int}(U:mz (bW N) (x::A))(X:(x::A).Nodup)(j:∀c∈x::A,0<=c/\c<N.length)(hN:N.length<=65536):aF 316 [ptr r,i64 x] H fun v J=>ak (∃b,
  Sl J 1 v (x::A).length ((x::A).map i64) (some b)/\H.size<=b/\af H J):=by
 have u:=j x (by simp);have E:=cm X j;have wO:r<H.size/\nb<H.size/\pb<H.size:=⟨aC h.own,aC h.LU,aC h.R1⟩;have K:∀ {z:Int},0<=z/\z<N.length->(N.map i64)[z.toNat]? =some (i64 (bW N z)):=fun hz=>by rw[aj9,DQ hz];rfl
 refine aT zz ?_;refine vs ?_;refine(gK h x).mono ?_;rintro _ J ⟨rfl,e⟩;obtain rfl:=e.symm;rw[ajQ u];refine vs ?_;have o:af H (H.new 3 [i64 x]):=bD;have s0:Sl (H.new 3 [i64 x]) 1 (.slice (some ⟨H.size,0,none⟩) 1 1) [x].length ([x].map i64) (some H.size):=Sl.bJ (size:=1) (n:=1) (xs:=[i64 x]) rfl rfl;have y:=h.ext o (fun h=>h) (fun h=>h) (fun h=>h);generalize H.new 3 [i64 x]=H0 at*;refine v2 (ae y.own) (ae h.own) ?_;refine⟨O,?_⟩;refine v5 (ae y.LU) (ae h.LU) ajJ ajM (K u) ?_;have hp:kX (bW N) x A x:=U;have M:∀ {a z:Int} {l:List Int},kX (bW N) a l z->bW N a=l.headD z:=fun{a z l} h=>by
  cases l with
  |nil=>exact h
  |cons b l=>exact h.1
 refine bj.intro (fun mm env J=>∃ (d s:List Int) (p:Value) (b:Nat),mm=s.length/\A=d++s/\gf J r nb pb N P/\H.size<=b/\Sl J 1 p (x::d).length ((x::d).map i64) (some b)/\aj (fun z=>H.size<=z) H J/\
  env=[(0,ptr r),(1,i64 x),(5,p),(6,i64 (s.headD x))]) _ ⟨[],A,_,H.size,rfl,rfl,y,ajU _,s0,o.mono fun _ _ h=>h.elim,Z⟩ ?_
 rintro mm env H1 ⟨d,s,p,b,rfl,m,F,f,s1,g,rfl⟩;have z1:=g.size;refine vs ?_;cases s with
 |nil=>
  refine ai.dec (fun _=>?_) (fun h=>absurd rfl h);refine vs ?_;rw[ake]at m;subst m;exact⟨b,s1,f,g.mono O⟩
 |cons c s=>
  have I:c∈A:=by rw[m];simp
  have D:=j c (akr _ I);have G:c≠x:=Z;have ze:d.length+(s.length+1)=A.length:=Z;rw[ajX]at E;refine ai.dec (fun h=>absurd h G) (fun _=>?_);refine vs ?_;refine WB (B:=H.size) f O s1 c Z fun w' H2 b' Q s2 q=>?_;refine vs ?_;have t:=F.ext q O O O;simp(disch:=(first|exact aV|fail)) only[go_sem, ↓reduceIte,Zv,ae t.own,List.headD_cons];refine⟨⟨O,O⟩,?_⟩;refine v4 (ae t.LU) ajJ ajM (K D) ?_;have RS:bW N c=s.headD x:=M (kX.UP.1 (by rw[<-m];exact hp)).2;exact⟨s.length,by simp,d++[c],s,w',b',rfl,Z,t,Q,s2,g.trans q,by rw[RS]⟩
end
end
section
variable{x:Int}{i:Nat}
structure Pc where
 u:Int
 k:Int
 d:Int
 m:Bool
def QS(y:Pc):List Value:=[i64 y.u,i64 y.k,i64 y.d,.bool y.m]
def aO(L:List Pc):List Value:=L.flatMap QS
theorem W9{L:List Pc}{y:Pc}(hi:L[i]? =some y):(aO L)[i*4]? =some (i64 y.u)/\(aO L)[i*4+1]? =some (i64 y.k)/\(aO L)[i*4+2]? =some (i64 y.d)/\(aO L)[i*4+3]? =some (.bool y.m):=by
 induction L generalizing i with
 |nil=>grind
 |cons a r x=>
  have e:aO (a::r)=i64 a.u::i64 a.k::i64 a.d:: .bool a.m::aO r:=rfl;grind
theorem mq{L:List Pc}{y:Pc}(hi:L[i]? =some y):(∀v,(aO L).set (i*4) (i64 v)=aO (L.set i ⟨v,y.k,y.d,y.m⟩))/\(∀v,(aO L).set (i*4+1) (i64 v)=aO (L.set i ⟨y.u,v,y.d,y.m⟩))/\
  (∀v,(aO L).set (i*4+2) (i64 v)=aO (L.set i ⟨y.u,y.k,v,y.m⟩))/\(∀v,(aO L).set (i*4+3) (.bool v)=aO (L.set i ⟨y.u,y.k,y.d,v⟩))/\
  (∀z:Pc,aS (aO L) (i*4) [i64 z.u,i64 z.k,i64 z.d,.bool z.m]=aO (L.set i z)):=by
 induction L generalizing i with
 |nil=>grind
 |cons a r l=>
  have e:aO (a::r)=i64 a.u::i64 a.k::i64 a.d:: .bool a.m::aO r:=rfl;cases i with
  |zero=>simp at hi;subst hi;exact⟨fun _=>rfl,fun _=>rfl,fun _=>rfl,fun _=>rfl,fun _=>rfl⟩
  |succ i=>
   obtain⟨n,m,c,g,x⟩:=l (by simpa using hi);have h:∀z:Pc,aO ((a::r).set (i+1) z)=i64 a.u::i64 a.k::i64 a.d:: .bool a.m::aO (r.set i z):=fun _=>rfl;refine⟨fun v=>?_,fun v=>?_,fun v=>?_,fun v=>?_,fun z=>?_⟩
   ·grind
   ·grind
   ·grind
   ·grind
   ·have x:=x z;simp only[aS]at x ⊢;rw[e,h,show(i+1)*4=i*4+1+1+1+1 by omega];simp_all
def mr:Pc:=⟨-1, -1,0,false⟩
def fh(L:List Pc)(x:Int):Pc:=if 0<=x then(L[x.toNat]?).getD mr else mr
theorem DS{L:List Pc}{y:Pc}(z:0<=x)(h:L[x.toNat]? =some y):fh L x=y:=by grind [fh]
def kH(f:Int->Pc)(x:Int)(y:Pc):Int->Pc:=fun z=>if z=x then y else f z
theorem yB{L:List Pc}(h:0<=x/\x<L.length)(y:Pc):fh (L.set x.toNat y)=kH (fh L) x y:=by
 grind [kH,fh]
structure FB where
 n:Nat
 c:Nat
 r:Nat
 nb:Nat
 pb:Nat
 tb:Nat
 tp:Nat
def FB.S(B:FB)(C:Nat->Prop)(z:Nat):Prop:=C z\/z=B.n\/z=B.r\/z=B.nb\/z=B.pb\/z=B.tb\/z=B.tp
structure bQ(H:Hp)(B:FB)(C:Nat->Prop)(w:Nw)(N P:List Int)(L:List Pc)(tops:List Int):Prop where
 own:∃tv,H.own B.n=some [ptr B.c,ptr B.r,.slice (some ⟨B.tb,0,none⟩) L.length L.length,tv]/\Sl H 1 tv tops.length (tops.map i64) (some B.tp)
 cells:CQ H B.c C w
 ring:gf H B.r B.nb B.pb N P
 inv:xm (bW N) (bW P)
 places:H.own B.tb=some (aO L)
 len:L.length=w.cs.length/\N.length=w.cs.length
 ly:(B.n≠B.r/\B.n≠B.nb/\B.n≠B.pb/\B.n≠B.tb/\B.n≠B.tp)/\(B.tb≠B.r/\B.tb≠B.nb/\B.tb≠B.pb/\B.tb≠B.tp)/\(B.tp≠B.r/\B.tp≠B.nb/\B.tp≠B.pb)
 out:¬C B.n/\¬C B.r/\¬C B.nb/\¬C B.pb/\¬C B.tb/\¬C B.tp
section
variable {H J : Hp} {B : FB} {C V : Nat → Prop} {w w' : Nw} {N P N' P' : List Int} {L L' : List Pc} {tops : List Int}
theorem bQ.slt(h:bQ H B C w N P L tops):∀z,B.S C z->z<H.size:=by
 obtain⟨n,x,l⟩:=h.own;rintro z (a|rfl|rfl|rfl|rfl|rfl|rfl)
 ·exact h.cells.slt z a
 ·exact aC x
 ·exact aC h.ring.own
 ·exact aC h.ring.LU
 ·exact aC h.ring.R1
 ·exact aC h.places
 ·exact l.lt
theorem bQ.ext(h:bQ H B C w N P L tops)(e:aj V H J)(l:∀z,B.S C z->¬V z):bQ J B C w N P L tops:=by
 obtain⟨v,n,m⟩:=h.own;exact⟨⟨v,e.own n (l _ (.inr (.inl rfl))),m.ext e (fun b a=>by injection a with a;exact a▸l _ (.inr O))⟩,h.cells.ext e (fun x c=>l x (.inl c)),
  h.ring.ext e (l _ (.inr (.inr (.inl rfl)))) (l _ (.inr O)) (l _ (.inr O)),h.inv,e.own h.places (l _ (.inr O)),h.len,h.ly,h.out⟩
theorem bQ.fresh(h:bQ H B C w N P L tops)(e:af H J):bQ J B C w N P L tops:=h.ext e fun _ _ h=>h
theorem bQ.aD(h:bQ H B C w N P L tops)(x:CQ J B.c C w')(e:aj C H J)(a:w'.cs.length=w.cs.length):bQ J B C w' N P L tops:=by
 obtain⟨y,z,l⟩:=h.own;obtain⟨n,m,c,v,g,t⟩:=h.out;exact⟨⟨y,e.own z n,l.ext e Z⟩,x,h.ring.ext e m c v,h.inv,e.own h.places g,by rw[a];exact h.len,h.ly,h.out⟩
theorem bQ.nI(h:bQ H B C w N P L tops)(n:gf J B.r B.nb B.pb N' P')(hi:xm (bW N') (bW P'))(e:aj (fun z=>z=B.nb\/z=B.pb) H J)(a:N'.length=N.length):bQ J B C w N' P' L tops:=by
 obtain⟨m,x,l⟩:=h.own;obtain⟨o,f,u,A,K,F⟩:=h.out;obtain⟨⟨c,v,g,y,t⟩,⟨j,d,p,q⟩,⟨d10,d11,d12⟩⟩:=h.ly;exact⟨⟨m,e.own x O,l.ext e Z⟩,h.cells.ext e Z,n,hi,e.own h.places O,by rw[a];exact h.len,h.ly,h.out⟩
theorem bQ.OT(h:bQ H B C w N P L tops)(x:L'.length=L.length):bQ (H.wr B.tb (aO L')) B C w N P L' tops/\aj (fun z=>z=B.tb) H (H.wr B.tb (aO L')):=by
 obtain⟨g,c,v⟩:=h.own;obtain⟨q,o,f,u,A,K⟩:=h.out;obtain⟨⟨y,t,j,l,d⟩,⟨a,n,m,p⟩,⟨d10,d11,d12⟩⟩:=h.ly;have e:aj (fun z=>z=B.tb) H (H.wr B.tb (aO L')):=(aj.refl (fun z=>z=B.tb) _).wr (fun _=>rfl) _;exact⟨⟨⟨g,by rw[x];exact e.own c l,v.ext e Z⟩,h.cells.ext e Z,h.ring.ext e (Ne.symm a) (Ne.symm n) (Ne.symm m),h.inv,ah h.places,by rw[x];exact h.len,h.ly,h.out⟩,e⟩
theorem bQ.eh(h:bQ H B C w N P L tops):∃c l,H.own B.n=some [ptr B.c,ptr B.r,.slice (some ⟨B.tb,0,none⟩) L.length L.length,.slice (some ⟨B.tp,0,none⟩) tops.length c]/\H.own B.tp=some l/\tops.length<=c/\c<=l.length/\l.take tops.length=tops.map i64:=by
 obtain⟨v,x,_,l,c,rfl,z,a,n,m⟩:=h.own;grind
theorem bQ.cS(h:bQ H B C w N P L tops){l:List Value}(a:H.own B.tp=some l)(n:tops[i]? =some x):l[i]? =some (i64 x):=by
 obtain⟨c,l',_,z,_,_,m⟩:=h.eh;rw[a]at z;injection z with z;subst z;have v:(tops.map i64)[i]? =some (i64 x):=by rw[aj9,n];rfl
 grind
theorem bQ.fJ(h:bQ H B C w N P L tops){l:List Value}(a:H.own B.tp=some l)(i:Nat)(v:Int):bQ (H.wr B.tp (l.set i (i64 v))) B C w N P L (tops.set i v)/\aj (fun z=>z=B.tp) H (H.wr B.tp (l.set i (i64 v))):=by
 obtain⟨c,l',g,x,u,A,y⟩:=h.eh;rw[a]at x;injection x with x;subst x;obtain⟨K,F,Q,U,I,G⟩:=h.out;obtain⟨⟨t,j,d,p,n⟩,⟨q,o,f,m⟩,⟨d10,d11,d12⟩⟩:=h.ly;have e:aj (fun z=>z=B.tp) H (H.wr B.tp (l.set i (i64 v))):=(aj.refl (fun z=>z=B.tp) _).wr (fun _=>rfl) _;refine⟨⟨⟨_,e.own g n,?_⟩,h.cells.ext e Z,h.ring.ext e (Ne.symm d10) (Ne.symm d11) (Ne.symm d12),h.inv,e.own h.places m,h.len,h.ly,h.out⟩,e⟩;refine⟨by simp,l.set i (i64 v),c,Z,ah a,Z,Z,?_⟩;rw[ajN,ajM,tD,y,akd]
theorem bQ.rd(h:bQ H B C w N P L tops)(z:0<=x/\x<w.cs.length):x.toNat*4+3< (aO L).length/\(aO L)[x.toNat*4]? =some (i64 (fh L x).u)/\(aO L)[x.toNat*4+1]? =some (i64 (fh L x).k)/\
  (aO L)[x.toNat*4+2]? =some (i64 (fh L x).d)/\(aO L)[x.toNat*4+3]? =some (.bool (fh L x).m):=by
 cases h;grind [W9,DS]
theorem bQ.aN(h:bQ H B C w N P L tops)(a:0<=x/\x<w.cs.length)(v:Int):∃L',fh L'=kH (fh L) x ⟨v,(fh L x).k,(fh L x).d,(fh L x).m⟩/\bQ (H.wr B.tb ((aO L).set (x.toNat*4) (i64 v))) B C w N P L' tops/\aj (fun z=>z=B.tb) H (H.wr B.tb ((aO L).set (x.toNat*4) (i64 v))):=by
 have n:=h.len;obtain⟨y,l⟩:∃y,L[x.toNat]? =some y:=⟨_,ajL O⟩;rw[DS a.1 l,(mq l).1];exact⟨_,yB O _,h.OT Z⟩
theorem bQ.eM(h:bQ H B C w N P L tops)(a:0<=x/\x<w.cs.length)(v:Int):∃L',fh L'=kH (fh L) x ⟨(fh L x).u,v,(fh L x).d,(fh L x).m⟩/\bQ (H.wr B.tb ((aO L).set (x.toNat*4+1) (i64 v))) B C w N P L' tops/\aj (fun z=>z=B.tb) H (H.wr B.tb ((aO L).set (x.toNat*4+1) (i64 v))):=by
 have n:=h.len;obtain⟨y,l⟩:∃y,L[x.toNat]? =some y:=⟨_,ajL O⟩;rw[DS a.1 l,(mq l).2.1];exact⟨_,yB O _,h.OT Z⟩
theorem bQ.Tx(h:bQ H B C w N P L tops)(a:0<=x/\x<w.cs.length)(v:Int):∃L',fh L'=kH (fh L) x ⟨(fh L x).u,(fh L x).k,v,(fh L x).m⟩/\bQ (H.wr B.tb ((aO L).set (x.toNat*4+2) (i64 v))) B C w N P L' tops/\aj (fun z=>z=B.tb) H (H.wr B.tb ((aO L).set (x.toNat*4+2) (i64 v))):=by
 have n:=h.len;obtain⟨y,l⟩:∃y,L[x.toNat]? =some y:=⟨_,ajL O⟩;rw[DS a.1 l,(mq l).2.2.1];exact⟨_,yB O _,h.OT Z⟩
theorem bQ.dG(h:bQ H B C w N P L tops)(a:0<=x/\x<w.cs.length)(v:Bool):∃L',fh L'=kH (fh L) x ⟨(fh L x).u,(fh L x).k,(fh L x).d,v⟩/\bQ (H.wr B.tb ((aO L).set (x.toNat*4+3) (.bool v))) B C w N P L' tops/\aj (fun z=>z=B.tb) H (H.wr B.tb ((aO L).set (x.toNat*4+3) (.bool v))):=by
 have n:=h.len;obtain⟨y,l⟩:∃y,L[x.toNat]? =some y:=⟨_,ajL O⟩;rw[DS a.1 l,(mq l).2.2.2.1];exact⟨_,yB O _,h.OT Z⟩
theorem bQ.K4(h:bQ H B C w N P L tops)(n:0<=x/\x<w.cs.length)(z:Pc):∃L',fh L'=kH (fh L) x z/\bQ (H.wr B.tb (aS (aO L) (x.toNat*4) [i64 z.u,i64 z.k,i64 z.d,.bool z.m])) B C w N P L' tops/\aj (fun z=>z=B.tb) H (H.wr B.tb (aS (aO L) (x.toNat*4) [i64 z.u,i64 z.k,i64 z.d,.bool z.m])):=by
 have a:=h.len;obtain⟨y,l⟩:∃y,L[x.toNat]? =some y:=⟨_,ajL O⟩;rw[(mq l).2.2.2.2];exact⟨_,yB O _,h.OT Z⟩
end
end
section
variable{x g:Int}
def HP(f:Int->Pc)(ch:Int->List Int)(ax:Int->Int):Prop:=∀x,(f x).u=ax x/\(f x).k=(ch x).headD (-1)/\(f x).d=(ch x).length
section
variable {H J : Hp} {B : FB} {C V : Nat → Prop} {w : Nw} {N P : List Int} {L : List Pc} {tops : List Int} {ch : Int → List Int} {ax : Int → Int} {aq : Int → List Int} {W : List Int}
theorem dY.win{lt:Int->Int->Bool}{z:Int->Int}(f:dY (aH w) lt z ch ax aq W)(h:x∈W):0<=x/\x<w.cs.length:=by
 obtain⟨a,b,_⟩:=aI (f.wm x h).2.2;omega
theorem dY.Ze{lt:Int->Int->Bool}{z:Int->Int}(f:dY (aH w) lt z ch ax aq W)(h:x∈aq g):0<=x/\x<w.cs.length:=by
 obtain⟨l,_,n,_⟩:=f.rm g x h;obtain⟨a,b,_⟩:=aI (w:=w) (x:=x) O;omega
theorem dY.Ex{lt:Int->Int->Bool}{z:Int->Int}(f:dY (aH w) lt z ch ax aq W){p:Int}(h:x∈ch p):0<=x/\x<w.cs.length:=by
 obtain⟨a,b,_⟩:=aI (f.pr.dn p x h).2.2.2.1;omega
theorem vA(m:bQ H B C w N P L tops)(f:dY (aH w) (aU w) (bW N) ch ax aq (x::W))(p:aH w x=g)(q:g<tops.length)(K:aQ tops g=(aq g).headD (-1)):
  aF 318 [ptr B.n,i64 g,i64 x] H fun v J=>ak (∃N' P' D l,bQ J B C w N' P' L D/\D.length=tops.length/\aQ D=cR (aQ tops) g (l.headD (-1))/\
   dY (aH w) (aU w) (bW N') ch ax (aA aq g l) W/\(l.headD (-1)=x\/(l.headD (-1)=aQ tops g/\aQ tops g≠ -1))/\l.headD (-1)≠ -1/\
   (x≠l.headD (-1)->aU w (l.headD (-1)) x=true)/\(aQ tops g≠ -1->aQ tops g≠l.headD (-1)->aU w (l.headD (-1)) (aQ tops g)=true)/\aj (fun z=>C z\/z=B.nb\/z=B.pb\/z=B.tp) H J):=by
 have hx:=f.win (x:=x) (by simp);have PT:=f.VX (c:=x) (by simp);have R2:0<g:=by rw[<-p];exact(f.wm x (by simp)).2.2
 obtain⟨X,lt,o1,o,EA,Jm,JS⟩:=m.eh;have I:=m.cS o (ce (tops:=tops) (h:=g) O q);have ec:=m.len;refine aT jp ?_;refine v1 (ae o1) ?_;refine⟨⟨O,O⟩,?_⟩;refine v4 (ae o) ajJ ajM I ?_;refine ai.dec (fun h0=>?_) (fun h0=>?_)<;>refine v1 (ae o1) ?_
 ·have j:aq g=[]:=by
   rw[h0]at K;cases Q:aq g with
   |nil=>rfl
   |cons c r=>rw[Q]at K;exact absurd K.symm (f.YD (h:=g) (by rw[Q];simp))
  refine⟨⟨O,O⟩,?_⟩;refine v3 o ajJ ajM ?_;refine⟨O,?_⟩;obtain⟨d,u⟩:=m.fJ o g.toNat x;refine vs ?_;have n:=f.VY (by rw[p];exact j);rw[p]at n;exact⟨N,P,_,[x],d,ajN ..,dN O q x,n,.inl rfl,PT,Z,O,u.mono O⟩
 obtain⟨t,A,j⟩:∃t A,aq g=t::A:=by
  cases Q:aq g with
  |nil=>grind
  |cons c r=>grind
 have U:aQ tops g=t:=by rw[K,j];rfl
 rw[U];rw[U]at I;have htr:=f.Ze (g:=g) (x:=t) Z;have htn:=f.YD (c:=t) (h:=g) (by rw[j];simp);have QT:t≠x:=fun e=>(f.rm g t (by rw[j];simp)).2.2.2 (by rw[e];simp);refine⟨⟨O,O⟩,?_⟩;refine v4 (ae o) ajJ ajM I ?_;refine(de m.ring m.inv (x:=t) (y:=x) O O).mono ?_;rintro _ H2 ⟨rfl,M,E,r2,l2,n2,i2,u⟩;have d:=m.nI r2 i2 u l2;have n:=f.NG (t:=t) (A:=A) (by rw[p];exact j);rw[p,<-n2]at n;obtain⟨X,lt2,o2,q3,_⟩:=d.eh;have q4:=d.cS q3 (ce (tops:=tops) (h:=g) O q);rw[U]at q4;refine v1 (ae o2) ?_;refine⟨⟨O,O⟩,?_⟩;refine v4 (ae q3) ajJ ajM q4 ?_;refine(cB d.cells x t).mono ?_;rintro _ H3 ⟨rfl,c3,e3⟩;have F:=d.aD c3 e3 rfl;have Fc:=fT (w:=w) (a:=x) (b:=t) O (by have:=(f.rm g t (by rw[j];simp)).1;omega);rw[Fc];have Ty:aj (fun z=>C z\/z=B.nb\/z=B.pb\/z=B.tp) H H3:=(u.mono fun z _ h=>h.elim (fun h=>.inr (.inl h)) (fun h=>.inr (.inr (.inl h)))).trans (e3.mono fun z _ h=>.inl h);cases iC:aU w x t
 ·refine vs ?_;have Zf:=((au w).UN t x QT).resolve_right (by rw[iC];simp);refine⟨M,E,tops,t::x::A,F,rfl,?_,n,.inr ⟨rfl,htn⟩,htn,fun _=>Zf,Z,Ty⟩;funext z;show aQ tops z=if z=g then t else aQ tops z
  grind
 ·obtain⟨X,lt3,o3,G,_,hc5,_⟩:=F.eh;have q6:=F.cS G (ce (tops:=tops) (h:=g) O q);have MI:=O;refine v1 (ae o3) ?_;refine⟨⟨O,O⟩,?_⟩;refine v3 G ajJ ajM ?_;refine⟨O,?_⟩;obtain⟨m4,e4⟩:=F.fJ G g.toNat x;refine vs ?_;have f3:=n.tO (g:=g) (l:=x::A++[t]) (by
   unfold aA;rw[if_pos rfl];exact akL (l₁:=[t]) (l₂:=x::A)) (by
   have:=n.rc g;unfold aA at this;rw[if_pos rfl]at this;exact mz.UQ (l1:=[t]) (l2:=x::A) this)
  rw[cP]at f3;exact⟨M,E,_,x::A++[t],m4,ajN ..,dN O q x,f3,.inl rfl,PT,Z,fun _ _=>iC,Ty.trans (e4.mono O)⟩
theorem DT(m:bQ H B C w N P L tops){y:Int}(f:dY (aH w) (aU w) (bW N) ch ax aq (x::y::W))(E:HP (fh L) ch ax)(hh:aH w x=aH w y)(M:aU w x y=true):
  aF 323 [ptr B.n,i64 y,i64 x] H fun v J=>ak (∃N' P' L' G dt,bQ J B C w N' P' L' tops/\dY (aH w) (aU w) (bW N') G dt aq (x::W)/\HP (fh L') G dt/\(G x).length=(ch x).length+1/\(∀z,z≠x->G z=ch z)/\
   aj (fun z=>z=B.nb\/z=B.pb\/z=B.tb) H J):=by
 have a:=f.win (x:=x) (by simp);have t:=f.win (x:=y) (by simp);have o:x≠y:=fun e=>by rw[e,(au w).HO]at M;cases M
 have ec:=m.len;obtain⟨tv,o1,_⟩:=m.own;obtain⟨px,X,dx⟩:=E x;obtain⟨py,ky,dy⟩:=E y;obtain⟨a0,a1,a2,a3,a4⟩:=m.rd a;have MU:(ch x).length<=w.cs.length:=cm (f.pr.nd x) fun c h=>f.Ex h;have uH:=m.cells.zf;refine aT pB ?_;refine v1 (ae o1) ?_;refine⟨O,?_⟩;refine v1 (ae o1) ?_;refine⟨O,?_⟩;refine v3 (ae m.places) ajJ a2 ?_;refine ai.dec (fun h0=>?_) (fun h0=>?_)<;>refine vs ?_
 ·have h:ch x=[]:=by
   rw[h0]at X;cases h:ch x with
   |nil=>rfl
   |cons c r=>rw[h]at X;exact absurd X.symm (f.pr.ne (x:=x) Z)
  have Q:=f.St hh M h;obtain⟨H1,eH⟩:∃H1,H1=H:=⟨_,rfl⟩;rw[<-eH]at m ⊢;have j:=m;obtain⟨u,eN⟩:∃u,u=N:=⟨_,rfl⟩;obtain⟨A,eP⟩:∃A,A=P:=⟨_,rfl⟩;rw[<-eN,<-eP]at j;rw[<-eN]at Q;have D:aj (fun z=>z=B.nb\/z=B.pb) H1 H1:=aj.refl _ _;have UX:([y]:List Int).length=(ch x).length+1:=by rw[h];rfl
  obtain⟨b0,_⟩:=j.rd a;obtain⟨d,U,n,e2⟩:=j.eM a y;refine v2 j.places ajJ ?_;refine⟨O,?_⟩;refine vs ?_;generalize H1.wr B.tb ((aO L).set (x.toNat*4+1) (i64 y))=H2 at*;obtain⟨c0,c1,c2,c3,c4⟩:=n.rd a;have Af:(fh d x).d=(ch x).length:=by rw[U];unfold kH;rw[if_pos rfl];exact dx
  obtain⟨L3,I,g,F⟩:=n.Tx a ((fh d x).d+1);rw[Af]at c3 I g F;refine v4 (ae n.places) n.places ajJ c3 ?_;rw[wrap64 O O];refine⟨O,?_⟩;refine vs ?_;generalize H2.wr B.tb ((aO d).set (x.toNat*4+2) (i64 ((ch x).length+1)))=H3 at*;obtain⟨d0,_⟩:=g.rd t;obtain⟨L4,k4,q,e4⟩:=g.aN t x;refine v3 g.places ajJ Nat.add_zero ?_;refine⟨O,?_⟩;refine vs ?_;generalize H3.wr B.tb ((aO L3).set (y.toNat*4) (i64 x))=H4 at*;obtain⟨g0,_⟩:=q.rd t;obtain⟨L5,k5,m5,e5⟩:=q.dG t false;refine v3 q.places ajJ Nat.add_zero ?_;refine⟨O,?_⟩;refine vs ?_;refine⟨u,A,L5,_,_,m5,Q,fun z=>?_,?_,fun z hz=>?_,((((D.mono O).trans (e2.mono O)).trans (F.mono O)).trans (e4.mono O)).trans (e5.mono O)⟩
  ·rw[k5,k4,I,U];unfold kH aA;by_cases l:z=y
   ·rw[l,if_pos rfl,if_neg o.symm,if_neg o.symm];simp only[if_neg o.symm,if_true];refine⟨by unfold aN;omega,?_,?_⟩
    ·exact ky
    omega
   ·rw[if_neg l];unfold aN;rw[if_neg l];by_cases h2:z=x
    ·grind
    ·simp only[if_neg l,if_neg h2];exact E z
  ·unfold aA;grind
  ·unfold aA;grind
 ·obtain⟨k,K,h⟩:∃k K,ch x=k::K:=by
   cases h:ch x with
   |nil=>grind
   |cons c r=>grind
  have hk:(fh L x).k=k:=by rw[X,h];rfl
  have hkr:=f.Ex (p:=x) (x:=k) Z;have Q:=f.under hh M h;rw[hk]at a2;refine v4 (ae o1) (ae m.places) ajJ a2 ?_;refine(de m.ring m.inv (x:=k) (y:=y) O O).mono ?_;rintro _ H1 ⟨rfl,u,A,r1,l1,n1,i1,D⟩;have j:=m.nI r1 i1 D l1;rw[<-n1]at Q;have UX:(y::K++[k]).length=(ch x).length+1:=by rw[h];simp
  refine vs ?_;obtain⟨b0,_⟩:=j.rd a;obtain⟨d,U,n,e2⟩:=j.eM a y;refine v2 j.places ajJ ?_;refine⟨O,?_⟩;refine vs ?_;generalize H1.wr B.tb ((aO L).set (x.toNat*4+1) (i64 y))=H2 at*;obtain⟨c0,c1,c2,c3,c4⟩:=n.rd a;have Af:(fh d x).d=(ch x).length:=by rw[U];unfold kH;rw[if_pos rfl];exact dx
  obtain⟨L3,I,g,F⟩:=n.Tx a ((fh d x).d+1);rw[Af]at c3 I g F;refine v4 (ae n.places) n.places ajJ c3 ?_;rw[wrap64 O O];refine⟨O,?_⟩;refine vs ?_;generalize H2.wr B.tb ((aO d).set (x.toNat*4+2) (i64 ((ch x).length+1)))=H3 at*;obtain⟨d0,_⟩:=g.rd t;obtain⟨L4,k4,q,e4⟩:=g.aN t x;refine v3 g.places ajJ Nat.add_zero ?_;refine⟨O,?_⟩;refine vs ?_;generalize H3.wr B.tb ((aO L3).set (y.toNat*4) (i64 x))=H4 at*;obtain⟨g0,_⟩:=q.rd t;obtain⟨L5,k5,m5,e5⟩:=q.dG t false;refine v3 q.places ajJ Nat.add_zero ?_;refine⟨O,?_⟩;refine vs ?_;refine⟨u,A,L5,_,_,m5,Q,fun z=>?_,?_,fun z hz=>?_,((((D.mono O).trans (e2.mono O)).trans (F.mono O)).trans (e4.mono O)).trans (e5.mono O)⟩
  ·rw[k5,k4,I,U];unfold kH aA;by_cases l:z=y
   ·rw[l,if_pos rfl,if_neg o.symm,if_neg o.symm];simp only[if_neg o.symm,if_true];refine⟨by unfold aN;omega,?_,?_⟩
    ·exact ky
    omega
   ·rw[if_neg l];unfold aN;rw[if_neg l];by_cases h2:z=x
    ·grind
    ·simp only[if_neg l,if_neg h2];exact E z
  ·unfold aA;grind
  ·unfold aA;grind
end
end
theorem sX(H:Hp):aF 125 [] H fun v J=>ak (v= .agg #[i64 (-1),i64 (-1),i64 0,.bool false]/\af H J):=by
 refine aT xK ?_;have h:af H (H.new 229 [Value.int .i64 0,Value.int .i64 0,Value.int .i64 0,Value.bool false]):=bD;refine vs ?_;have q:((H.new 229 [Value.int .i64 0,Value.int .i64 0,Value.int .i64 0,Value.bool false]).wr H.size [Value.int .i64 (-1),Value.int .i64 (-1),Value.int .i64 0,Value.bool false]).own H.size=some [Value.int .i64 (-1),Value.int .i64 (-1),Value.int .i64 0,Value.bool false]:=ah (am _ _ _);have x:aj (fun z=>z=H.size) (H.new 229 [Value.int .i64 0,Value.int .i64 0,Value.int .i64 0,Value.bool false]) ((H.new 229 [Value.int .i64 0,Value.int .i64 0,Value.int .i64 0,Value.bool false]).wr H.size [Value.int .i64 (-1),Value.int .i64 (-1),Value.int .i64 0,Value.bool false]):=(aj.refl (fun z=>z=H.size) _).wr (fun _=>rfl) _;refine v1 (ae q) ?_;exact⟨rfl,h.then x O⟩
section
variable {H J : Hp} {B : FB} {C V : Nat → Prop} {w : Nw} {N P : List Int} {L : List Pc} {tops : List Int} {ch : Int → List Int} {ax : Int → Int} {aq : Int → List Int} {W : List Int}
theorem sY(m:bQ H B C w N P L tops){x g:Int}{A:List Int}(f:dY (aH w) (aU w) (bW N) ch ax aq W)(hp:HP (fh L) ch ax)(hr:aq g=x::A):
  aF 314 [ptr B.n,i64 x] H fun v J=>ak (∃N' P' L' A',bQ J B C w N' P' L' tops/\dY (aH w) (aU w) (bW N') (aA ch x []) (fj ch ax x) (aA aq g (x::A')) W/\HP (fh L') (aA ch x []) (fj ch ax x)/\
   aj (fun z=>z=B.nb\/z=B.pb\/z=B.tb) H J):=by
 have I:=f.Ze (g:=g) (x:=x) Z;have FO:=(f.rm g x Z).2.1;have ec:=m.len;have uH:=m.cells.zf;obtain⟨tv,o1,_⟩:=m.own;obtain⟨px,o,dx⟩:=hp x;obtain⟨a0,a1,a2,a3,a4⟩:=m.rd I;refine aT pA ?_;refine v1 (ae o1) ?_;refine⟨O,?_⟩;refine v3 (ae m.places) ajJ a2 ?_;refine ai.dec (fun h0=>?_) (fun h0=>?_)<;>refine vs ?_
 ·have n:ch x=[]:=by
   rw[h0]at o;cases n:ch x with
   |nil=>rfl
   |cons c r=>rw[n]at o;exact absurd o.symm (f.pr.ne (x:=x) Z)
  have e1:aA ch x []=ch:=by
   funext z;unfold aA;split
   ·grind
   ·rfl
  have u:fj ch ax x=ax:=by
   funext z;unfold fj;grind
  have t:aA aq g (x::A)=aq:=by
   funext z;unfold aA;split
   ·grind
   ·rfl
  exact⟨N,P,L,A,m,Z,Z,aj.refl _ _⟩
 obtain⟨k,K,n⟩:∃k K,ch x=k::K:=by
  cases n:ch x with
  |nil=>grind
  |cons c r=>grind
 have hk:(fh L x).k=k:=by rw[o,n];rfl
 rw[hk];have Vi:=f.cy x;have eU:=f.pr.nd x;rw[n]at Vi eU;have U:∀c∈k::K,0<=c/\c<w.cs.length:=fun c q=>f.Ex (p:=x) Z;have hkl:(k::K).length<=w.cs.length:=cm eU U;have hk1:(k::K).length=K.length+1:=ajX;refine v1 (ae o1) ?_;refine(nH m.ring Vi eU Z O).mono ?_;rintro kv H1 ⟨b,s1,hb,F⟩;have m1:=m.fresh F;have z1:=F.size;have hS:=m.slt;have htb:B.tb<H.size:=hS _ (.inr O);obtain⟨ka,kc,rfl⟩:=Sl.shape s1;refine vs ?_;refine bj.intro (fun mm env J=>∃ (i:Nat) (L':List Pc),mm=(k::K).length - i/\i<=(k::K).length/\bQ J B C w N P L' tops/\Sl J 1 (.slice ka (k::K).length kc) (k::K).length ((k::K).map i64) (some b)/\aj (fun z=>z=B.tb) H J/\
  (∀z,(fh L' z).k=(fh L z).k/\(fh L' z).d=(fh L z).d/\(fh L' z).u=if z∈(k::K).take i then -1 else(fh L z).u)/\
  env=[(0,ptr B.n),(1,i64 x),(4,i64 k),(22,.slice ka (k::K).length kc),(23,i64 (k::K).length),(24,i64 i)]) _ ⟨0,L,rfl,O,m1,s1,F.mono Z,Z,rfl⟩ ?_
 rintro mm env H2 ⟨i,a,rfl,hi,l,s2,u,Q,rfl⟩;refine vs ?_;refine ai.dec (fun gi=>?_) (fun gi=>?_)<;>refine vs ?_
 ·have Oh:i< (k::K).length:=O;obtain⟨c,MQ⟩:∃c,(k::K)[i]? =some c:=Z;have q:=U c Z;obtain⟨_,kb,lb,rfl,q2,q3⟩:=Sl.wN s2 MQ;obtain⟨ML,D,_⟩:=l.own;have Oq:=l.len;refine⟨O,?_⟩;refine v6 (ae q2) ajJ ajM Int.toNat_natCast q3 (ae D) ?_;refine⟨O,?_⟩;obtain⟨b0,_⟩:=l.rd q;obtain⟨L3,k3,e,t⟩:=l.aN q (-1);refine v3 l.places ajJ Nat.add_zero ?_;refine⟨O,?_⟩;refine vs ?_;generalize H2.wr B.tb ((aO a).set (c.toNat*4) (Value.int .i64 (-1)))=M at*;obtain⟨c0,_⟩:=e.rd q;have OA:=e.len;obtain⟨L4,k4,d,j⟩:=e.dG q false;refine⟨O,?_⟩;refine v3 e.places ajJ Nat.add_zero ?_;refine⟨O,?_⟩;refine vs ?_;refine⟨(k::K).length - (i+1),O,i+1,L4,rfl,O,d,(s2.ext t Z).ext j Z,(u.trans t).trans j,fun z=>?_,?_⟩
  ·have tk:(k::K).take (i+1)=(k::K).take i++[c]:=by rw[aj2,MQ];rfl
   obtain⟨g3,g4,g5⟩:=Q z;rw[tk,k4,k3];unfold kH;grind
  grind [wrap64]
 obtain rfl:i=(k::K).length:=O;rw[aj8]at Q;have hkr:=U k (by simp);have X:=f.raise hr n;obtain⟨ML,D,_⟩:=l.own;have Oq:=l.len;refine v1 (ae D) ?_;refine(de l.ring l.inv (x:=x) (y:=k) O O).mono ?_;rintro _ M ⟨rfl,N3,P3,r3,l3,n3,i3,t⟩;have e:=l.nI r3 i3 t l3;rw[<-n3]at X;obtain⟨cc,lt,o3,_⟩:=e.eh;refine vs ?_;refine cZ.intro (fun J=>J.own B.n=some [ptr B.c,ptr B.r,.slice (some ⟨B.tb,0,none⟩) a.length a.length,.slice (some ⟨B.tp,0,none⟩) tops.length cc]) o3 ?_;refine vs ?_;refine bG.intro (.slice (some ⟨B.tb,0,none⟩) a.length a.length) (fun J hI=>by refine v1 (ae hI) ?_;trivial) ?_;refine vs ?_;refine(sX M).mono ?_;rintro _ H4 ⟨rfl,j⟩;have o4:=j.own o3 (fun h=>h);refine And.intro o4 ?_;have d:=e.fresh j;refine vs ?_;refine⟨O,?_⟩;obtain⟨b0,_⟩:=d.rd I;obtain⟨L5,k5,m5,E⟩:=d.K4 I mr;refine v2 d.places ajJ ?_;refine⟨O,?_⟩;rw[show aS (aO a) (x.toNat*4) (aK (Value.agg #[i64 (-1),i64 (-1),i64 0,Value.bool false]))=aS (aO a) (x.toNat*4) [i64 mr.u,i64 mr.k,i64 mr.d,.bool mr.m]from rfl];have RW:=d.ly.1.2.2.2.1;generalize H4.wr B.tb (aS (aO a) (x.toNat*4) [i64 mr.u,i64 mr.k,i64 mr.d,.bool mr.m])=H5 at*;refine vs ?_;refine And.intro (E.own o4 RW) ?_;refine vs ?_;refine⟨N3,P3,L5,K++k::A,m5,X,fun z=>?_,(((u.mono O).trans (t.mono O)).trans (j.mono fun z _ h=>h.elim)).trans (E.mono O)⟩;rw[k5];unfold kH aA fj;obtain⟨g3,g4,g5⟩:=Q z;obtain⟨pz,kz,dz⟩:=hp z;by_cases G:z=x
 ·rw[if_pos G,if_pos G,G,if_neg (fun h=>by have:=(f.HS h).1 g;grind),FO];exact⟨rfl,rfl,rfl⟩
 grind
end
end Go.Proofs.YtjkkkibiegfecaaGreatDoor
