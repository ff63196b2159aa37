/- Texts put behind each other. -/
import Derived.Test.YthpjfeolagohkaaGreatK98
import Derived.Test.YthpjfeolagohkaaGreatK12
import Derived.Test.YthpjfeolagohkaaGreatK22
import Derived.Test.YthpjfeolagohkaaGreatK26
set_option maxRecDepth 100000
set_option maxHeartbeats 8000000
set_option linter.unusedVariables false
set_option linter.unusedSimpArgs false
namespace Go.Proofs.YthpjfeolagohkaaGreat
open Go Go.Vc
structure OD(ov:Value)(I:Hp→Nat→Prop)(T:Nat→Prop)(lt:Int→Int→Bool)(D:Int→Prop:=fun _=>True):Prop where
 call:∀H n a b,D a→D b→I H n→gQ Tryz.prog ov "Ahead" [i64 a,i64 b] H fun v H'=>v= .bool (lt a b)∧I H' (n+1)∧ag T H H'
 nil:QA Tryz.prog (.func (.method "Ahead") #[ov] #[])
 aM:∀H H' n U,I H n→ag U H H'→(∀x,T x→¬U x)→I H' n
 tlt:∀H n,I H n→∀x,T x→x<H.size
structure UpR where
 l:List Int
 pl:Int→Option Int
 at_:Int
 asked:Nat
def fS(lt:Int→Int→Bool)(d x:Int):Nat→List Int→(Int→Option Int)→Int→UpR
 |0,l,pl,i=>⟨l.set i.toNat x,da pl x i,i,0⟩
 |m+1,l,pl,i=>match aX d i with
  |none=>⟨l.set i.toNat x,da pl x i,i,0⟩
  |some p=>
   if lt x (l.getD p.toNat 0)=true then
    let r:=fS lt d x m (l.set i.toNat (l.getD p.toNat 0)) (da pl (l.getD p.toNat 0) i) p
    ⟨r.l,r.pl,r.at_,r.asked+1⟩
   else⟨l.set i.toNat x,da pl x i,i,1⟩
theorem SS(lt:Int→Int→Bool)(d x:Int):∀ (m m':Nat) (l:List Int) (pl:Int→Option Int) (i:Int),i.toNat≤m→i.toNat≤m'→fS lt d x m l pl i=fS lt d x m' l pl i:=by
 intro m
 induction m with
 |zero=>
  intro m' l pl i h _
  have hn:aX d i=none:=by unfold aX;rw[if_neg (by omega)]
  cases m'<;>simp[fS,hn]
 |succ m ih=>
  intro m' l pl i h h'
  cases hp:aX d i with
  |none=>cases m'<;>simp[fS,hp]
  |some p=>
   have hb:=fB hp
   cases m' with
   |zero=>omega
   |succ m'=>simp only[fS,hp];rw[ih m' _ _ p (by omega) (by omega)]
theorem qY{l:List Int}{i:Nat}{y z:Int}(h:z∈l.set i y):z=y∨z∈l:=(aq8 h).symm
theorem Vr(lt:Int→Int→Bool)(d x:Int):∀ (m:Nat) (l:List Int) (pl:Int→Option Int) (i:Int),0≤i→i<l.length→∀z∈(fS lt d x m l pl i).l,z=x∨z∈l:=by
 intro m
 induction m with
 |zero=>intro l pl i _ _ z hz;exact qY hz
 |succ m ih=>
  intro l pl i h0 h1 z hz
  cases hp:aX d i with
  |none=>simp only[fS,hp]at hz;exact qY hz
  |some p=>
   have hb:=fB hp
   simp only[fS,hp]at hz
   split at hz
   ·rcases ih _ _ p (by omega) (by rw[aqe];omega) z hz with h|h
    ·exact .inl h
    ·rcases qY h with h|h
     ·rw[h,aqf,aqb (by omega)]
      exact .inr (List.getElem_mem _)
     ·exact .inr h
   ·exact qY hz
theorem sN{ov:Value}{I:Hp→Nat→Prop}{T:Nat→Prop}{lt:Int→Int→Bool}{D:Int→Prop}(ho:OD ov I T lt D){H:Hp}{r:Nat}{S:Nat→Prop}{d:Int}{l:List Int}{pl:Int→Option Int}
  (h:dK H r S d l pl)(hd:∀x,S x→¬T x){n:Nat}(hI:I H n)(i x:Int)(hi:0≤i∧i<l.length)(hl:l.length≤1000000)(hx:D x:=by trivial)(hD:∀z∈l,D z:=by intros;trivial):
  af Tryz.prog Im [ptr r,ov,i64 i,i64 x] H fun v H'=>ax (
   let R:=fS lt d x i.toNat l pl i
   v=i64 R.at_∧dK H' r S d R.l R.pl∧I H' (n+R.asked)∧ag (fun z=>S z∨T z) H H'):=by
 refine bm IB ?_
 refine vs ?_
 refine aY.intro (fun m env H1=>∃ (l1:List Int) (BZ:Int→Option Int) (i1:Int) (k:Nat),env=[(0,ptr r),(1,ov),(2,i64 i1),(3,i64 x)]∧(∀z∈l1,D z)∧m=i1.toNat∧0≤i1∧i1<l1.length∧l1.length=l.length∧
   dK H1 r S d l1 BZ∧I H1 (n+k)∧ag (fun z=>S z∨T z) H H1∧
   (fS lt d x i.toNat l pl i).l=(fS lt d x i1.toNat l1 BZ i1).l∧(fS lt d x i.toNat l pl i).pl=(fS lt d x i1.toNat l1 BZ i1).pl∧(fS lt d x i.toNat l pl i).at_=(fS lt d x i1.toNat l1 BZ i1).at_∧
   (fS lt d x i.toNat l pl i).asked=k+(fS lt d x i1.toNat l1 BZ i1).asked) i.toNat ⟨l,pl,i,0,rfl,hD,rfl,hi.1,hi.2,rfl,h,hI,ag.refl _ _,rfl,rfl,rfl,by omega⟩ ?_
 rintro m env H1 ⟨l1,BZ,i1,k,rfl,WF,rfl,i0,il,ll,h1,hI1,e1,u1,u2,u3,u4⟩
 obtain⟨⟨sv,fp,mb,a1,a2,a3,s1,s2,s3,s4⟩,h2⟩:=id h1
 have key:∀o:Option Int,Oj o= .tuple [i64 (o.getD 0),.bool o.isSome].toArray:=by intro o;cases o<;>rfl
 refine v1 (ae a1) ?_
 refine(Ds d i1 (by omega) H1).mono ?_
 rintro _ _ ⟨rfl,rfl⟩
 rw[key]
 have stop:∀ (H2:Hp) (k2:Nat),dK H2 r S d l1 BZ→I H2 (n+k+k2)→ag (fun z=>S z∨T z) H H2→fS lt d x i1.toNat l1 BZ i1=⟨l1.set i1.toNat x,da BZ x i1,i1,k2⟩→
   af Tryz.prog nD [ptr r,i64 i1,i64 x] H2 fun _ H'=>(i64 i1=i64 (fS lt d x i.toNat l pl i).at_∧dK H' r S d (fS lt d x i.toNat l pl i).l (fS lt d x i.toNat l pl i).pl∧
    I H' (n+(fS lt d x i.toNat l pl i).asked)∧ag (fun z=>S z∨T z) H H'):=by
  intro H2 k2 g1 g2 g3 g4
  refine(kE g1 i1 x ⟨i0,il⟩).mono ?_
  rintro _ H3 ⟨_,g5,g6⟩
  rw[u1,u2,u3,u4,g4]
  exact⟨rfl,g5,by rw[←asj];exact ho.aM _ _ _ _ g2 g6 (fun z hz hs=>hd z hs hz),g3.trans (g6.mono fun z _ hz=>.inl hz)⟩
 cases hp:aX d i1 with
 |none=>
  simp(disch:=(first|omega| (simp only[Zs]<;>omega)|fail)) only[go_sem, ↓reduceIte,Zv,Option.isSome_none]
  refine(stop H1 0 h1 hI1 e1 ?_).mono ?_
  ·cases hm:i1.toNat<;>simp[fS,hp,hm]
  ·rintro _ H3 ⟨g1,g2,g3,g4⟩
   refine vs ?_
   exact⟨g1,g2,g3,g4⟩
 |some p=>
  have QX:=fB hp
  obtain⟨b,rfl⟩:∃b,fp=some b:=by
   cases fp with
   |none=>obtain⟨_,e,_⟩:=a2;omega
   |some b=>exact⟨b,rfl⟩
  obtain⟨_,l',c,rfl,a4,a5,a6,a7⟩:=a2
  obtain⟨y,hy⟩:∃y,l1[p.toNat]? =some y:=⟨_,aqb (by omega)⟩
  have FY:l'[p.toNat]? =some (i64 y):=by
   have h1:(l1.map i64)[p.toNat]? =some (i64 y):=by simp[hy]
   rw[←a7,aqF (by omega)]at h1
   exact h1
  have hy3:l1.getD p.toNat 0=y:=by simp[List.getD,hy]
  simp(disch:=(first|omega| (simp only[Zs]<;>omega)|fail)) only[go_sem, ↓reduceIte,Zv,Option.isSome_some,Option.getD_some,ae a1]
  refine⟨by omega,?_⟩
  refine v3 (ae a4) aqd FY ?_
  refine⟨ho.nil,?_⟩
  refine vs ?_
  refine gQ.mono (ho.call H1 (n+k) x y hx (WF y (aqg hy)) hI1) ?_
  rintro _ H2 ⟨rfl,RI,e2⟩
  have ST:=h1.ext e2 hd
  have pg:=e1.trans (e2.mono fun z _ hz=>.inr hz)
  have b1:=e2.own a1 (hd _ s1)
  have b4:=e2.own a4 (hd _ (s4 b rfl).1)
  refine vs ?_
  cases aN:lt x y with
  |false=>
   refine vs ?_
   refine(stop H2 1 ST RI pg ?_).mono ?_
   ·obtain⟨q,hq⟩:∃q,i1.toNat=q+1:=⟨i1.toNat - 1,by omega⟩
    rw[hq]
    simp[fS,hp,hy,aN,hq]
   ·rintro _ H3 ⟨g1,g2,g3,g4⟩
    refine vs ?_
    exact⟨g1,g2,g3,g4⟩
  |true=>
   refine v1 (ae b1) ?_
   refine⟨by omega,?_⟩
   refine v3 (ae b4) aqd FY ?_
   refine(kE ST i1 y ⟨i0,il⟩).mono ?_
   rintro _ H3 ⟨_,g5,g6⟩
   refine vs ?_
   obtain⟨q,hq⟩:∃q,i1.toNat=q+1:=⟨i1.toNat - 1,by omega⟩
   have CF:fS lt d x i1.toNat l1 BZ i1=⟨(fS lt d x p.toNat (l1.set i1.toNat y) (da BZ y i1) p).l,(fS lt d x p.toNat (l1.set i1.toNat y) (da BZ y i1) p).pl,(fS lt d x p.toNat (l1.set i1.toNat y) (da BZ y i1) p).at_,
     (fS lt d x p.toNat (l1.set i1.toNat y) (da BZ y i1) p).asked+1⟩:=by
    rw[SS lt d x p.toNat q _ _ p (aqm _) (by omega),hq]
    simp only[fS,hp,hy3,aN,if_true,hq]
   refine⟨p.toNat,by omega,l1.set i1.toNat y,da BZ y i1,p,k+1,rfl,fun z hz=>(qY hz).elim (fun e=>e▸WF y (aqg hy)) (WF z),rfl,by omega,by rw[aqe];omega,by rw[aqe];exact ll,g5,
    ho.aM _ _ _ _ RI g6 (fun z hz hs=>hd z hs hz),pg.trans (g6.mono fun z _ hz=>.inl hz),by rw[u1,CF],by rw[u2,CF],by rw[u3,CF],by rw[u4,CF];simp only;omega⟩
theorem IM{ov:Value}{I:Hp→Nat→Prop}{T:Nat→Prop}{lt:Int→Int→Bool}{D:Int→Prop}(ho:OD ov I T lt D){H:Hp}{r:Nat}{S:Nat→Prop}{d:Int}{l:List Int}{pl:Int→Option Int}
  (h:dK H r S d l pl)(hd:∀x,S x→¬T x){n:Nat}(hI:I H n)(x:Int)(hl:l.length<1000000)(hDx:D x:=by trivial)(hD:∀z∈l,D z:=by intros;trivial):
  af Tryz.prog Gu [ptr r,ov,i64 x] H fun v H'=>ax (
   let R:=fS lt d x l.length (l++[x]) pl l.length
   (pl x≠none∧v= .bool false∧H=H')∨
   (pl x=none∧v= .bool true∧∃S',dK H' r S' d R.l R.pl∧I H' (n+R.asked)∧ag (fun z=>S z∨T z) H H'∧∀z,S' z→S z∨H.size≤z)):=by
 obtain⟨⟨sv,fp,mb,a1,a2,a3,s1,s2,s3,s4⟩,h2⟩:=id h
 have key:hX true (Value.int .i64 0) ((pl x).map i64)= .tuple [i64 ((pl x).getD 0),.bool (pl x).isSome].toArray:=by cases pl x<;>rfl
 refine bm GA ?_
 refine v3 (ae a1) a3.look key ?_
 cases hx:pl x with
 |some p=>
  simp(disch:=(first|omega| (simp only[Zs]<;>omega)|fail)) only[go_sem, ↓reduceIte,Zv,Option.isSome_some]
  exact .inl ⟨by simp,rfl,rfl⟩
 |none=>
  simp(disch:=(first|omega| (simp only[Zs]<;>omega)|fail)) only[go_sem, ↓reduceIte,Zv,Option.isSome_none,ae a1]
  have hb:=aB a1
  have e0:ag (fun _=>False) H (H.new 3 [i64 x]):=(ag.refl _ H).new 3 [i64 x]
  refine Sl.append (a2.ext e0 (fun _ _ h=>h)) (Sl.bU (size:=1) (xs:=[i64 x]) rfl rfl).rd rfl (Er [x]) (by omega) ?_
  intro v' H2 bI hs tR eB
  have b1:=tR.own (e0.own a1 (fun h=>h)) (fun e=>(s4 r e).2.1 rfl)
  have El:=hs
  obtain⟨f,rfl⟩:∃f,bI=some f:=by
   cases bI with
   |none=>obtain⟨_,e,_⟩:=hs;omega
   |some f=>exact⟨f,rfl⟩
  obtain⟨_,l',c',rfl,g1,g2,g3,g4⟩:=El
  have hf:(fp=some f)∨H.size≤f:=by
   rcases eB with h| ⟨z,h,h5,h6⟩
   ·exact .inl h.symm
   ·injection h with h;subst h;rw[am]at h5;exact .inr (by omega)
  have X9:f≠r∧f≠mb:=by
   rcases hf with h|h
   ·exact(s4 f h).2
   ·have:=a3.lt;omega
  have e2:ag (fun z=>S z) H H2:=(e0.mono fun _ _ h=>h.elim).pL tR (fun z _ hz=>(s4 z hz).1)
  have e3:ag (fun z=>S z) H (H2.wr r [i64 d,.slice (some ⟨f,0,none⟩) (l.length+1) c',.map (some mb)]):=e2.wr (fun _=>s1) _
  have hr:dK (H2.wr r [i64 d,.slice (some ⟨f,0,none⟩) (l.length+1) c',.map (some mb)]) r (fun z=>S z∨z=f) d (l++[x]) pl:=by
   have ew:ag (fun z=>z=r) H2 (H2.wr r [i64 d,.slice (some ⟨f,0,none⟩) (l.length+1) c',.map (some mb)]):=(ag.refl (fun z=>z=r) _).wr (fun _=>rfl) _
   refine⟨⟨.slice (some ⟨f,0,none⟩) (l.length+1) c',some f,mb,?_,?_,((a3.ext e0 (fun h=>h)).ext tR (fun e=>(s4 mb e).2.2 rfl)).ext ew (Ne.symm s3),.inl s1,.inl s2,s3,fun b e=>by cases e;exact⟨.inr rfl,X9⟩⟩,?_⟩
   ·exact ai b1
   ·rw[aqj,aqy];exact hs.ext ew (fun b e=>by injection e with e;subst e;exact X9.1)
   ·rintro z (hz|rfl)
    ·exact aqw (h2 z hz) e3.size
    ·rw[cG];exact aB g1
  have kJ:∀z,(S z∨z=f)→¬T z:=by
   rintro z (hz|rfl) ht
   ·exact hd z hz ht
   ·rcases hf with h|h
    ·exact hd _ (s4 _ h).1 ht
    ·have:=ho.tlt H n hI _ ht;omega
  have RI:=ho.aM _ _ _ _ hI e3 (fun z hz hs=>hd z hs hz)
  simp(disch:=(first|omega| (simp only[Zs]<;>omega)|fail)) only[go_sem, ↓reduceIte,Zv,b1,sE b1]
  rw[wrap64 (by omega) (by omega),show((l.length+1:Nat):Int) - 1=(l.length:Int) by omega]
  refine(sN ho hr kJ RI l.length x ⟨by omega,by rw[aqj,aqn];omega⟩ (by rw[aqj];simp;omega) hDx (fun z hz=>by rcases aqq.1 hz with h|h;exact hD z h;rw[aql.1 h];exact hDx)).mono ?_
  rintro _ H3 ⟨_,r1,r2,r3⟩
  refine vs ?_
  refine .inr ⟨rfl,rfl,_,r1,r2,?_,?_⟩
  ·refine(e3.mono fun z _ hz=>Or.inl hz).pL r3 ?_
   rintro z hz ((h|rfl)|h)
   ·exact .inl h
   ·rcases hf with h|h
    ·exact .inl (s4 _ h).1
    ·omega
   ·exact .inr h
  ·rintro z (h|rfl)
   ·exact .inl h
   ·rcases hf with h|h
    ·exact .inl (s4 _ h).1
    ·exact .inr h
theorem Fh{ov:Value}{I:Hp→Nat→Prop}{T:Nat→Prop}{lt:Int→Int→Bool}{D:Int→Prop}(ho:OD ov I T lt D){H:Hp}{r:Nat}{S:Nat→Prop}{d:Int}{l:List Int}{pl:Int→Option Int}
  (h:dK H r S d l pl)(hd:∀x,S x→¬T x){n:Nat}(hI:I H n)(x:Int)(hl:l.length≤1000000)(hp:∀i,pl x=some i→0≤i∧i<l.length)(hDx:D x:=by trivial)(hD:∀z∈l,D z:=by intros;trivial):
  af Tryz.prog C4 [ptr r,ov,i64 x] H fun v H'=>ax (
   (pl x=none∧v= .bool false∧H=H')∨
   (∃i,pl x=some i∧v= .bool true∧dK H' r S d (fS lt d x i.toNat l pl i).l (fS lt d x i.toNat l pl i).pl∧I H' (n+(fS lt d x i.toNat l pl i).asked)∧ag (fun z=>S z∨T z) H H')):=by
 obtain⟨⟨sv,fp,mb,a1,a2,a3,s1,s2,s3,s4⟩,h2⟩:=id h
 have key:hX true (Value.int .i64 0) ((pl x).map i64)= .tuple [i64 ((pl x).getD 0),.bool (pl x).isSome].toArray:=by cases pl x<;>rfl
 refine bm Di ?_
 refine v3 (ae a1) a3.look key ?_
 cases hx:pl x with
 |none=>
  simp(disch:=(first|omega| (simp only[Zs]<;>omega)|fail)) only[go_sem, ↓reduceIte,Zv,Option.isSome_none]
  exact .inl ⟨rfl,rfl,rfl⟩
 |some i=>
  simp(disch:=(first|omega| (simp only[Zs]<;>omega)|fail)) only[go_sem, ↓reduceIte,Zv,Option.isSome_some,Option.getD_some]
  refine(sN ho h hd hI i x (hp i hx) hl hDx hD).mono ?_
  rintro _ H3 ⟨_,r1,r2,r3⟩
  refine vs ?_
  exact .inr ⟨i,rfl,rfl,r1,r2,r3⟩
theorem B3{H:Hp}{v:Value}{n:Nat}{xs:List Int}(h:db H 1 v n (xs.map i64))(hn:n≤1000000):
  af Tryz.prog rU [v] H fun r H'=>ax (ah H H'∧∃fp,Sl H' 1 r n (xs.map i64) fp∧∀b,fp=some b→H.size≤b∧b<H'.size):=by
 refine bm sk ?_
 have hv:∃a c,v= .slice a n c:=by
  obtain⟨_,⟨rfl,a,c,rfl⟩| ⟨b,o,c,l,rfl,_⟩⟩:=h
  ·exact⟨_,_,rfl⟩
  ·exact⟨_,_,rfl⟩
 obtain⟨a,c,rfl⟩:=hv
 refine vs ?_
 cases a with
 |none=>
  have LH:n=0:=by
   obtain⟨_,⟨rfl,_⟩| ⟨b,o,c,l,e,_⟩⟩:=h
   ·rfl
   ·cases e
  have hx:xs.map i64=[]:=aqN.1 (by have:=h.1;simpa[LH]using this)
  simp(disch:=(first|omega| (simp only[Zs]<;>omega)|fail)) only[go_sem, ↓reduceIte,Zv,Option.isNone_none]
  rw[hx,LH]
  exact⟨ag.refl _ _,none,Sl.nil H 1,fun b hb=>by cases hb⟩
 |some ad=>
  simp(disch:=(first|omega| (simp only[Zs]<;>omega)|fail)) only[go_sem, ↓reduceIte,Zv,Option.isNone_some]
  have e0:ag (fun _=>False) H (H.new 3 []):=(ag.refl _ H).new 3 []
  refine Sl.append (Sl.bU (size:=1) (n:=0) (xs:=[]) rfl rfl) (h.fresh e0) rfl (mS xs) (by omega) ?_
  intro v' H2 bI hs tR eB
  refine vs ?_
  refine⟨ag.pL e0 tR (fun z hz Ps=>by injection Ps with Ps;omega),bI,by simpa[LZ]using hs,?_⟩
  intro z hz
  have QJ:=tR.size
  rw[am]at QJ
  rcases eB with h| ⟨y,h,h5,h6⟩
  ·rw[h]at hz;injection hz with hz;omega
  ·rw[h]at hz;injection hz with hz;subst hz;rw[am]at h5;omega
def bY(lt:Int→Int→Bool)(l:List Int)(d i:Int):Nat→Int→Int×Nat
 |0,bZ=>(bZ,0)
 |m+1,bZ=>
  if d*i+(d - m)<l.length then
   let r:=bY lt l d i m (if lt (l.getD (d*i+(d - m)).toNat 0) (l.getD bZ.toNat 0)=true then d*i+(d - m)else bZ)
   (r.1,r.2+1)
  else bY lt l d i m bZ
theorem dK.read{H:Hp}{r:Nat}{S:Nat→Prop}{d:Int}{l:List Int}{pl:Int→Option Int}(h:dK H r S d l pl)(hl:0<l.length):
  ∃f l' c mb,H.own r=some [i64 d,.slice (some ⟨f,0,none⟩) l.length c,.map (some mb)]∧H.own f=some l'∧∀ (i:Nat) (x:Int),l[i]? =some x→l'[i]? =some (i64 x):=by
 obtain⟨⟨sv,fp,mb,a1,a2,a3,s1,s2,s3,s4⟩,h2⟩:=h
 cases fp with
 |none=>obtain⟨_,e,_⟩:=a2;omega
 |some f=>
  obtain⟨_,l',c,rfl,a4,a5,a6,a7⟩:=a2
  refine⟨f,l',c,mb,a1,a4,?_⟩
  intro i x hx
  have hi:=(aqc.1 hx).1
  have h1:(l.map i64)[i]? =some (i64 x):=by simp[hx]
  rw[←a7,aqF (by omega)]at h1
  exact h1
theorem Fi{ov:Value}{I:Hp→Nat→Prop}{T:Nat→Prop}{lt:Int→Int→Bool}{D:Int→Prop}(ho:OD ov I T lt D){H:Hp}{r:Nat}{S:Nat→Prop}{d:Int}{l:List Int}{pl:Int→Option Int}
  (h:dK H r S d l pl)(hd:∀x,S x→¬T x){n:Nat}(hI:I H n)(hf:cY d)(i:Int)(hi:0≤i∧i<l.length)(hl:l.length≤1000000)(hD:∀z∈l,D z:=by intros;trivial):
  af Tryz.prog C6 [ptr r,ov,i64 i] H fun v H'=>ax (
   ((l.length:Int)≤d*i+1∧v= .tuple [i64 0,.bool false].toArray∧H=H')∨
   (d*i+1<l.length∧v= .tuple [i64 (bY lt l d i (d - 1).toNat (d*i+1)).1,.bool true].toArray∧dK H' r S d l pl∧I H' (n+(bY lt l d i (d - 1).toNat (d*i+1)).2)∧ag T H H')):=by
 obtain⟨f,l',c,mb,a1,a2,a3⟩:=h.read (by omega)
 have hf1:=hf.1
 have hf2:=hf.2
 have hc:∀k,1≤k→k≤d→sF d i k=some (d*i+k):=fun k h1 h2=>by unfold sF;rw[if_pos ⟨hf,by omega,by omega,h1,h2⟩]
 have hb:=sG (i:=i) hf (by omega) (by omega) (by omega:(1:Int)≤1) (by omega)
 refine bm Dk ?_
 refine v1 (ae a1) ?_
 refine(tC d i 1 H).mono ?_
 rintro _ _ ⟨rfl,rfl⟩
 rw[hc 1 (by omega) (by omega)]
 simp(disch:=(first|omega| (simp only[Zs]<;>omega)|fail)) only[go_sem, ↓reduceIte,Zv,Oj,ae a1]
 refine ar.dec (fun h1=>?_) (fun h1=>?_)<;>refine vs ?_
 ·exact .inl ⟨by omega,rfl,rfl⟩
 ·refine aY.intro (fun m env H1=>∃ (bZ:Int) (k:Nat),env=[(0,ptr r),(1,ov),(2,i64 i),(8,i64 bZ),(10,i64 (d+1 - m))]∧(m:Int)≤d - 1∧0≤bZ∧bZ<l.length∧
   dK H1 r S d l pl∧I H1 (n+k)∧ag T H H1∧
   (bY lt l d i (d - 1).toNat (d*i+1)).1=(bY lt l d i m bZ).1∧(bY lt l d i (d - 1).toNat (d*i+1)).2=k+(bY lt l d i m bZ).2) (d - 1).toNat
   ⟨d*i+1,0,by rw[show d+1 - ((d - 1).toNat:Int)=2 by omega],by omega,by omega,by omega,h,hI,ag.refl _ _,rfl,by omega⟩ ?_
  rintro m env H1 ⟨bZ,k,rfl,hm,b0,b1,r1,i1,e1,u1,u2⟩
  obtain⟨f1,l1,c1,mb1,g1,g2,g3⟩:=r1.read (by omega)
  refine v1 (ae g1) ?_
  refine ar.dec (fun hk=>?_) (fun hk=>?_)<;>refine vs ?_
  ·obtain⟨q,rfl⟩:∃q,m=q+1:=⟨m - 1,by omega⟩
   rw[show d+1 - ((q+1:Nat):Int)=d - q by omega]at*
   refine v1 (ae g1) ?_
   refine(tC d i (d - q) H1).mono ?_
   rintro _ _ ⟨rfl,rfl⟩
   have Yx:=sG (i:=i) hf (by omega) (by omega) (by omega:(1:Int)≤d - q) (by omega)
   rw[hc (d - q) (by omega) (by omega)]
   simp(disch:=(first|omega| (simp only[Zs]<;>omega)|fail)) only[go_sem, ↓reduceIte,Zv,Oj,ae g1]
   refine ar.dec (fun tQ=>?_) (fun tQ=>?_)<;>refine vs ?_
   ·obtain⟨x,hx⟩:∃x,l[(d*i+(d - q)).toNat]? =some x:=⟨_,aqb (by omega)⟩
    obtain⟨y,hy⟩:∃y,l[bZ.toNat]? =some y:=⟨_,aqb (by omega)⟩
    have xX:=g3 _ _ hx
    have GS:=g3 _ _ hy
    refine v1 (ae g1) ?_
    refine⟨by omega,?_⟩
    refine v4 (ae g1) (ae g2) aqd xX ?_
    refine⟨by omega,?_⟩
    refine v3 (ae g2) aqd GS ?_
    refine⟨ho.nil,?_⟩
    refine vs ?_
    refine gQ.mono (ho.call H1 (n+k) x y (hD x (aqg hx)) (hD y (aqg hy)) i1) ?_
    rintro _ H2 ⟨rfl,RI,e2⟩
    have F1:∀z,z=(if lt x y=true then d*i+(d - q)else bZ)→bY lt l d i (q+1) bZ=((bY lt l d i q z).1,(bY lt l d i q z).2+1):=by
     intro z hz
     rw[bY,if_pos tQ]
     simp only[List.getD,hx,hy,Option.getD_some,hz]
    refine vs ?_
    refine ar.intro (fun aN=>?_) (fun aN=>?_)<;>refine vs ?_
    ·rw[wrap64 (by omega) (by omega)]
     exact⟨q,by omega,d*i+(d - q),k+1,by rw[show d+1 - (q:Int)=d - q+1 by omega],by omega,by omega,by omega,r1.ext e2 hd,RI,e1.trans e2,
      by rw[u1,F1 (d*i+(d - q)) (by rw[if_pos aN])],by rw[u2,F1 (d*i+(d - q)) (by rw[if_pos aN])];simp only;omega⟩
    ·rw[wrap64 (by omega) (by omega)]
     exact⟨q,by omega,bZ,k+1,by rw[show d+1 - (q:Int)=d - q+1 by omega],by omega,by omega,by omega,r1.ext e2 hd,RI,e1.trans e2,
      by rw[u1,F1 bZ (by rw[if_neg (by rw[aN];simp)])],by rw[u2,F1 bZ (by rw[if_neg (by rw[aN];simp)])];simp only;omega⟩
   ·rw[wrap64 (by omega) (by omega)]
    have F1:bY lt l d i (q+1) bZ=bY lt l d i q bZ:=by rw[bY,if_neg tQ]
    exact⟨q,by omega,bZ,k,by rw[show d+1 - (q:Int)=d - q+1 by omega],by omega,by omega,by omega,r1,i1,e1,by rw[u1,F1],by rw[u2,F1]⟩
  ·have h0:m=0:=by omega
   subst h0
   refine .inr ⟨by omega,?_,r1,?_,e1⟩
   ·rw[u1];rfl
   ·rw[u2];exact i1
def cZ(lt:Int→Int→Bool)(d x:Int):Nat→List Int→(Int→Option Int)→Int→List Int×(Int→Option Int)×Nat
 |0,l,pl,i=>(l.set i.toNat x,da pl x i,0)
 |m+1,l,pl,i=>
  if(l.length:Int)≤d*i+1 then(l.set i.toNat x,da pl x i,0)
  else
   let b:=bY lt l d i (d - 1).toNat (d*i+1)
   let y:=l.getD b.1.toNat 0
   if lt y x=true then
    let r:=cZ lt d x m (l.set i.toNat y) (da pl y i) b.1
    (r.1,r.2.1,r.2.2+b.2+1)
   else(l.set i.toNat x,da pl x i,b.2+1)
theorem lu(lt:Int→Int→Bool)(l:List Int)(d i:Int)(h:0≤d*i):∀ (m:Nat) (bZ:Int),(m:Int)≤d - 1→d*i+1≤bZ→bZ<l.length→d*i+1≤(bY lt l d i m bZ).1∧(bY lt l d i m bZ).1<l.length:=by
 intro m
 induction m with
 |zero=>intro bZ _ h1 h2;exact⟨h1,h2⟩
 |succ m ih=>
  intro bZ hm h1 h2
  unfold bY
  split
  ·simp only
   split
   ·exact ih _ (by omega) (by omega) (by omega)
   ·exact ih _ (by omega) h1 h2
  ·exact ih _ (by omega) h1 h2
theorem og{d i b:Int}(hf:cY d)(hi:0≤i)(hb:d*i+1≤b):i<b:=by
 have h1:=hf.1
 have:1*i≤d*i:=arL (by omega) hi
 omega
theorem OE(lt:Int→Int→Bool)(d x:Int)(hf:cY d):∀ (m m':Nat) (l:List Int) (pl:Int→Option Int) (i:Int),0≤i→l.length≤i.toNat+m→l.length≤i.toNat+m'→
  cZ lt d x m l pl i=cZ lt d x m' l pl i:=by
 have hz:∀ (m:Nat) (l:List Int) (pl:Int→Option Int) (i:Int),0≤i→l.length≤i.toNat→cZ lt d x m l pl i=(l.set i.toNat x,da pl x i,0):=by
  intro m l pl i hi hl
  cases m with
  |zero=>rfl
  |succ m=>
   have h1:=hf.1
   have:1*i≤d*i:=arL (by omega) hi
   rw[cZ,if_pos (by omega)]
 intro m
 induction m with
 |zero=>intro m' l pl i hi h h';rw[hz 0 l pl i hi (by omega),hz m' l pl i hi (by omega)]
 |succ m ih=>
  intro m' l pl i hi h h'
  cases m' with
  |zero=>rw[hz 0 l pl i hi (by omega),hz (m+1) l pl i hi (by omega)]
  |succ m'=>
   rw[cZ,cZ]
   split
   ·rfl
   ·rename_i hc
    have h1:=hf.1
    have Uk:0≤d*i:=arQ (by omega) hi
    have hb:=lu lt l d i Uk (d - 1).toNat (d*i+1) (by omega) (by omega) (by omega)
    have aN:=og hf hi hb.1
    simp only
    split
    ·rw[ih m' _ _ _ (by omega) (by rw[aqe];omega) (by rw[aqe];omega)]
    ·rfl
theorem GU{ov:Value}{I:Hp→Nat→Prop}{T:Nat→Prop}{lt:Int→Int→Bool}{D:Int→Prop}(ho:OD ov I T lt D){H:Hp}{r:Nat}{S:Nat→Prop}{d:Int}{l:List Int}{pl:Int→Option Int}
  (h:dK H r S d l pl)(hd:∀x,S x→¬T x){n:Nat}(hI:I H n)(hf:cY d)(i x:Int)(hi:0≤i∧i<l.length)(hl:l.length≤1000000)(hx:D x:=by trivial)(hD:∀z∈l,D z:=by intros;trivial):
  af Tryz.prog EO [ptr r,ov,i64 i,i64 x] H fun v H'=>ax (
   let R:=cZ lt d x l.length l pl i
   dK H' r S d R.1 R.2.1∧I H' (n+R.2.2)∧ag (fun z=>S z∨T z) H H'):=by
 refine bm EV ?_
 refine vs ?_
 refine aY.intro (fun m env H1=>∃ (l1:List Int) (BZ:Int→Option Int) (i1:Int) (k:Nat),env=[(0,ptr r),(1,ov),(2,i64 i1),(3,i64 x)]∧(∀z∈l1,D z)∧m=l1.length - i1.toNat∧0≤i1∧i1<l1.length∧l1.length=l.length∧
   dK H1 r S d l1 BZ∧I H1 (n+k)∧ag (fun z=>S z∨T z) H H1∧
   (cZ lt d x l.length l pl i).1=(cZ lt d x l1.length l1 BZ i1).1∧(cZ lt d x l.length l pl i).2.1=(cZ lt d x l1.length l1 BZ i1).2.1∧
   (cZ lt d x l.length l pl i).2.2=k+(cZ lt d x l1.length l1 BZ i1).2.2) (l.length - i.toNat) ⟨l,pl,i,0,rfl,hD,rfl,hi.1,hi.2,rfl,h,hI,ag.refl _ _,rfl,rfl,by omega⟩ ?_
 rintro m env H1 ⟨l1,BZ,i1,k,rfl,WF,rfl,i0,il,ll,h1,hI1,e1,u1,u2,u3⟩
 have hd1:=hf.1
 have Uk:0≤d*i1:=arQ (by omega) i0
 have stop:∀ (H2:Hp) (k2:Nat),dK H2 r S d l1 BZ→I H2 (n+k+k2)→ag (fun z=>S z∨T z) H H2→cZ lt d x l1.length l1 BZ i1=(l1.set i1.toNat x,da BZ x i1,k2)→
   af Tryz.prog nD [ptr r,i64 i1,i64 x] H2 fun _ H'=>(dK H' r S d (cZ lt d x l.length l pl i).1 (cZ lt d x l.length l pl i).2.1∧
    I H' (n+(cZ lt d x l.length l pl i).2.2)∧ag (fun z=>S z∨T z) H H'):=by
  intro H2 k2 g1 g2 g3 g4
  refine(kE g1 i1 x ⟨i0,il⟩).mono ?_
  rintro _ H3 ⟨_,g5,g6⟩
  rw[u1,u2,u3,g4]
  exact⟨g5,by rw[←asj];exact ho.aM _ _ _ _ g2 g6 (fun z hz hs=>hd z hs hz),g3.trans (g6.mono fun z _ hz=>.inl hz)⟩
 obtain⟨q,hq⟩:∃q,l1.length=q+1:=⟨l1.length - 1,by omega⟩
 refine vs ?_
 refine(Fi ho h1 hd hI1 hf i1 ⟨i0,il⟩ (by omega) WF).mono ?_
 rintro _ H2 (⟨hc,rfl,rfl⟩| ⟨hc,rfl,h2,RI,e2⟩)
 ·refine vs ?_
  refine(stop H1 0 h1 hI1 e1 ?_).mono ?_
  ·rw[hq,cZ,if_pos hc]
  ·rintro _ H3 ⟨g1,g2,g3⟩
   refine vs ?_
   exact⟨g1,g2,g3⟩
 ·have hb:=lu lt l1 d i1 Uk (d - 1).toNat (d*i1+1) (by omega) (by omega) hc
  have aN:=og hf i0 hb.1
  obtain⟨f1,l',c1,mb1,g1,g2,g3⟩:=h2.read (by omega)
  obtain⟨y,hy⟩:∃y,l1[(bY lt l1 d i1 (d - 1).toNat (d*i1+1)).1.toNat]? =some y:=⟨_,aqb (by omega)⟩
  have GS:=g3 _ _ hy
  have hy3:l1.getD (bY lt l1 d i1 (d - 1).toNat (d*i1+1)).1.toNat 0=y:=by rw[aqf,hy];rfl
  have pg:=e1.trans (e2.mono fun z _ hz=>.inr hz)
  refine v1 (ae g1) ?_
  refine⟨by omega,?_⟩
  refine v3 (ae g2) aqd GS ?_
  refine⟨ho.nil,?_⟩
  refine vs ?_
  refine gQ.mono (ho.call H2 _ y x (WF y (aqg hy)) hx RI) ?_
  rintro _ H3 ⟨rfl,hI3,e3⟩
  have h3:=h2.ext e3 hd
  have Dz:=pg.trans (e3.mono fun z _ hz=>.inr hz)
  obtain⟨f4,l4,c4,mb4,k1,k2,k3⟩:=h3.read (by omega)
  have hy4:=k3 _ _ hy
  refine vs ?_
  cases oJ:lt y x with
  |false=>
   refine vs ?_
   refine(stop H3 ((bY lt l1 d i1 (d - 1).toNat (d*i1+1)).2+1) h3 (by rw[←asj];exact hI3) Dz ?_).mono ?_
   ·rw[hq,cZ,if_neg (by omega)]
    simp only[hy3,oJ]
    rfl
   ·rintro _ H4 ⟨g1,g2,g3⟩
    refine vs ?_
    exact⟨g1,g2,g3⟩
  |true=>
   refine v1 (ae k1) ?_
   refine⟨by omega,?_⟩
   refine v3 (ae k2) aqd hy4 ?_
   refine(kE h3 i1 y ⟨i0,il⟩).mono ?_
   rintro _ H4 ⟨_,g5,g6⟩
   refine vs ?_
   have Yy:cZ lt d x l1.length l1 BZ i1=((cZ lt d x (l1.set i1.toNat y).length (l1.set i1.toNat y) (da BZ y i1) (bY lt l1 d i1 (d - 1).toNat (d*i1+1)).1).1,
     (cZ lt d x (l1.set i1.toNat y).length (l1.set i1.toNat y) (da BZ y i1) (bY lt l1 d i1 (d - 1).toNat (d*i1+1)).1).2.1,
     (cZ lt d x (l1.set i1.toNat y).length (l1.set i1.toNat y) (da BZ y i1) (bY lt l1 d i1 (d - 1).toNat (d*i1+1)).1).2.2+(bY lt l1 d i1 (d - 1).toNat (d*i1+1)).2+1):=by
    rw[OE lt d x hf (l1.set i1.toNat y).length q _ _ _ (by omega) (by omega) (by rw[aqe];omega),hq,cZ,if_neg (by omega)]
    simp only[hy3,oJ,if_true]
   refine⟨l1.length - (bY lt l1 d i1 (d - 1).toNat (d*i1+1)).1.toNat,by omega,l1.set i1.toNat y,da BZ y i1,(bY lt l1 d i1 (d - 1).toNat (d*i1+1)).1,k+(bY lt l1 d i1 (d - 1).toNat (d*i1+1)).2+1,rfl,fun z hz=>(qY hz).elim (fun e=>e▸WF y (aqg hy)) (WF z),by rw[aqe],by omega,by rw[aqe];omega,by rw[aqe];exact ll,g5,?_,
    Dz.trans (g6.mono fun z _ hz=>.inl hz),by rw[u1,Yy],by rw[u2,Yy],by rw[u3,Yy];simp only;omega⟩
   have:=ho.aM _ _ _ _ hI3 g6 (fun z hz hs=>hd z hs hz)
   rw[show n+(k+(bY lt l1 d i1 (d - 1).toNat (d*i1+1)).2+1)=n+k+(bY lt l1 d i1 (d - 1).toNat (d*i1+1)).2+1 by omega]
   exact this
end Go.Proofs.YthpjfeolagohkaaGreat
