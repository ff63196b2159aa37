/- Texts put behind each other. -/
import Derived.Test.YthpjfeolagohkaaGreatK98
import Derived.Test.YthpjfeolagohkaaGreatK12
import Derived.Test.YthpjfeolagohkaaGreatK23
import Derived.Test.YthpjfeolagohkaaGreatK24
set_option maxRecDepth 100000
set_option maxHeartbeats 8000000
set_option linter.unusedVariables false
set_option linter.unusedSimpArgs false
namespace Go.Proofs.YthpjfeolagohkaaGreat
open Go Go.Vc
structure NJ(ov:Value)(I:Hp→Nat→Prop)(T:Nat→Prop)(lt:Int→Int→Bool)(D:Int→Prop:=fun _=>True):Prop where
 call:∀H n a b,D a→D b→I H n→gw Tryz.prog ov "Ahead" [i64 a,i64 b] H fun v H'=>v= .bool (lt a b)∧I H' (n+1)∧ag T H H'
 nil:PR Tryz.prog (.func (.method "Ahead") #[ov] #[])
 aG:∀H H' n U,I H n→ag U H H'→(∀x,T x→¬U x)→I H' n
 tlt:∀H n,I H n→∀x,T x→x<H.size
structure UpR where
 l:List Int
 pl:Int→Option Int
 at_:Int
 asked:Nat
def fA(lt:Int→Int→Bool)(d x:Int):Nat→List Int→(Int→Option Int)→Int→UpR
 |0,l,pl,i=>⟨l.set i.toNat x,cT pl x i,i,0⟩
 |m+1,l,pl,i=>match aW d i with
  |none=>⟨l.set i.toNat x,cT pl x i,i,0⟩
  |some p=>
   if lt x (l.getD p.toNat 0)=true then
    let r:=fA lt d x m (l.set i.toNat (l.getD p.toNat 0)) (cT pl (l.getD p.toNat 0) i) p
    ⟨r.l,r.pl,r.at_,r.asked+1⟩
   else⟨l.set i.toNat x,cT pl x i,i,1⟩
theorem SF(lt:Int→Int→Bool)(d x:Int):∀ (m m':Nat) (l:List Int) (pl:Int→Option Int) (i:Int),i.toNat≤m→i.toNat≤m'→fA lt d x m l pl i=fA lt d x m' l pl i:=by
 intro m
 induction m with
 |zero=>
  intro m' l pl i h _
  have hn:aW d i=none:=by unfold aW;rw[if_neg (by omega)]
  cases m'<;>simp[fA,hn]
 |succ m ih=>
  intro m' l pl i h h'
  cases hp:aW d i with
  |none=>cases m'<;>simp[fA,hp]
  |some p=>
   have hb:=eQ hp
   cases m' with
   |zero=>omega
   |succ m'=>simp only[fA,hp];rw[ih m' _ _ p (by omega) (by omega)]
theorem p8{l:List Int}{i:Nat}{y z:Int}(h:z∈l.set i y):z=y∨z∈l:=(apR h).symm
theorem UO(lt:Int→Int→Bool)(d x:Int):∀ (m:Nat) (l:List Int) (pl:Int→Option Int) (i:Int),0≤i→i<l.length→∀z∈(fA lt d x m l pl i).l,z=x∨z∈l:=by
 intro m
 induction m with
 |zero=>intro l pl i _ _ z hz;exact p8 hz
 |succ m ih=>
  intro l pl i h0 h1 z hz
  cases hp:aW d i with
  |none=>simp only[fA,hp]at hz;exact p8 hz
  |some p=>
   have hb:=eQ hp
   simp only[fA,hp]at hz
   split at hz
   ·rcases ih _ _ p (by omega) (by rw[aot];omega) z hz with h|h
    ·exact .inl h
    ·rcases p8 h with h|h
     ·rw[h,aou,aop (by omega)]
      exact .inr (aqj _)
     ·exact .inr h
   ·exact p8 hz
theorem rA{ov:Value}{I:Hp→Nat→Prop}{T:Nat→Prop}{lt:Int→Int→Bool}{D:Int→Prop}(ho:NJ ov I T lt D){H:Hp}{r:Nat}{S:Nat→Prop}{d:Int}{l:List Int}{pl:Int→Option Int}
  (h:di H r S d l pl)(hd:∀x,S x→¬T x){n:Nat}(hI:I H n)(i x:Int)(hi:0≤i∧i<l.length)(hl:l.length≤1000000)(hx:D x:=by trivial)(hD:∀z∈l,D z:=by intros;trivial):
  af Tryz.prog Hq [ptr r,ov,i64 i,i64 x] H fun v H'=>ar (
   let R:=fA lt d x i.toNat l pl i
   v=i64 R.at_∧di H' r S d R.l R.pl∧I H' (n+R.asked)∧ag (fun z=>S z∨T z) H H'):=by
 refine aZ HC ?_
 refine vs ?_
 refine aS.intro (fun m env H1=>∃ (l1:List Int) (A6:Int→Option Int) (i1:Int) (k:Nat),env=[(0,ptr r),(1,ov),(2,i64 i1),(3,i64 x)]∧(∀z∈l1,D z)∧m=i1.toNat∧0≤i1∧i1<l1.length∧l1.length=l.length∧
   di H1 r S d l1 A6∧I H1 (n+k)∧ag (fun z=>S z∨T z) H H1∧
   (fA lt d x i.toNat l pl i).l=(fA lt d x i1.toNat l1 A6 i1).l∧(fA lt d x i.toNat l pl i).pl=(fA lt d x i1.toNat l1 A6 i1).pl∧(fA lt d x i.toNat l pl i).at_=(fA lt d x i1.toNat l1 A6 i1).at_∧
   (fA lt d x i.toNat l pl i).asked=k+(fA lt d x i1.toNat l1 A6 i1).asked) i.toNat ⟨l,pl,i,0,rfl,hD,rfl,hi.1,hi.2,rfl,h,hI,ag.refl _ _,rfl,rfl,rfl,by omega⟩ ?_
 rintro m env H1 ⟨l1,A6,i1,k,rfl,Wf,rfl,i0,il,ll,h1,hI1,e1,u1,u2,u3,u4⟩
 obtain⟨⟨sv,fp,mb,a1,a2,a3,s1,s2,s3,s4⟩,h2⟩:=id h1
 have key:∀o:Option Int,NE o= .tuple [i64 (o.getD 0),.bool o.isSome].toArray:=by intro o;cases o<;>rfl
 refine v1 (ae a1) ?_
 refine(CH d i1 (by omega) H1).mono ?_
 rintro _ _ ⟨rfl,rfl⟩
 rw[key]
 have stop:∀ (H2:Hp) (k2:Nat),di H2 r S d l1 A6→I H2 (n+k+k2)→ag (fun z=>S z∨T z) H H2→fA lt d x i1.toNat l1 A6 i1=⟨l1.set i1.toNat x,cT A6 x i1,i1,k2⟩→
   af Tryz.prog mK [ptr r,i64 i1,i64 x] H2 fun _ H'=>(i64 i1=i64 (fA lt d x i.toNat l pl i).at_∧di H' r S d (fA lt d x i.toNat l pl i).l (fA lt d x i.toNat l pl i).pl∧
    I H' (n+(fA lt d x i.toNat l pl i).asked)∧ag (fun z=>S z∨T z) H H'):=by
  intro H2 k2 g1 g2 g3 g4
  refine(jL g1 i1 x ⟨i0,il⟩).mono ?_
  rintro _ H3 ⟨_,g5,g6⟩
  rw[u1,u2,u3,u4,g4]
  exact⟨rfl,g5,by rw[←aqE];exact ho.aG _ _ _ _ g2 g6 (fun z hz hs=>hd z hs hz),g3.trans (g6.mono fun z _ hz=>.inl hz)⟩
 cases hp:aW d i1 with
 |none=>
  simp(disch:=(first|omega| (simp only[Zs]<;>omega)|fail)) only[go_sem, ↓reduceIte,Zv,Option.isSome_none]
  refine(stop H1 0 h1 hI1 e1 ?_).mono ?_
  ·cases hm:i1.toNat<;>simp[fA,hp,hm]
  ·rintro _ H3 ⟨g1,g2,g3,g4⟩
   refine vs ?_
   exact⟨g1,g2,g3,g4⟩
 |some p=>
  have NK:=eQ hp
  obtain⟨b,rfl⟩:∃b,fp=some b:=by
   cases fp with
   |none=>obtain⟨_,e,_⟩:=a2;omega
   |some b=>exact⟨b,rfl⟩
  obtain⟨_,l',c,rfl,a4,a5,a6,a7⟩:=a2
  obtain⟨y,hy⟩:∃y,l1[p.toNat]? =some y:=⟨_,aop (by omega)⟩
  have vF:l'[p.toNat]? =some (i64 y):=by
   have h1:(l1.map i64)[p.toNat]? =some (i64 y):=by simp[hy]
   rw[←a7,aoT (by omega)]at h1
   exact h1
  have hy3:l1.getD p.toNat 0=y:=by simp[List.getD,hy]
  simp(disch:=(first|omega| (simp only[Zs]<;>omega)|fail)) only[go_sem, ↓reduceIte,Zv,Option.isSome_some,Option.getD_some,ae a1]
  refine⟨by omega,?_⟩
  refine v3 (ae a4) aos vF ?_
  refine⟨ho.nil,?_⟩
  refine vs ?_
  refine gw.mono (ho.call H1 (n+k) x y hx (Wf y (aow hy)) hI1) ?_
  rintro _ H2 ⟨rfl,Ra,e2⟩
  have JI:=h1.ext e2 hd
  have oZ:=e1.trans (e2.mono fun z _ hz=>.inr hz)
  have b1:=e2.own a1 (hd _ s1)
  have b4:=e2.own a4 (hd _ (s4 b rfl).1)
  refine vs ?_
  cases aK:lt x y with
  |false=>
   refine vs ?_
   refine(stop H2 1 JI Ra oZ ?_).mono ?_
   ·obtain⟨q,hq⟩:∃q,i1.toNat=q+1:=⟨i1.toNat - 1,by omega⟩
    rw[hq]
    simp[fA,hp,hy,aK,hq]
   ·rintro _ H3 ⟨g1,g2,g3,g4⟩
    refine vs ?_
    exact⟨g1,g2,g3,g4⟩
  |true=>
   refine v1 (ae b1) ?_
   refine⟨by omega,?_⟩
   refine v3 (ae b4) aos vF ?_
   refine(jL JI i1 y ⟨i0,il⟩).mono ?_
   rintro _ H3 ⟨_,g5,g6⟩
   refine vs ?_
   obtain⟨q,hq⟩:∃q,i1.toNat=q+1:=⟨i1.toNat - 1,by omega⟩
   have zL:fA lt d x i1.toNat l1 A6 i1=⟨(fA lt d x p.toNat (l1.set i1.toNat y) (cT A6 y i1) p).l,(fA lt d x p.toNat (l1.set i1.toNat y) (cT A6 y i1) p).pl,(fA lt d x p.toNat (l1.set i1.toNat y) (cT A6 y i1) p).at_,
     (fA lt d x p.toNat (l1.set i1.toNat y) (cT A6 y i1) p).asked+1⟩:=by
    rw[SF lt d x p.toNat q _ _ p (aoB _) (by omega),hq]
    simp only[fA,hp,hy3,aK,if_true,hq]
   refine⟨p.toNat,by omega,l1.set i1.toNat y,cT A6 y i1,p,k+1,rfl,fun z hz=>(p8 hz).elim (fun e=>e▸Wf y (aow hy)) (Wf z),rfl,by omega,by rw[aot];omega,by rw[aot];exact ll,g5,
    ho.aG _ _ _ _ Ra g6 (fun z hz hs=>hd z hs hz),oZ.trans (g6.mono fun z _ hz=>.inl hz),by rw[u1,zL],by rw[u2,zL],by rw[u3,zL],by rw[u4,zL];simp only;omega⟩
theorem HP{ov:Value}{I:Hp→Nat→Prop}{T:Nat→Prop}{lt:Int→Int→Bool}{D:Int→Prop}(ho:NJ ov I T lt D){H:Hp}{r:Nat}{S:Nat→Prop}{d:Int}{l:List Int}{pl:Int→Option Int}
  (h:di H r S d l pl)(hd:∀x,S x→¬T x){n:Nat}(hI:I H n)(x:Int)(hl:l.length<1000000)(hDx:D x:=by trivial)(hD:∀z∈l,D z:=by intros;trivial):
  af Tryz.prog FD [ptr r,ov,i64 x] H fun v H'=>ar (
   let R:=fA lt d x l.length (l++[x]) pl l.length
   (pl x≠none∧v= .bool false∧H=H')∨
   (pl x=none∧v= .bool true∧∃S',di H' r S' d R.l R.pl∧I H' (n+R.asked)∧ag (fun z=>S z∨T z) H H'∧∀z,S' z→S z∨H.size≤z)):=by
 obtain⟨⟨sv,fp,mb,a1,a2,a3,s1,s2,s3,s4⟩,h2⟩:=id h
 have key:gH true (Value.int .i64 0) ((pl x).map i64)= .tuple [i64 ((pl x).getD 0),.bool (pl x).isSome].toArray:=by cases pl x<;>rfl
 refine aZ FI ?_
 refine v3 (ae a1) a3.look key ?_
 cases hx:pl x with
 |some p=>
  simp(disch:=(first|omega| (simp only[Zs]<;>omega)|fail)) only[go_sem, ↓reduceIte,Zv,Option.isSome_some]
  exact .inl ⟨by simp,rfl,rfl⟩
 |none=>
  simp(disch:=(first|omega| (simp only[Zs]<;>omega)|fail)) only[go_sem, ↓reduceIte,Zv,Option.isSome_none,ae a1]
  have hb:=aB a1
  have e0:ag (fun _=>False) H (H.new 3 [i64 x]):=(ag.refl _ H).new 3 [i64 x]
  refine Sl.append (a2.ext e0 (fun _ _ h=>h)) (Sl.cB (size:=1) (xs:=[i64 x]) rfl rfl).rd rfl (DA [x]) (by omega) ?_
  intro v' H2 dT hs ou fU
  have b1:=ou.own (e0.own a1 (fun h=>h)) (fun e=>(s4 r e).2.1 rfl)
  have BO:=hs
  obtain⟨f,rfl⟩:∃f,dT=some f:=by
   cases dT with
   |none=>obtain⟨_,e,_⟩:=hs;omega
   |some f=>exact⟨f,rfl⟩
  obtain⟨_,l',c',rfl,g1,g2,g3,g4⟩:=BO
  have hf:(fp=some f)∨H.size≤f:=by
   rcases fU with h| ⟨z,h,h5,h6⟩
   ·exact .inl h.symm
   ·injection h with h;subst h;rw[aq]at h5;exact .inr (by omega)
  have Ss:f≠r∧f≠mb:=by
   rcases hf with h|h
   ·exact(s4 f h).2
   ·have:=a3.lt;omega
  have e2:ag (fun z=>S z) H H2:=(e0.mono fun _ _ h=>h.elim).k9 ou (fun z _ hz=>(s4 z hz).1)
  have e3:ag (fun z=>S z) H (H2.wr r [i64 d,.slice (some ⟨f,0,none⟩) (l.length+1) c',.map (some mb)]):=e2.wr (fun _=>s1) _
  have hr:di (H2.wr r [i64 d,.slice (some ⟨f,0,none⟩) (l.length+1) c',.map (some mb)]) r (fun z=>S z∨z=f) d (l++[x]) pl:=by
   have ew:ag (fun z=>z=r) H2 (H2.wr r [i64 d,.slice (some ⟨f,0,none⟩) (l.length+1) c',.map (some mb)]):=(ag.refl (fun z=>z=r) _).wr (fun _=>rfl) _
   refine⟨⟨.slice (some ⟨f,0,none⟩) (l.length+1) c',some f,mb,?_,?_,((a3.ext e0 (fun h=>h)).ext ou (fun e=>(s4 mb e).2.2 rfl)).ext ew (Ne.symm s3),.inl s1,.inl s2,s3,fun b e=>by cases e;exact⟨.inr rfl,Ss⟩⟩,?_⟩
   ·exact ah b1
   ·rw[aoy,ao5];exact hs.ext ew (fun b e=>by injection e with e;subst e;exact Ss.1)
   ·rintro z (hz|rfl)
    ·exact aoO (h2 z hz) e3.size
    ·rw[fu];exact aB g1
  have lU:∀z,(S z∨z=f)→¬T z:=by
   rintro z (hz|rfl) ht
   ·exact hd z hz ht
   ·rcases hf with h|h
    ·exact hd _ (s4 _ h).1 ht
    ·have:=ho.tlt H n hI _ ht;omega
  have Ra:=ho.aG _ _ _ _ hI e3 (fun z hz hs=>hd z hs hz)
  simp(disch:=(first|omega| (simp only[Zs]<;>omega)|fail)) only[go_sem, ↓reduceIte,Zv,b1,re b1]
  rw[wrap64 (by omega) (by omega),show((l.length+1:Nat):Int) - 1=(l.length:Int) by omega]
  refine(rA ho hr lU Ra l.length x ⟨by omega,by rw[aoy,aoV];omega⟩ (by rw[aoy];simp;omega) hDx (fun z hz=>by rcases aoL.1 hz with h|h;exact hD z h;rw[aoH.1 h];exact hDx)).mono ?_
  rintro _ H3 ⟨_,r1,r2,r3⟩
  refine vs ?_
  refine .inr ⟨rfl,rfl,_,r1,r2,?_,?_⟩
  ·refine(e3.mono fun z _ hz=>Or.inl hz).k9 r3 ?_
   rintro z hz ((h|rfl)|h)
   ·exact .inl h
   ·rcases hf with h|h
    ·exact .inl (s4 _ h).1
    ·omega
   ·exact .inr h
  ·rintro z (h|rfl)
   ·exact .inl h
   ·rcases hf with h|h
    ·exact .inl (s4 _ h).1
    ·exact .inr h
theorem Eu{ov:Value}{I:Hp→Nat→Prop}{T:Nat→Prop}{lt:Int→Int→Bool}{D:Int→Prop}(ho:NJ ov I T lt D){H:Hp}{r:Nat}{S:Nat→Prop}{d:Int}{l:List Int}{pl:Int→Option Int}
  (h:di H r S d l pl)(hd:∀x,S x→¬T x){n:Nat}(hI:I H n)(x:Int)(hl:l.length≤1000000)(hp:∀i,pl x=some i→0≤i∧i<l.length)(hDx:D x:=by trivial)(hD:∀z∈l,D z:=by intros;trivial):
  af Tryz.prog Cd [ptr r,ov,i64 x] H fun v H'=>ar (
   (pl x=none∧v= .bool false∧H=H')∨
   (∃i,pl x=some i∧v= .bool true∧di H' r S d (fA lt d x i.toNat l pl i).l (fA lt d x i.toNat l pl i).pl∧I H' (n+(fA lt d x i.toNat l pl i).asked)∧ag (fun z=>S z∨T z) H H')):=by
 obtain⟨⟨sv,fp,mb,a1,a2,a3,s1,s2,s3,s4⟩,h2⟩:=id h
 have key:gH true (Value.int .i64 0) ((pl x).map i64)= .tuple [i64 ((pl x).getD 0),.bool (pl x).isSome].toArray:=by cases pl x<;>rfl
 refine aZ Cr ?_
 refine v3 (ae a1) a3.look key ?_
 cases hx:pl x with
 |none=>
  simp(disch:=(first|omega| (simp only[Zs]<;>omega)|fail)) only[go_sem, ↓reduceIte,Zv,Option.isSome_none]
  exact .inl ⟨rfl,rfl,rfl⟩
 |some i=>
  simp(disch:=(first|omega| (simp only[Zs]<;>omega)|fail)) only[go_sem, ↓reduceIte,Zv,Option.isSome_some,Option.getD_some]
  refine(rA ho h hd hI i x (hp i hx) hl hDx hD).mono ?_
  rintro _ H3 ⟨_,r1,r2,r3⟩
  refine vs ?_
  exact .inr ⟨i,rfl,rfl,r1,r2,r3⟩
def bN(lt:Int→Int→Bool)(l:List Int)(d i:Int):Nat→Int→Int×Nat
 |0,bO=>(bO,0)
 |m+1,bO=>
  if d*i+(d - m)<l.length then
   let r:=bN lt l d i m (if lt (l.getD (d*i+(d - m)).toNat 0) (l.getD bO.toNat 0)=true then d*i+(d - m)else bO)
   (r.1,r.2+1)
  else bN lt l d i m bO
theorem di.read{H:Hp}{r:Nat}{S:Nat→Prop}{d:Int}{l:List Int}{pl:Int→Option Int}(h:di H r S d l pl)(hl:0<l.length):
  ∃f l' c mb,H.own r=some [i64 d,.slice (some ⟨f,0,none⟩) l.length c,.map (some mb)]∧H.own f=some l'∧∀ (i:Nat) (x:Int),l[i]? =some x→l'[i]? =some (i64 x):=by
 obtain⟨⟨sv,fp,mb,a1,a2,a3,s1,s2,s3,s4⟩,h2⟩:=h
 cases fp with
 |none=>obtain⟨_,e,_⟩:=a2;omega
 |some f=>
  obtain⟨_,l',c,rfl,a4,a5,a6,a7⟩:=a2
  refine⟨f,l',c,mb,a1,a4,?_⟩
  intro i x hx
  have hi:=(aoq.1 hx).1
  have h1:(l.map i64)[i]? =some (i64 x):=by simp[hx]
  rw[←a7,aoT (by omega)]at h1
  exact h1
theorem Ew{ov:Value}{I:Hp→Nat→Prop}{T:Nat→Prop}{lt:Int→Int→Bool}{D:Int→Prop}(ho:NJ ov I T lt D){H:Hp}{r:Nat}{S:Nat→Prop}{d:Int}{l:List Int}{pl:Int→Option Int}
  (h:di H r S d l pl)(hd:∀x,S x→¬T x){n:Nat}(hI:I H n)(hf:cQ d)(i:Int)(hi:0≤i∧i<l.length)(hl:l.length≤1000000)(hD:∀z∈l,D z:=by intros;trivial):
  af Tryz.prog Cg [ptr r,ov,i64 i] H fun v H'=>ar (
   ((l.length:Int)≤d*i+1∧v= .tuple [i64 0,.bool false].toArray∧H=H')∨
   (d*i+1<l.length∧v= .tuple [i64 (bN lt l d i (d - 1).toNat (d*i+1)).1,.bool true].toArray∧di H' r S d l pl∧I H' (n+(bN lt l d i (d - 1).toNat (d*i+1)).2)∧ag T H H')):=by
 obtain⟨f,l',c,mb,a1,a2,a3⟩:=h.read (by omega)
 have hf1:=hf.1
 have hf2:=hf.2
 have hc:∀k,1≤k→k≤d→rl d i k=some (d*i+k):=fun k h1 h2=>by unfold rl;rw[if_pos ⟨hf,by omega,by omega,h1,h2⟩]
 have hb:=rq (i:=i) hf (by omega) (by omega) (by omega:(1:Int)≤1) (by omega)
 refine aZ Ct ?_
 refine v1 (ae a1) ?_
 refine(r7 d i 1 H).mono ?_
 rintro _ _ ⟨rfl,rfl⟩
 rw[hc 1 (by omega) (by omega)]
 simp(disch:=(first|omega| (simp only[Zs]<;>omega)|fail)) only[go_sem, ↓reduceIte,Zv,NE,ae a1]
 refine ai.dec (fun h1=>?_) (fun h1=>?_)<;>refine vs ?_
 ·exact .inl ⟨by omega,rfl,rfl⟩
 ·refine aS.intro (fun m env H1=>∃ (bO:Int) (k:Nat),env=[(0,ptr r),(1,ov),(2,i64 i),(8,i64 bO),(10,i64 (d+1 - m))]∧(m:Int)≤d - 1∧0≤bO∧bO<l.length∧
   di H1 r S d l pl∧I H1 (n+k)∧ag T H H1∧
   (bN lt l d i (d - 1).toNat (d*i+1)).1=(bN lt l d i m bO).1∧(bN lt l d i (d - 1).toNat (d*i+1)).2=k+(bN lt l d i m bO).2) (d - 1).toNat
   ⟨d*i+1,0,by rw[show d+1 - ((d - 1).toNat:Int)=2 by omega],by omega,by omega,by omega,h,hI,ag.refl _ _,rfl,by omega⟩ ?_
  rintro m env H1 ⟨bO,k,rfl,hm,b0,b1,r1,i1,e1,u1,u2⟩
  obtain⟨f1,l1,c1,mb1,g1,g2,g3⟩:=r1.read (by omega)
  refine v1 (ae g1) ?_
  refine ai.dec (fun hk=>?_) (fun hk=>?_)<;>refine vs ?_
  ·obtain⟨q,rfl⟩:∃q,m=q+1:=⟨m - 1,by omega⟩
   rw[show d+1 - ((q+1:Nat):Int)=d - q by omega]at*
   refine v1 (ae g1) ?_
   refine(r7 d i (d - q) H1).mono ?_
   rintro _ _ ⟨rfl,rfl⟩
   have Sy:=rq (i:=i) hf (by omega) (by omega) (by omega:(1:Int)≤d - q) (by omega)
   rw[hc (d - q) (by omega) (by omega)]
   simp(disch:=(first|omega| (simp only[Zs]<;>omega)|fail)) only[go_sem, ↓reduceIte,Zv,NE,ae g1]
   refine ai.dec (fun tD=>?_) (fun tD=>?_)<;>refine vs ?_
   ·obtain⟨x,hx⟩:∃x,l[(d*i+(d - q)).toNat]? =some x:=⟨_,aop (by omega)⟩
    obtain⟨y,hy⟩:∃y,l[bO.toNat]? =some y:=⟨_,aop (by omega)⟩
    have uC:=g3 _ _ hx
    have MI:=g3 _ _ hy
    refine v1 (ae g1) ?_
    refine⟨by omega,?_⟩
    refine v4 (ae g1) (ae g2) aos uC ?_
    refine⟨by omega,?_⟩
    refine v3 (ae g2) aos MI ?_
    refine⟨ho.nil,?_⟩
    refine vs ?_
    refine gw.mono (ho.call H1 (n+k) x y (hD x (aow hx)) (hD y (aow hy)) i1) ?_
    rintro _ H2 ⟨rfl,Ra,e2⟩
    have BW:∀z,z=(if lt x y=true then d*i+(d - q)else bO)→bN lt l d i (q+1) bO=((bN lt l d i q z).1,(bN lt l d i q z).2+1):=by
     intro z hz
     rw[bN,if_pos tD]
     simp only[List.getD,hx,hy,Option.getD_some,hz]
    refine vs ?_
    refine ai.intro (fun aK=>?_) (fun aK=>?_)<;>refine vs ?_
    ·rw[wrap64 (by omega) (by omega)]
     exact⟨q,by omega,d*i+(d - q),k+1,by rw[show d+1 - (q:Int)=d - q+1 by omega],by omega,by omega,by omega,r1.ext e2 hd,Ra,e1.trans e2,
      by rw[u1,BW (d*i+(d - q)) (by rw[if_pos aK])],by rw[u2,BW (d*i+(d - q)) (by rw[if_pos aK])];simp only;omega⟩
    ·rw[wrap64 (by omega) (by omega)]
     exact⟨q,by omega,bO,k+1,by rw[show d+1 - (q:Int)=d - q+1 by omega],by omega,by omega,by omega,r1.ext e2 hd,Ra,e1.trans e2,
      by rw[u1,BW bO (by rw[if_neg (by rw[aK];simp)])],by rw[u2,BW bO (by rw[if_neg (by rw[aK];simp)])];simp only;omega⟩
   ·rw[wrap64 (by omega) (by omega)]
    have BW:bN lt l d i (q+1) bO=bN lt l d i q bO:=by rw[bN,if_neg tD]
    exact⟨q,by omega,bO,k,by rw[show d+1 - (q:Int)=d - q+1 by omega],by omega,by omega,by omega,r1,i1,e1,by rw[u1,BW],by rw[u2,BW]⟩
  ·have h0:m=0:=by omega
   subst h0
   refine .inr ⟨by omega,?_,r1,?_,e1⟩
   ·rw[u1];rfl
   ·rw[u2];exact i1
def cR(lt:Int→Int→Bool)(d x:Int):Nat→List Int→(Int→Option Int)→Int→List Int×(Int→Option Int)×Nat
 |0,l,pl,i=>(l.set i.toNat x,cT pl x i,0)
 |m+1,l,pl,i=>
  if(l.length:Int)≤d*i+1 then(l.set i.toNat x,cT pl x i,0)
  else
   let b:=bN lt l d i (d - 1).toNat (d*i+1)
   let y:=l.getD b.1.toNat 0
   if lt y x=true then
    let r:=cR lt d x m (l.set i.toNat y) (cT pl y i) b.1
    (r.1,r.2.1,r.2.2+b.2+1)
   else(l.set i.toNat x,cT pl x i,b.2+1)
theorem kF(lt:Int→Int→Bool)(l:List Int)(d i:Int)(h:0≤d*i):∀ (m:Nat) (bO:Int),(m:Int)≤d - 1→d*i+1≤bO→bO<l.length→d*i+1≤(bN lt l d i m bO).1∧(bN lt l d i m bO).1<l.length:=by
 intro m
 induction m with
 |zero=>intro bO _ h1 h2;exact⟨h1,h2⟩
 |succ m ih=>
  intro bO hm h1 h2
  unfold bN
  split
  ·simp only
   split
   ·exact ih _ (by omega) (by omega) (by omega)
   ·exact ih _ (by omega) h1 h2
  ·exact ih _ (by omega) h1 h2
theorem nh{d i b:Int}(hf:cQ d)(hi:0≤i)(hb:d*i+1≤b):i<b:=by
 have h1:=hf.1
 have:1*i≤d*i:=ap4 (by omega) hi
 omega
theorem NL(lt:Int→Int→Bool)(d x:Int)(hf:cQ d):∀ (m m':Nat) (l:List Int) (pl:Int→Option Int) (i:Int),0≤i→l.length≤i.toNat+m→l.length≤i.toNat+m'→
  cR lt d x m l pl i=cR lt d x m' l pl i:=by
 have hz:∀ (m:Nat) (l:List Int) (pl:Int→Option Int) (i:Int),0≤i→l.length≤i.toNat→cR lt d x m l pl i=(l.set i.toNat x,cT pl x i,0):=by
  intro m l pl i hi hl
  cases m with
  |zero=>rfl
  |succ m=>
   have h1:=hf.1
   have:1*i≤d*i:=ap4 (by omega) hi
   rw[cR,if_pos (by omega)]
 intro m
 induction m with
 |zero=>intro m' l pl i hi h h';rw[hz 0 l pl i hi (by omega),hz m' l pl i hi (by omega)]
 |succ m ih=>
  intro m' l pl i hi h h'
  cases m' with
  |zero=>rw[hz 0 l pl i hi (by omega),hz (m+1) l pl i hi (by omega)]
  |succ m'=>
   rw[cR,cR]
   split
   ·rfl
   ·rename_i hc
    have h1:=hf.1
    have TV:0≤d*i:=ap9 (by omega) hi
    have hb:=kF lt l d i TV (d - 1).toNat (d*i+1) (by omega) (by omega) (by omega)
    have aK:=nh hf hi hb.1
    simp only
    split
    ·rw[ih m' _ _ _ (by omega) (by rw[aot];omega) (by rw[aot];omega)]
    ·rfl
theorem F1{ov:Value}{I:Hp→Nat→Prop}{T:Nat→Prop}{lt:Int→Int→Bool}{D:Int→Prop}(ho:NJ ov I T lt D){H:Hp}{r:Nat}{S:Nat→Prop}{d:Int}{l:List Int}{pl:Int→Option Int}
  (h:di H r S d l pl)(hd:∀x,S x→¬T x){n:Nat}(hI:I H n)(hf:cQ d)(i x:Int)(hi:0≤i∧i<l.length)(hl:l.length≤1000000)(hx:D x:=by trivial)(hD:∀z∈l,D z:=by intros;trivial):
  af Tryz.prog D1 [ptr r,ov,i64 i,i64 x] H fun v H'=>ar (
   let R:=cR lt d x l.length l pl i
   di H' r S d R.1 R.2.1∧I H' (n+R.2.2)∧ag (fun z=>S z∨T z) H H'):=by
 refine aZ D7 ?_
 refine vs ?_
 refine aS.intro (fun m env H1=>∃ (l1:List Int) (A6:Int→Option Int) (i1:Int) (k:Nat),env=[(0,ptr r),(1,ov),(2,i64 i1),(3,i64 x)]∧(∀z∈l1,D z)∧m=l1.length - i1.toNat∧0≤i1∧i1<l1.length∧l1.length=l.length∧
   di H1 r S d l1 A6∧I H1 (n+k)∧ag (fun z=>S z∨T z) H H1∧
   (cR lt d x l.length l pl i).1=(cR lt d x l1.length l1 A6 i1).1∧(cR lt d x l.length l pl i).2.1=(cR lt d x l1.length l1 A6 i1).2.1∧
   (cR lt d x l.length l pl i).2.2=k+(cR lt d x l1.length l1 A6 i1).2.2) (l.length - i.toNat) ⟨l,pl,i,0,rfl,hD,rfl,hi.1,hi.2,rfl,h,hI,ag.refl _ _,rfl,rfl,by omega⟩ ?_
 rintro m env H1 ⟨l1,A6,i1,k,rfl,Wf,rfl,i0,il,ll,h1,hI1,e1,u1,u2,u3⟩
 have hd1:=hf.1
 have TV:0≤d*i1:=ap9 (by omega) i0
 have stop:∀ (H2:Hp) (k2:Nat),di H2 r S d l1 A6→I H2 (n+k+k2)→ag (fun z=>S z∨T z) H H2→cR lt d x l1.length l1 A6 i1=(l1.set i1.toNat x,cT A6 x i1,k2)→
   af Tryz.prog mK [ptr r,i64 i1,i64 x] H2 fun _ H'=>(di H' r S d (cR lt d x l.length l pl i).1 (cR lt d x l.length l pl i).2.1∧
    I H' (n+(cR lt d x l.length l pl i).2.2)∧ag (fun z=>S z∨T z) H H'):=by
  intro H2 k2 g1 g2 g3 g4
  refine(jL g1 i1 x ⟨i0,il⟩).mono ?_
  rintro _ H3 ⟨_,g5,g6⟩
  rw[u1,u2,u3,g4]
  exact⟨g5,by rw[←aqE];exact ho.aG _ _ _ _ g2 g6 (fun z hz hs=>hd z hs hz),g3.trans (g6.mono fun z _ hz=>.inl hz)⟩
 obtain⟨q,hq⟩:∃q,l1.length=q+1:=⟨l1.length - 1,by omega⟩
 refine vs ?_
 refine(Ew ho h1 hd hI1 hf i1 ⟨i0,il⟩ (by omega) Wf).mono ?_
 rintro _ H2 (⟨hc,rfl,rfl⟩| ⟨hc,rfl,h2,Ra,e2⟩)
 ·refine vs ?_
  refine(stop H1 0 h1 hI1 e1 ?_).mono ?_
  ·rw[hq,cR,if_pos hc]
  ·rintro _ H3 ⟨g1,g2,g3⟩
   refine vs ?_
   exact⟨g1,g2,g3⟩
 ·have hb:=kF lt l1 d i1 TV (d - 1).toNat (d*i1+1) (by omega) (by omega) hc
  have aK:=nh hf i0 hb.1
  obtain⟨f1,l',c1,mb1,g1,g2,g3⟩:=h2.read (by omega)
  obtain⟨y,hy⟩:∃y,l1[(bN lt l1 d i1 (d - 1).toNat (d*i1+1)).1.toNat]? =some y:=⟨_,aop (by omega)⟩
  have MI:=g3 _ _ hy
  have hy3:l1.getD (bN lt l1 d i1 (d - 1).toNat (d*i1+1)).1.toNat 0=y:=by rw[aou,hy];rfl
  have oZ:=e1.trans (e2.mono fun z _ hz=>.inr hz)
  refine v1 (ae g1) ?_
  refine⟨by omega,?_⟩
  refine v3 (ae g2) aos MI ?_
  refine⟨ho.nil,?_⟩
  refine vs ?_
  refine gw.mono (ho.call H2 _ y x (Wf y (aow hy)) hx Ra) ?_
  rintro _ H3 ⟨rfl,hI3,e3⟩
  have h3:=h2.ext e3 hd
  have Ex:=oZ.trans (e3.mono fun z _ hz=>.inr hz)
  obtain⟨f4,l4,c4,mb4,k1,k2,k3⟩:=h3.read (by omega)
  have hy4:=k3 _ _ hy
  refine vs ?_
  cases nM:lt y x with
  |false=>
   refine vs ?_
   refine(stop H3 ((bN lt l1 d i1 (d - 1).toNat (d*i1+1)).2+1) h3 (by rw[←aqE];exact hI3) Ex ?_).mono ?_
   ·rw[hq,cR,if_neg (by omega)]
    simp only[hy3,nM]
    rfl
   ·rintro _ H4 ⟨g1,g2,g3⟩
    refine vs ?_
    exact⟨g1,g2,g3⟩
  |true=>
   refine v1 (ae k1) ?_
   refine⟨by omega,?_⟩
   refine v3 (ae k2) aos hy4 ?_
   refine(jL h3 i1 y ⟨i0,il⟩).mono ?_
   rintro _ H4 ⟨_,g5,g6⟩
   refine vs ?_
   have XV:cR lt d x l1.length l1 A6 i1=((cR lt d x (l1.set i1.toNat y).length (l1.set i1.toNat y) (cT A6 y i1) (bN lt l1 d i1 (d - 1).toNat (d*i1+1)).1).1,
     (cR lt d x (l1.set i1.toNat y).length (l1.set i1.toNat y) (cT A6 y i1) (bN lt l1 d i1 (d - 1).toNat (d*i1+1)).1).2.1,
     (cR lt d x (l1.set i1.toNat y).length (l1.set i1.toNat y) (cT A6 y i1) (bN lt l1 d i1 (d - 1).toNat (d*i1+1)).1).2.2+(bN lt l1 d i1 (d - 1).toNat (d*i1+1)).2+1):=by
    rw[NL lt d x hf (l1.set i1.toNat y).length q _ _ _ (by omega) (by omega) (by rw[aot];omega),hq,cR,if_neg (by omega)]
    simp only[hy3,nM,if_true]
   refine⟨l1.length - (bN lt l1 d i1 (d - 1).toNat (d*i1+1)).1.toNat,by omega,l1.set i1.toNat y,cT A6 y i1,(bN lt l1 d i1 (d - 1).toNat (d*i1+1)).1,k+(bN lt l1 d i1 (d - 1).toNat (d*i1+1)).2+1,rfl,fun z hz=>(p8 hz).elim (fun e=>e▸Wf y (aow hy)) (Wf z),by rw[aot],by omega,by rw[aot];omega,by rw[aot];exact ll,g5,?_,
    Ex.trans (g6.mono fun z _ hz=>.inl hz),by rw[u1,XV],by rw[u2,XV],by rw[u3,XV];simp only;omega⟩
   have:=ho.aG _ _ _ _ hI3 g6 (fun z hz hs=>hd z hs hz)
   rw[show n+(k+(bN lt l1 d i1 (d - 1).toNat (d*i1+1)).2+1)=n+k+(bN lt l1 d i1 (d - 1).toNat (d*i1+1)).2+1 by omega]
   exact this
end Go.Proofs.YthpjfeolagohkaaGreat
