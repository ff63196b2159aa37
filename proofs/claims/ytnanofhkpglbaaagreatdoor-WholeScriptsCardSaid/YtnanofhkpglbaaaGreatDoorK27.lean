/- Texts put behind each other. -/
import Derived.Test.YtnanofhkpglbaaaGreatDoorK26
set_option linter.unusedSimpArgs false
set_option linter.unusedVariables false
set_option maxRecDepth 100000
set_option maxHeartbeats 80000000
set_option maxHeartbeats 8000000
namespace Go.Proofs.YtnanofhkpglbaaaGreatDoor
open Go Go.Vc
section
variable{H J:Hp}{v:Value}{d:Int}{r n size c i:Nat}
theorem xT(cs:List Ce):dK (bO cs):=by
 intro v h;unfold bO at h;obtain⟨c,_,x⟩:=List.mem_flatMap.1 h;simp only[alF,List.not_mem_nil,or_false]at x;rcases x with rfl|rfl|rfl<;>rfl
theorem eY(l:List Bool):dK (l.map Value.bool):=by
 intro v h;obtain⟨x,_,rfl⟩:=alQ.1 h;rfl
theorem bD.Dj{xs:List Value}(h:bD H size v n xs):∃a c,v= .slice a n c:=by
 obtain⟨_,⟨rfl,a,c,rfl⟩| ⟨b,o,c,l,rfl,_⟩⟩:=h
 ·grind
 grind
theorem bD.cell{a:Option Addr}{cs:List Ce}(h:bD H 3 (.slice a n c) n (bO cs)){x:Ce}(m:cs[i]? =some x):
  ∃b o l,a=some ⟨b,o,none⟩/\H.rd b=some l/\i<n/\o+i*3+3<=l.length/\l[o+i*3]? =some (i64 x.1)/\l[o+i*3+1]? =some (i64 x.2.1)/\l[o+i*3+2]? =some (u64 x.2.2)/\
   (l.drop (o+i*3)).take 3=[i64 x.1,i64 x.2.1,u64 x.2.2]/\(l.drop (o+i*3+1)).take 2=[i64 x.2.1,u64 x.2.2]:=by
 have hi:=(ak8.1 m).1;have p:=dl cs;obtain⟨r,j,d,_⟩:=pt m;obtain⟨u,⟨rfl,_,_,e⟩| ⟨b,o,c',l,e,t,q,f⟩⟩:=h
 ·omega
 ·injection e with v _ _;subst v;have get:∀k,k<n*3->l[o+k]? =(bO cs)[k]? :=Z;have g:=(get (i*3) O).trans r;have w:=(get (i*3+1) O).trans j;have z:=(get (i*3+2) O).trans d;rw[<-Nat.add_assoc]at w z;have y:o+i*3+3<=l.length:=by have:=(ak8.1 z).1;omega
  refine⟨b,o,l,rfl,t,O,y,g,w,z,?_,?_⟩
  ·apply alB;grind
  ·apply alB;grind
theorem Hw(l:List Value)(off:Nat)(vs:List Value)(n:Nat)(h:off+vs.length<=n)(x:n<=l.length):(aQ l off vs).take n=aQ (l.take n) off vs:=by
 apply alB;grind [getElem?_splice]
theorem Sl.write{s off:Nat}{xs l vs:List Value}(h:Sl H size (.slice (some ⟨s,0,none⟩) n c) n xs (some s))(w:H.own s=some l)(g:off+vs.length<=n*size):
  Sl (H.wr s (aQ l off vs)) size (.slice (some ⟨s,0,none⟩) n c) n (aQ xs off vs) (some s):=by
 obtain⟨a,l',c',y,x,z,m,v⟩:=h;rw[w]at x;injection x with x;subst x;injection y with _ _ e;subst e;have hm:=amd size z;exact⟨by rw[ew];exact a,_,c,rfl,ah w,z,by rw[ew];exact m,by rw[Hw _ _ _ _ g O,v]⟩
abbrev dR(w:Nw)(z:Option Addr)(l:Nat)(x:Option Addr)(h:Nat):List Value:=[.slice z w.hs.length l,.slice x w.cs.length h]
def cm(H:Hp)(v:Value)(w:Nw)(A:Nat->Prop):Prop:=
 ∃z a h l,v= .agg (dR w z a h l).toArray/\bD H 1 (.slice z w.hs.length a) w.hs.length (w.hs.map .bool)/\bD H 3 (.slice h w.cs.length l) w.cs.length (bO w.cs)/\w.hs.length<=65537/\w.cs.length<=65536/\
  (∀x,z=some x->A x.block)/\(∀x,h=some x->A x.block)
def jx(A:Nat->Prop)(H J:Hp)(b:Nat):Prop:=A b\/(H.size<=b/\b<J.size)
theorem bD.aW{a:Option Addr}{xs:List Value}{S:Nat->Prop}(h:bD H size (.slice a n c) n xs)(e:aj S H J)(g:∀x,a=some x->¬S x.block):bD J size (.slice a n c) n xs:=by
 obtain⟨z,h| ⟨b,o,c',l,w,m,v⟩⟩:=h
 ·exact⟨z,.inl h⟩
 ·refine⟨z,.inr ⟨b,o,c',l,w,e.rd m ?_,v⟩⟩;grind
theorem cm.ext{w:Nw}{A S:Nat->Prop}(h:cm H v w A)(e:aj S H J)(y:∀b,A b->¬S b):cm J v w A:=by
 obtain⟨c,g,x,z,rfl,l,a,n,m,a1,a2⟩:=h;exact⟨c,g,x,z,rfl,bD.aW l e Z,bD.aW a e Z,n,m,a1,a2⟩
theorem cm.fresh{w:Nw}{A:Nat->Prop}(h:cm H v w A)(e:af H J):cm J v w A:=h.ext e fun _ _ h=>h
theorem cm.mono{w:Nw}{A B:Nat->Prop}(h:cm H v w A)(g:∀b,A b->B b):cm H v w B:=by
 obtain⟨c,e,x,z,rfl,l,a,n,m,a1,a2⟩:=h;exact⟨c,e,x,z,rfl,l,a,n,m,Z,Z⟩
theorem qm(k s x z:Int)(H:Hp):aD 146 [ms k s,ms x z] H fun v J=>ak (v= .bool (decide (dY k s x z))/\af H J):=by
 refine aL Hl ?_;simp(disch:=(first|exact aV|fail)) only[go_sem, ↓reduceIte,Zv,ms];have f:af H ((H.new 148 [i64 k,u64 s]).new 148 [i64 x,u64 z]):=bm.new _ _;refine ai.dec (fun h=>?_) (fun h=>?_)<;>refine vs ?_
 ·exact⟨ald Value.bool (by rw[decide_eq_decide];unfold dY;omega),f⟩
 ·exact⟨ald Value.bool (by rw[decide_eq_decide];unfold dY;omega),f⟩
theorem gH{w:Nw}{A:Nat->Prop}(h:cm H v w A)(i:Int):aD 140 [v,i64 i] H fun r J=>ak (r= .bool (decide (cu w.cs i))/\af H J):=by
 obtain⟨y,t,n,m,rfl,C,g,K⟩:=h;have f:af H (H.new 37 (dR w y t n m)):=bm;have L:=dl w.cs;refine aL KW ?_;refine vs ?_;refine ai.dec (fun hi=>?_) (fun hi=>?_)<;>refine vs ?_
 ·refine ai.dec (fun d=>?_) (fun d=>?_)<;>refine vs ?_
  ·obtain⟨x,a⟩:∃x,w.cs[i.toNat]? =some x:=⟨_,ak9 O⟩;obtain⟨b,o,l,rfl,z,B,P,e,_⟩:=bD.cell (g.fresh f) a;refine⟨O,?_⟩;refine v3 z e Nat.add_zero ?_;exact⟨ald Value.bool (by rw[decide_eq_decide];exact⟨fun j=>⟨hi,x,a,j⟩,fun⟨_,c,u,z⟩=>Z⟩),f⟩
  ·exact⟨ald Value.bool (alc (by rintro⟨x,c,p,q⟩;grind)).symm,f⟩
 ·exact⟨ald Value.bool (alc (by rintro⟨x,c,p,q⟩;omega)).symm,f⟩
theorem dq{w:Nw}{A:Nat->Prop}(h:cm H v w A)(i:Int):aD 76 [v,i64 i] H fun r J=>ak (r= .bool (decide (w.has i))/\af H J):=by
 obtain⟨y,t,n,m,rfl,g,u,B⟩:=h;have f:af H (H.new 37 (dR w y t n m)):=bm;refine aL I9 ?_;refine vs ?_;refine ai.dec (fun hi=>?_) (fun hi=>?_)<;>refine vs ?_
 ·refine ai.dec (fun d=>?_) (fun d=>?_)<;>refine vs ?_
  ·obtain⟨x,a⟩:∃x,w.hs[i.toNat]? =some x:=⟨_,ak9 O⟩;obtain⟨b,o,c',l,z,c,q,e⟩:=bD.get (g.fresh f) (i:=i.toNat) (j:=0) (x:=.bool x) O (by simp[a]);injection z with z _ _;subst z;refine⟨O,?_⟩;refine v2 c (show l[o+i.toNat*1]? =some (.bool x)from e) ?_;refine⟨ald Value.bool ?_,f⟩;cases x with
   |true=>exact(ale (show w.has i from⟨O,a⟩)).symm
   |false=>exact(alc (fun h:w.has i=>by have:=h.2;grind)).symm
  ·exact⟨ald Value.bool (alc (by rintro⟨_,p⟩;grind)).symm,f⟩
 ·exact⟨ald Value.bool (alc (by rintro⟨p,_⟩;omega)).symm,f⟩
theorem Dk(k:Int)(H:Hp)(l:0<=k/\k<=65536):aD 33 [i64 k] H fun r J=>ak (cm J r ⟨[false],List.replicate k.toNat (0,0,0)⟩ (jx (fun _=>False) H J)/\af H J):=by
 refine aL I3 ?_;refine vs ?_;refine⟨O,?_⟩;refine vs ?_;have z:=dl (List.replicate k.toNat (0,0,0));have w:(((H.new 37 [.slice none 0 0,.slice none 0 0]).new 4 [.bool false]).new 154 (dm [.int .i64 0,.int .i64 0,.int .u64 0] k.toNat)).own H.size=some [.slice none 0 0,.slice none 0 0]:=by
  rw[ax (by simp only[ag];omega),ax (by simp only[ag];omega),am]
 simp(disch:=(first|exact aV|fail)) only[go_sem, ↓reduceIte,Zv,ci w];have f:af H ((((H.new 37 [.slice none 0 0,.slice none 0 0]).new 4 [.bool false]).new 154 (dm [.int .i64 0,.int .i64 0,.int .u64 0] k.toNat)).wr H.size
   [.slice (some ⟨H.size+1,0,none⟩) 1 1,.slice (some ⟨H.size+1+1,0,none⟩) k.toNat k.toNat]):=((bm.new _ _).new _ _).wr O _
 refine⟨⟨_,_,_,_,by simp only[dR,alL];rfl,?_,?_,by simp,Z,fun x h=>.inr ?_,fun x h=>.inr ?_⟩,f⟩
 ·refine Sl.rd (fp:=some (H.size+1)) ⟨rfl,[.bool false],1,rfl,?_,alj _,by simp,rfl⟩;rw[aG O,ax (by simp only[ag];omega),az (by simp only[ag])]
 ·rw[alL]at z ⊢;refine Sl.rd (fp:=some (H.size+1+1)) ⟨z,bO (List.replicate k.toNat (0,0,0)),k.toNat,rfl,?_,alj _,O,Z⟩;rw[aG O,az (by simp only[ag]),Gm]
 ·injection h with h;subst h;simp only[bE,ag];omega
 ·injection h with h;subst h;simp only[bE,ag];omega
theorem kr{w:Nw}{A:Nat->Prop}(h:cm H v w A)(hA:∀b,A b->b<H.size)(i:Int)(c:Ce)(hi:0<=i/\i<w.cs.length):
  aD 141 [v,i64 i,.agg #[i64 c.1,i64 c.2.1,u64 c.2.2]] H fun r J=>ak (cm J r (w.put i c) (jx A H J)/\af H J):=by
 obtain⟨a,m,e,g,rfl,C,K,T,F,a1,a2⟩:=h;have X:=dl w.cs;refine aL Hi ?_;refine v1 (show Value.agg #[i64 c.1,i64 c.2.1,u64 c.2.2]=Value.agg [i64 c.1,i64 c.2.1,u64 c.2.2].toArray from rfl) ?_;have s0:Sl ((((H.new 37 (dR w a m e g)).new 154 [i64 c.1,i64 c.2.1,u64 c.2.2]).new 37 [.slice none 0 0,.slice none 0 0]).new 154 []) 3 (.slice (some ⟨H.size+1+1+1,0,none⟩) 0 0) 0 [] (some (H.size+1+1+1)):=Sl.bs (size:=3) (n:=0) (xs:=[]) rfl (by simp only[ag]);have p:af H ((((H.new 37 (dR w a m e g)).new 154 [i64 c.1,i64 c.2.1,u64 c.2.2]).new 37 [.slice none 0 0,.slice none 0 0]).new 154 []):=(((bm.new _ _).new _ _).new _ _);have Q:((((H.new 37 (dR w a m e g)).new 154 [i64 c.1,i64 c.2.1,u64 c.2.2]).new 37 [.slice none 0 0,.slice none 0 0]).new 154 []).own (H.size)=some (dR w a m e g):=by grind [ax,ag,am]
 have U:((((H.new 37 (dR w a m e g)).new 154 [i64 c.1,i64 c.2.1,u64 c.2.2]).new 37 [.slice none 0 0,.slice none 0 0]).new 154 []).own (H.size+1)=some [i64 c.1,i64 c.2.1,u64 c.2.2]:=by grind [ax,ag,az]
 have W:((((H.new 37 (dR w a m e g)).new 154 [i64 c.1,i64 c.2.1,u64 c.2.2]).new 37 [.slice none 0 0,.slice none 0 0]).new 154 []).own (H.size+1+1)=some [.slice none 0 0,.slice none 0 0]:=by grind [ax,ag,az]
 have o3:((((H.new 37 (dR w a m e g)).new 154 [i64 c.1,i64 c.2.1,u64 c.2.2]).new 37 [.slice none 0 0,.slice none 0 0]).new 154 []).own (H.size+1+1+1)=some []:=by rw[az (by simp only[ag])]
 have hz:((((H.new 37 (dR w a m e g)).new 154 [i64 c.1,i64 c.2.1,u64 c.2.2]).new 37 [.slice none 0 0,.slice none 0 0]).new 154 []).size=H.size+4:=by simp only[ag]
 generalize ((((H.new 37 (dR w a m e g)).new 154 [i64 c.1,i64 c.2.1,u64 c.2.2]).new 37 [.slice none 0 0,.slice none 0 0]).new 154 [])=E at*;refine Sl.append s0 (K.fresh p) rfl (xT _) O ?_;intro v1 H1 L s1 y N;rw[ak7,alH]at s1;have I:=y.own Q Z;have V:=y.own U Z;have G:=y.own W Z;obtain⟨b,rfl⟩:∃b,L=some b:=by
  grind
 have hb:H.size+3<=b:=by
  rcases N with h| ⟨x,h,h5,_⟩
  ·grind
  ·grind
 have Nb:=s1.lt;have M:=s1;obtain⟨_,l,c',rfl,f,q2,q3,q4⟩:=M;refine v1 (ae V) ?_;refine⟨O,?_⟩;refine v1 f ?_;refine⟨O,?_⟩;rw[show aQ l (i.toNat*3) (aK (Value.agg #[i64 c.1,i64 c.2.1,u64 c.2.2]))=aQ l (i.toNat*3) [i64 c.1,i64 c.2.1,u64 c.2.2]from rfl];have B:=Sl.write s1 (off:=i.toNat*3) (vs:=[i64 c.1,i64 c.2.1,u64 c.2.2]) f Z;have t:aj (fun z=>z=b) H1 (H1.wr b (aQ l (i.toNat*3) [i64 c.1,i64 c.2.1,u64 c.2.2])):=(aj.refl (fun z=>z=b) _).wr (fun _=>rfl) _;have P:af H (H1.wr b (aQ l (i.toNat*3) [i64 c.1,i64 c.2.1,u64 c.2.2])):=(af.then p y Z).then t O;rw[tx _ _ _ O]at B;have D:=t.own I O;have u:=t.own G O;have Kj:(H1.wr b (aQ l (i.toNat*3) [i64 c.1,i64 c.2.1,u64 c.2.2])).size=H1.size:=bE _ _ _;generalize H1.wr b (aQ l (i.toNat*3) [i64 c.1,i64 c.2.1,u64 c.2.2])=j at*;simp(disch:=(first|exact aV|fail)) only[go_sem, ↓reduceIte,Zv,ae D,u,ci u];have d:aj (fun z=>z=H.size+1+1) j (j.wr (H.size+1+1) (dR w a m (some ⟨b,0,none⟩) c')):=(aj.refl (fun z=>z=H.size+1+1) _).wr (fun _=>rfl) _;have q:=af.then P d O;refine⟨⟨a,m,some ⟨b,0,none⟩,c',by simp[Nw.put,Cd],C.fresh q,?_,T,by simpa[Nw.put]using F,fun x o=>.inl (a1 x o),fun x o=>.inr ?_⟩,q⟩
 ·have:=(B.ext d Z).rd;simpa[Nw.put]using this
 grind [bE]
theorem Bw{w:Nw}{A:Nat->Prop}(h:cm H v w A)(C:∀b,A b->b<H.size)(i:Int):
  aD 144 [v,i64 i] H fun r J=>ak (af H J/\((¬cu w.cs i/\∃g,r= .tuple [g,.bool false].toArray/\cm J g w (jx A H J))\/(cu w.cs i/\∃g,r= .tuple [g,.bool true].toArray/\cm J g (w.put i (0,0,0)) (jx A H J)))):=by
 have d:=h;obtain⟨m,c,a,n,rfl,G,D,M,E,a1,a2⟩:=h;refine aL Hj ?_;refine vs ?_;have t:af H ((H.new 37 (dR w m c a n)).new 37 [.slice none 0 0,.slice none 0 0]):=(bm.new _ _);have U:((H.new 37 (dR w m c a n)).new 37 [.slice none 0 0,.slice none 0 0]).own (H.size)=some (dR w m c a n):=by grind [ax,ag,am]
 have W:((H.new 37 (dR w m c a n)).new 37 [.slice none 0 0,.slice none 0 0]).own (H.size+1)=some [.slice none 0 0,.slice none 0 0]:=by rw[az (by simp only[ag])]
 have hz:((H.new 37 (dR w m c a n)).new 37 [.slice none 0 0,.slice none 0 0]).size=H.size+2:=by simp only[ag]
 generalize ((H.new 37 (dR w m c a n)).new 37 [.slice none 0 0,.slice none 0 0])=V at*;refine(gH (d.fresh t) i).mono ?_;rintro _ q ⟨rfl,e⟩;have I:=e.own U (fun h=>h);have p:=e.own W (fun h=>h);have z1:=e.size;refine vs ?_;refine ai.dec (fun hi=>?_) (fun hi=>?_)<;>refine v1 (ae I) ?_
 ·obtain⟨F,x,Q,_⟩:=id hi;have X:=(ak8.1 Q).1;refine(kr ((d.fresh t).fresh e) (fun b l=>by have:=C b l;omega) i (0,0,0) ⟨F,O⟩).mono ?_;rintro rv o ⟨u,f⟩;have B:=f.own p (fun h=>h);have N:=u;obtain⟨K,T,P,L,rfl,_⟩:=N;simp(disch:=(first|exact aV|fail)) only[go_sem, ↓reduceIte,Zv,B,ci B];have y:aj (fun z=>z=H.size+1) o (o.wr (H.size+1) (dR (w.put i (0,0,0)) K T P L)):=(aj.refl (fun z=>z=H.size+1) _).wr (fun _=>rfl) _;have j:=af.then ((t.trans e).trans f) y O;refine⟨j,.inr ⟨hi,_,rfl,(u.ext y (fun b l=>?_)).mono fun b l=>?_⟩⟩
  ·rcases l with l|l
   ·grind
   ·omega
  ·rcases l with l|l
   ·exact .inl l
   ·exact .inr (by rw[bE];omega)
 ·simp(disch:=(first|exact aV|fail)) only[go_sem, ↓reduceIte,Zv,p,ci p];have y:aj (fun z=>z=H.size+1) q (q.wr (H.size+1) (dR w m c a n)):=(aj.refl (fun z=>z=H.size+1) _).wr (fun _=>rfl) _;have j:=af.then (t.trans e) y O;exact⟨j,.inl ⟨hi,_,rfl,(d.fresh j).mono fun b l=>.inl l⟩⟩
theorem Dl{w:Nw}{A:Nat->Prop}(h:cm H v w A)(hA:∀b,A b->b<H.size)(g i k s:Int):
  aD 78 [v,i64 g,i64 i,ms k s] H fun r J=>ak (af H J/\((¬ (w.has g/\(0<=i/\i<w.cs.length)/\¬cu w.cs i)/\∃e,r= .tuple [e,.bool false].toArray/\cm J e w (jx A H J))\/
   ((w.has g/\(0<=i/\i<w.cs.length)/\¬cu w.cs i)/\∃e,r= .tuple [e,.bool true].toArray/\cm J e (w.put i (g,k,s)) (jx A H J)))):=by
 have f:=h;obtain⟨n,x,l,a,rfl,h1,h2,h3,h4,a1,a2⟩:=h;refine aL Ja ?_;simp(disch:=(first|exact aV|fail)) only[go_sem, ↓reduceIte,Zv,ms];have p:af H (((H.new 37 (dR w n x l a)).new 148 [i64 k,u64 s]).new 37 [.slice none 0 0,.slice none 0 0]):=((bm.new _ _).new _ _);have X:(((H.new 37 (dR w n x l a)).new 148 [i64 k,u64 s]).new 37 [.slice none 0 0,.slice none 0 0]).own (H.size)=some (dR w n x l a):=by grind [ax,ag,am]
 have o1:(((H.new 37 (dR w n x l a)).new 148 [i64 k,u64 s]).new 37 [.slice none 0 0,.slice none 0 0]).own (H.size+1)=some [i64 k,u64 s]:=by grind [ax,ag,az]
 have o2:(((H.new 37 (dR w n x l a)).new 148 [i64 k,u64 s]).new 37 [.slice none 0 0,.slice none 0 0]).own (H.size+1+1)=some [.slice none 0 0,.slice none 0 0]:=by rw[az (by simp only[ag])]
 have hz:(((H.new 37 (dR w n x l a)).new 148 [i64 k,u64 s]).new 37 [.slice none 0 0,.slice none 0 0]).size=H.size+3:=by simp only[ag]
 generalize (((H.new 37 (dR w n x l a)).new 148 [i64 k,u64 s]).new 37 [.slice none 0 0,.slice none 0 0])=T at*;have fail:∀m,af T m->¬ (w.has g/\(0<=i/\i<w.cs.length)/\¬cu w.cs i)->ak (af H (m.wr (H.size+1+1) (dR w n x l a))/\((¬ (w.has g/\(0<=i/\i<w.cs.length)/\¬cu w.cs i)/\∃e,Value.tuple [.agg (dR w n x l a).toArray,.bool false].toArray= .tuple [e,.bool false].toArray/\cm (m.wr (H.size+1+1) (dR w n x l a)) e w (jx A H (m.wr (H.size+1+1) (dR w n x l a))))\/
   ((w.has g/\(0<=i/\i<w.cs.length)/\¬cu w.cs i)/\∃e,Value.tuple [.agg (dR w n x l a).toArray,.bool false].toArray= .tuple [e,.bool true].toArray/\cm (m.wr (H.size+1+1) (dR w n x l a)) e (w.put i (g,k,s)) (jx A H (m.wr (H.size+1+1) (dR w n x l a)))))):=by
  intro m c M;have o:aj (fun z=>z=H.size+1+1) m (m.wr (H.size+1+1) (dR w n x l a)):=(aj.refl (fun z=>z=H.size+1+1) _).wr (fun _=>rfl) _;have q:=af.then (p.trans c) o O;exact⟨q,.inl ⟨M,_,rfl,(f.fresh q).mono fun b y=>.inl y⟩⟩
 refine(dq (f.fresh p) g).mono ?_;rintro _ m ⟨rfl,c⟩;have d:=c.own X (fun h=>h);have p1:=c.own o1 (fun h=>h);have j:=c.own o2 (fun h=>h);have z1:=c.size;refine vs ?_;refine ai.dec (fun L=>?_) (fun L=>?_)<;>refine vs ?_
 ·refine ai.dec (fun V=>?_) (fun V=>?_)<;>refine v1 (ae d) ?_
  ·simp(disch:=(first|exact aV|fail)) only[go_sem, ↓reduceIte,Zv,ae d,j,ci j];exact fail m c O
  ·refine ai.dec (fun G=>?_) (fun G=>?_)<;>refine v1 (ae d) ?_
   ·simp(disch:=(first|exact aV|fail)) only[go_sem, ↓reduceIte,Zv,ae d,j,ci j];exact fail m c O
   ·refine(gH ((f.fresh p).fresh c) i).mono ?_;rintro _ F ⟨rfl,t⟩;have u:=t.own d (fun h=>h);have q1:=t.own p1 (fun h=>h);have B:=t.own j (fun h=>h);have z2:=t.size;refine vs ?_;refine ai.dec (fun D=>?_) (fun D=>?_)<;>refine v1 (ae u) ?_
    ·simp(disch:=(first|exact aV|fail)) only[go_sem, ↓reduceIte,Zv,ae u,B,ci B];exact fail F (c.trans t) Z
    ·refine v2 (ae u) (ae q1) ?_;refine(kr (((f.fresh p).fresh c).fresh t) Z i (g,k,s) O).mono ?_;rintro rv P ⟨C,q⟩;have K:=q.own B (fun h=>h);have E:=C;obtain⟨W,I,N,Q,rfl,_⟩:=E;simp(disch:=(first|exact aV|fail)) only[go_sem, ↓reduceIte,Zv,K,ci K];have o:aj (fun z=>z=H.size+1+1) P (P.wr (H.size+1+1) (dR (w.put i (g,k,s)) W I N Q)):=(aj.refl (fun z=>z=H.size+1+1) _).wr (fun _=>rfl) _;have U:=af.then (((p.trans c).trans t).trans q) o O;refine⟨U,.inr ⟨Z,_,rfl,(C.ext o (fun b y=>?_)).mono fun b y=>?_⟩⟩
     ·rcases y with y|y
      ·grind
      ·omega
     ·rcases y with y|y
      ·exact .inl y
      ·exact .inr (by rw[bE];omega)
 ·simp(disch:=(first|exact aV|fail)) only[go_sem, ↓reduceIte,Zv,ae d,j,ci j];exact fail m c (fun x=>L x.1)
theorem zJ{w:Nw}{A:Nat->Prop}(h:cm H v w A)(hA:∀b,A b->b<H.size)(i k s:Int):
  aD 83 [v,i64 i,ms k s] H fun r J=>ak (af H J/\((¬ (cu w.cs i/\∀x,w.cs[i.toNat]? =some x->¬dY x.2.1 x.2.2 k s)/\∃p,r= .tuple [p,.bool false].toArray/\cm J p w (jx A H J))\/
   (cu w.cs i/\∃x,w.cs[i.toNat]? =some x/\¬dY x.2.1 x.2.2 k s/\∃p,r= .tuple [p,.bool true].toArray/\cm J p (w.put i (x.1,k,s)) (jx A H J)))):=by
 have q:=h;obtain⟨e,n,g,m,rfl,h1,E,h3,h4,a1,a2⟩:=h;refine aL E0 ?_;simp(disch:=(first|exact aV|fail)) only[go_sem, ↓reduceIte,Zv,ms];have d:af H (((H.new 37 (dR w e n g m)).new 148 [i64 k,u64 s]).new 37 [.slice none 0 0,.slice none 0 0]):=((bm.new _ _).new _ _);have o0:(((H.new 37 (dR w e n g m)).new 148 [i64 k,u64 s]).new 37 [.slice none 0 0,.slice none 0 0]).own (H.size)=some (dR w e n g m):=by grind [ax,ag,am]
 have o1:(((H.new 37 (dR w e n g m)).new 148 [i64 k,u64 s]).new 37 [.slice none 0 0,.slice none 0 0]).own (H.size+1)=some [i64 k,u64 s]:=by grind [ax,ag,az]
 have o2:(((H.new 37 (dR w e n g m)).new 148 [i64 k,u64 s]).new 37 [.slice none 0 0,.slice none 0 0]).own (H.size+1+1)=some [.slice none 0 0,.slice none 0 0]:=by rw[az (by simp only[ag])]
 have hz:(((H.new 37 (dR w e n g m)).new 148 [i64 k,u64 s]).new 37 [.slice none 0 0,.slice none 0 0]).size=H.size+3:=by simp only[ag]
 generalize (((H.new 37 (dR w e n g m)).new 148 [i64 k,u64 s]).new 37 [.slice none 0 0,.slice none 0 0])=H0 at*;refine(gH (q.fresh d) i).mono ?_;rintro _ f ⟨rfl,c⟩;have B:=c.own o0 (fun h=>h);have P:=c.own o1 (fun h=>h);have L:=c.own o2 (fun h=>h);have z1:=c.size;refine vs ?_;refine ai.dec (fun hi=>?_) (fun hi=>?_)<;>refine v1 (ae B) ?_
 ·obtain⟨Nc,x,u,_⟩:=id hi;have Nd:=(ak8.1 u).1;obtain⟨b,o,l,rfl,F,c2,c3,c4,c5,c6,c7,N⟩:=bD.cell (E.fresh (d.trans c)) u;refine⟨O,?_⟩;refine v3 F N (ae P) ?_;refine⟨O,?_⟩;refine v2 N (ae P) ?_;refine(qm x.2.1 x.2.2 k s f).mono ?_;rintro _ K ⟨rfl,y⟩;have W:=y.own B (fun h=>h);have q1:=y.own P (fun h=>h);have C:=y.own L (fun h=>h);have z2:=y.size;have D:=y.rd F (fun h=>h);refine vs ?_;refine ai.dec (fun Q=>?_) (fun Q=>?_)<;>refine v1 (ae W) ?_
  ·simp(disch:=(first|exact aV|fail)) only[go_sem, ↓reduceIte,Zv,C,ci C];have j:aj (fun z=>z=H.size+1+1) K (K.wr (H.size+1+1) (dR w e n (some ⟨b,o,none⟩) m)):=(aj.refl (fun z=>z=H.size+1+1) _).wr (fun _=>rfl) _;have t:=af.then ((d.trans c).trans y) j O;exact⟨t,.inl ⟨Z,_,rfl,(q.fresh t).mono fun b a=>.inl a⟩⟩
  ·refine⟨O,?_⟩;refine v5 D c4 Nat.add_zero (ae W) (ae q1) ?_;refine(kr (((q.fresh d).fresh c).fresh y) Z i (x.1,k,s) O).mono ?_;rintro rv T ⟨U,t⟩;have I:=t.own C (fun h=>h);have hr':=U;obtain⟨X,F3,V,G,rfl,_⟩:=hr';simp(disch:=(first|exact aV|fail)) only[go_sem, ↓reduceIte,Zv,I,ci I];have j:aj (fun z=>z=H.size+1+1) T (T.wr (H.size+1+1) (dR (w.put i (x.1,k,s)) X F3 V G)):=(aj.refl (fun z=>z=H.size+1+1) _).wr (fun _=>rfl) _;have M:=af.then (((d.trans c).trans y).trans t) j O;refine⟨M,.inr ⟨hi,x,u,Q,_,rfl,(U.ext j (fun b a=>?_)).mono fun b a=>?_⟩⟩
   ·rcases a with a|a
    ·grind
    ·omega
   ·rcases a with a|a
    ·exact .inl a
    ·exact .inr (by rw[bE];omega)
 ·simp(disch:=(first|exact aV|fail)) only[go_sem, ↓reduceIte,Zv,ae B,L,ci L];have j:aj (fun z=>z=H.size+1+1) f (f.wr (H.size+1+1) (dR w e n g m)):=(aj.refl (fun z=>z=H.size+1+1) _).wr (fun _=>rfl) _;have t:=af.then (d.trans c) j O;exact⟨t,.inl ⟨fun n=>hi n.1,_,rfl,(q.fresh t).mono fun b a=>.inl a⟩⟩
theorem Dm{w:Nw}{A:Nat->Prop}(h:cm H v w A)(g:Int):aD 85 [v,i64 g] H fun r J=>ak (r=i64 (w.len g)/\af H J):=by
 obtain⟨t,j,a,e,rfl,W,K,I,V,a1,a2⟩:=h;refine aL Jd ?_;refine vs ?_;have f:af H (H.new 37 (dR w t j a e)):=bm;have X:(H.new 37 (dR w t j a e)).own (H.size)=some (dR w t j a e):=by rw[am]
 have E:(H.new 37 (dR w t j a e)).size=H.size+1:=by simp only[ag]
 generalize (H.new 37 (dR w t j a e))=B at*;refine ba.intro (fun m env z=>∃i:Nat,env=[(1,i64 g),(5,i64 (if 0<g then(((w.cs.take i).countP fun c=>decide (c.1=g):Nat):Int)else 0)),(9,.slice a w.cs.length e),(10,i64 w.cs.length),(11,i64 i)]/\af B z/\i<=w.cs.length/\m=w.cs.length - i) w.cs.length
  ⟨0,by simp,aj.refl _ _,O,O⟩ ?_
 rintro m env z ⟨i,rfl,y,hi,rfl⟩;refine vs ?_;refine ai.dec (fun F=>?_) (fun F=>?_)<;>refine vs ?_
 ·obtain⟨x,u⟩:∃x,w.cs[i]? =some x:=⟨_,ak9 O⟩;obtain⟨b,o,l,rfl,L,N,c3,c4,c5,Q,C,U⟩:=bD.cell (K.fresh (f.trans y)) u;have G:=amq (p:=fun c:Ce=>decide (c.1=g)) (l:=w.cs.take i);have M:(w.cs.take i).length<=65536:=by rw[alC];omega
  have D:((w.cs.take (i+1)).countP fun c=>decide (c.1=g))=((w.cs.take i).countP fun c=>decide (c.1=g))+(if x.1=g then 1 else 0):=by
   rw[alq,u,amK];simp
  refine⟨O,?_⟩;refine v2 L Int.toNat_natCast ?_;refine⟨O,?_⟩;refine v1 C ?_;have d:af z ((z.new 154 [.int .i64 0,.int .i64 0,.int .u64 0]).wr z.size [i64 x.1,i64 x.2.1,u64 x.2.2]):=bm.wr (fun h=>absurd h (Nat.lt_irrefl _)) _;have P:((z.new 154 [.int .i64 0,.int .i64 0,.int .u64 0]).wr z.size [i64 x.1,i64 x.2.1,u64 x.2.2]).own z.size=some [i64 x.1,i64 x.2.1,u64 x.2.2]:=ah (am _ _ _);refine v1 (ae P) ?_;refine ai.dec (fun T=>?_) (fun T=>?_)<;>refine vs ?_
  ·refine ai.dec (fun q=>?_) (fun q=>?_)<;>refine vs ?_
   ·rw[if_pos q,wrap64 O O,wrap64 O O];refine⟨w.cs.length - (i+1),O,i+1,?_,y.trans d,O,rfl⟩;grind
   ·rw[if_neg q,wrap64 (n:=(i:Int)+1) O O];refine⟨w.cs.length - (i+1),O,i+1,?_,y.trans d,O,rfl⟩;grind
  ·rw[wrap64 (n:=(i:Int)+1) O O];refine⟨w.cs.length - (i+1),O,i+1,?_,y.trans d,O,rfl⟩;grind
 ·refine⟨ald i64 ?_,f.trans y⟩;unfold Nw.len;grind
theorem O0(k s x h:Int):pw [(0,none,.int),(1,none,.int)] [i64 k,u64 s] [i64 x,u64 h]=some (decide (k=x/\s=h)):=by
 by_cases z:k=x<;>by_cases w:s=h<;>simp[pw,Vc.lK,tJ,cH,z,w]
theorem Gn(k s x h:Int):(Jv k s x h<0↔dY k s x h)/\(Jv k s x h=0↔(k=x/\s=h)):=by
 grind [Jv,V6,xS,Jw]
theorem pA(a b:Int)(x y:Ce):pu a b x y↔(dY x.2.1 x.2.2 y.2.1 y.2.2\/(x.2.1=y.2.1/\x.2.2=y.2.2)/\a<b):=by
 unfold pu;rw[(Gn _ _ _ _).1,(Gn _ _ _ _).2]
theorem zK{w:Nw}{A:Nat->Prop}(h:cm H v w A)(a b:Int):aD 142 [v,i64 a,i64 b] H fun r J=>ak (r= .bool (w.ahead a b)/\af H J):=by
 have W:=h;obtain⟨j,d,e,g,rfl,h1,I,h3,h4,a1,a2⟩:=h;refine aL E6 ?_;refine vs ?_;have m:af H (H.new 37 (dR w j d e g)):=bm;have o0:(H.new 37 (dR w j d e g)).own (H.size)=some (dR w j d e g):=by rw[am]
 have hz:(H.new 37 (dR w j d e g)).size=H.size+1:=by simp only[ag]
 generalize (H.new 37 (dR w j d e g))=H0 at*;refine(gH (W.fresh m) a).mono ?_;rintro _ H1 ⟨rfl,c⟩;have D:=c.own o0 (fun h=>h);refine vs ?_;refine ai.dec (fun C=>?_) (fun C=>?_)<;>refine v1 (ae D) ?_
 ·refine(gH ((W.fresh m).fresh c) b).mono ?_;rintro _ z ⟨rfl,t⟩;have f:=t.own D (fun h=>h);have q3:=aB f;refine vs ?_;refine ai.dec (fun K=>?_) (fun K=>?_)<;>refine v1 (ae f) ?_
  ·obtain⟨SM,x,T,_⟩:=id C;obtain⟨N9,y,F,_⟩:=id K;have Nf:=(ak8.1 T).1;have Nb:=(ak8.1 F).1;obtain⟨bb,o,l,rfl,p,c2,c3,c4,c5,c6,c7,N⟩:=bD.cell (I.fresh ((m.trans c).trans t)) T;obtain⟨bb',o',l',u,q,d2,d3,d4,d5,d6,d7,Q⟩:=bD.cell (I.fresh ((m.trans c).trans t)) F;injection u with u;injection u with e1 e2 _;subst e1;subst e2;rw[p]at q;injection q with q;subst q;have La:=Ge p;refine⟨O,?_⟩;refine v2 p N ?_;refine⟨O,?_⟩;refine v1 N ?_;have B:af z ((z.new 148 ml).wr z.size [i64 x.2.1,u64 x.2.2]):=bm.wr O _;have M:((z.new 148 ml).wr z.size [i64 x.2.1,u64 x.2.2]).own z.size=some [i64 x.2.1,u64 x.2.2]:=ah (am _ _ _);have SN:((z.new 148 ml).wr z.size [i64 x.2.1,u64 x.2.2]).size=z.size+1:=by simp only[bE,ag]
   generalize (z.new 148 ml).wr z.size [i64 x.2.1,u64 x.2.2]=n at*;have r0:=B.own f (fun h=>h);have g1:=B.rd p (fun h=>h);refine v1 (ae f) ?_;refine⟨O,?_⟩;refine v2 g1 Q ?_;refine⟨O,?_⟩;refine v1 Q ?_;have U:af n ((n.new 148 ml).wr n.size [i64 y.2.1,u64 y.2.2]):=bm.wr O _;have X:((n.new 148 ml).wr n.size [i64 y.2.1,u64 y.2.2]).own n.size=some [i64 y.2.1,u64 y.2.2]:=ah (am _ _ _);have E:=U.own M (fun h=>h);generalize (n.new 148 ml).wr n.size [i64 y.2.1,u64 y.2.2]=H4 at*;refine v3 (ae M) (ae E) (ae X) ?_;refine(qm x.2.1 x.2.2 y.2.1 y.2.2 H4).mono ?_;rintro _ H5 ⟨rfl,P⟩;have u1:=P.own E (fun h=>h);have u2:=P.own X (fun h=>h);have L:=((((m.trans c).trans t).trans B).trans U).trans P;have hw:w.ahead a b=decide (pu a b x y):=by unfold Nw.ahead;rw[ale C,ale K,T,F];rfl
   refine vs ?_;refine ai.dec (fun hl=>?_) (fun hl=>?_)<;>refine v2 (ae u1) (ae u2) ?_
   ·exact⟨ald Value.bool (by grind [pA]),L⟩
   ·rw[O0,Option.map_some];refine vs ?_;have G:∀V:Bool,(V=true↔pu a b x y)->V=w.ahead a b:=Z;refine ai.dec (fun he=>?_) (fun he=>?_)<;>refine vs ?_
    ·exact⟨ald Value.bool (G _ (by grind [pA])),L⟩
    ·exact⟨ald Value.bool (G false ⟨Z,fun h=>((pA a b x y).1 h).elim Z O⟩),L⟩
  ·exact⟨ald Value.bool (by unfold Nw.ahead;grind),(m.trans c).trans t⟩
 ·exact⟨ald Value.bool (by unfold Nw.ahead;grind),m.trans c⟩
theorem Bx{w:Nw}{A:Nat->Prop}(h:cm H v w A)(hA:∀b,A b->b<H.size):
  aD 75 [v] H fun r J=>ak (af H J/\((w.hs.length=65537/\∃j,r= .tuple [j,i64 0].toArray/\cm J j w (jx A H J))\/
   (w.hs.length≠65537/\∃j,r= .tuple [j,i64 w.hs.length].toArray/\cm J j w.make (jx A H J)))):=by
 have h':=h;obtain⟨d,p,a,m,rfl,E,h2,h3,h4,a1,a2⟩:=h;refine aL Hd ?_;refine vs ?_;have C:af H ((H.new 37 (dR w d p a m)).new 37 [.slice none 0 0,.slice none 0 0]):=(bm.new _ _);have t:((H.new 37 (dR w d p a m)).new 37 [.slice none 0 0,.slice none 0 0]).own (H.size)=some (dR w d p a m):=by grind [ax,ag,am]
 have o1:((H.new 37 (dR w d p a m)).new 37 [.slice none 0 0,.slice none 0 0]).own (H.size+1)=some [.slice none 0 0,.slice none 0 0]:=by rw[az (by simp only[ag])]
 have hz:((H.new 37 (dR w d p a m)).new 37 [.slice none 0 0,.slice none 0 0]).size=H.size+2:=by simp only[ag]
 generalize ((H.new 37 (dR w d p a m)).new 37 [.slice none 0 0,.slice none 0 0])=H0 at*;refine ai.dec (fun hl=>?_) (fun hl=>?_)<;>refine v1 (ae t) ?_
 ·simp(disch:=(first|exact aV|fail)) only[go_sem, ↓reduceIte,Zv,o1,ci o1];have D:aj (fun z=>z=H.size+1) H0 (H0.wr (H.size+1) (dR w d p a m)):=(aj.refl (fun z=>z=H.size+1) _).wr (fun _=>rfl) _;have K:=af.then C D O;exact⟨K,.inl ⟨O,_,rfl,(h'.fresh K).mono fun b y=>.inl y⟩⟩
 ·refine di.intro (fun J=>J.own H.size=some (dR w d p a m)) t ?_;refine vs ?_;refine bG.intro (.slice d w.hs.length p) (fun J Q=>?_) ?_
  ·refine v1 (ae Q) ?_;grind
  refine vs ?_;refine bG.intro (.slice a w.cs.length m) (fun J Q=>?_) ?_
  ·refine v1 (ae Q) ?_;grind
  refine vs ?_;refine bG.intro (.slice d w.hs.length p) (fun J Q=>?_) ?_
  ·refine v1 (ae Q) ?_;grind
  have fin:∀ (H2:Hp) (v2:Value) (fp:Option Nat),af H0 H2->Sl H2 1 v2 (w.hs.length+1) (w.hs.map Value.bool++[.bool true]) fp->(∀b,fp=some b->H0.size<=b)->
    ∃a2 c,v2= .slice a2 (w.hs.length+1) c/\H2.own (H.size+1)=some [.slice none 0 0,.slice none 0 0]/\
    ak (af H (H2.wr (H.size+1) [.slice a2 (w.hs.length+1) c,.slice a w.cs.length m])/\((w.hs.length=65537/\∃j,Value.tuple [.agg [.slice a2 (w.hs.length+1) c,.slice a w.cs.length m].toArray,i64 w.hs.length].toArray= .tuple [j,i64 0].toArray/\cm (H2.wr (H.size+1) [.slice a2 (w.hs.length+1) c,.slice a w.cs.length m]) j w (jx A H (H2.wr (H.size+1) [.slice a2 (w.hs.length+1) c,.slice a w.cs.length m])))\/
     (w.hs.length≠65537/\∃j,Value.tuple [.agg [.slice a2 (w.hs.length+1) c,.slice a w.cs.length m].toArray,i64 w.hs.length].toArray= .tuple [j,i64 w.hs.length].toArray/\cm (H2.wr (H.size+1) [.slice a2 (w.hs.length+1) c,.slice a w.cs.length m]) j w.make (jx A H (H2.wr (H.size+1) [.slice a2 (w.hs.length+1) c,.slice a w.cs.length m]))))):=by
   intro H2 v2 fp g V ww;obtain⟨P,c,rfl⟩:=bD.Dj V.rd;have D:aj (fun z=>z=H.size+1) H2 (H2.wr (H.size+1) [.slice P (w.hs.length+1) c,.slice a w.cs.length m]):=(aj.refl (fun z=>z=H.size+1) _).wr (fun _=>rfl) _;have K:=af.then (C.trans g) D O;refine⟨P,c,rfl,g.own o1 (fun h=>h),K,.inr ⟨O,_,rfl,P,c,a,m,by simp[Nw.make],?_,h2.fresh K,by simp[Nw.make];omega,h4,fun x hx=>.inr ?_,fun x hx=>.inl (a2 x hx)⟩⟩
   ·have:=(V.ext D Z).rd;simpa[Nw.make]using this
   ·have y:fp=some x.block:=by
     obtain⟨_,V⟩:=V;cases fp with
     |none=>omega
     |some b=>grind
    have h5:=ww _ y;have h6:=Sl.lt (y▸V);grind [bE]
  have e:∀M l,af M (M.new 4 l):=fun M l=>bm;refine vs ?_;refine ry.intro ?_ ?_
  ·refine v1 t ?_;refine ry.intro ?_ ?_
   ·refine vs ?_;refine Sl.append (Sl.bs (size:=1) (n:=0) (xs:=[]) rfl rfl) (E.fresh (C.trans (e H0 []))) rfl (eY _) O ?_;intro v12 H2 N u B SO;rw[ak7,alH]at u;have XC:∀b,N=some b->H0.size<=b/\b≠H0.size+1+1000000000000*0+H0.size*0+(b+1):=fun b y=>by
     grind [ag]
    have g:af H0 H2:=af.then (e H0 []) B Z;have U:=g.own t (fun h=>h);have z2:=g.size;refine v1 U ?_;refine Sl.append (u.ext (e H2 [.bool true]) (fun _ _ h=>h)) (Sl.bs (size:=1) (xs:=[.bool true]) rfl rfl).rd rfl (eY [true]) O ?_;intro G H4 o I L X;have q:af H0 H4:=af.then (g.trans (e H2 [.bool true])) L Z;have F:∀b,o=some b->H0.size<=b:=fun b y=>by
     rcases X with h| ⟨x,h,h5,_⟩
     ·grind
     ·rw[h]at y;injection y with y;have:=(g.trans (e H2 [.bool true])).size;omega
    obtain⟨P,c,rfl,f,fin⟩:=fin H4 G o q I F;have W:=q.own t (fun h=>h);simp(disch:=(first|exact aV|fail)) only[go_sem, ↓reduceIte,Zv,f,W,ci f];exact fin
   ·refine v1 t ?_;refine Sl.append ((Sl.bs (H:=H0) (T:=4) (size:=1) (n:=0) (xs:=[]) rfl rfl).ext (e _ [.bool true]) (fun _ _ h=>h)) (E.fresh (C.trans ((e H0 []).trans (e _ [.bool true])))) rfl (eY _) O ?_;intro v12 H2 N u B SO;rw[ak7,alH]at u;have XC:∀b,N=some b->H0.size<=b/\b≠H0.size+1:=fun b y=>by
     grind [ag]
    have g:af H0 H2:=af.then ((e H0 []).trans (e _ [.bool true])) B Z;have U:=g.own t (fun h=>h);have z2:=g.size;refine v1 U ?_;have l13:bD H2 1 (.slice (some ⟨H0.size+1,0,none⟩) 1 1) 1 [.bool true]:=bD.aW (Sl.bs (H:=H0.new 4 []) (T:=4) (size:=1) (n:=1) (xs:=[.bool true]) rfl (by simp only[ag])).rd B Z;refine Sl.append u l13 rfl (eY [true]) O ?_;intro G H4 o I L X;have q:af H0 H4:=af.then (g) L Z;have F:∀b,o=some b->H0.size<=b:=Z;obtain⟨P,c,rfl,f,fin⟩:=fin H4 G o q I F;have W:=q.own t (fun h=>h);simp(disch:=(first|exact aV|fail)) only[go_sem, ↓reduceIte,Zv,f,W,ci f];exact fin
  ·refine v1 t ?_;refine Sl.append (Sl.bs (size:=1) (n:=0) (xs:=[]) rfl (by simp only[ag])) (E.fresh (C.trans ((e H0 [.bool true]).trans (e _ [])))) rfl (eY _) O ?_;intro v12 H2 N u B SO;rw[ak7,alH]at u;have XC:∀b,N=some b->H0.size<=b/\b≠H0.size:=fun b y=>by
    grind [ag]
   have g:af H0 H2:=af.then ((e H0 [.bool true]).trans (e _ [])) B Z;have U:=g.own t (fun h=>h);have z2:=g.size;refine v1 U ?_;have l13:bD H2 1 (.slice (some ⟨H0.size,0,none⟩) 1 1) 1 [.bool true]:=bD.aW ((Sl.bs (H:=H0) (T:=4) (size:=1) (n:=1) (xs:=[.bool true]) rfl rfl).rd.fresh (e _ [])) B Z;refine Sl.append u l13 rfl (eY [true]) O ?_;intro G H4 o I L X;have q:af H0 H4:=af.then (g) L Z;have F:∀b,o=some b->H0.size<=b:=Z;obtain⟨P,c,rfl,f,fin⟩:=fin H4 G o q I F;have W:=q.own t (fun h=>h);simp(disch:=(first|exact aV|fail)) only[go_sem, ↓reduceIte,Zv,f,W,ci f];exact fin
theorem Jx{α:Type}(l:List α)(i:Nat)(x:α)(h:l[i]? =some x):l.set i x=l:=by
 apply alB;grind
theorem xU{α:Type}(f:α->α)(l:List α)(i:Nat)(x:α)(h:l[i]? =some x):((l.take i).map f++l.drop i).set i (f x)=(l.take (i+1)).map f++l.drop (i+1):=by
 have hi:=(ak8.1 h).1;have z:((l.take i).map f).length=i:=by simp;omega
 apply alB;grind
theorem By{w:Nw}{A:Nat->Prop}(h:cm H v w A)(hA:∀b,A b->b<H.size)(x y:Int):
  aD 84 [v,i64 x,i64 y] H fun r J=>ak (af H J/\((¬ (w.has x/\w.has y/\x≠y)/\∃p,r= .tuple [p,.bool false].toArray/\cm J p w (jx A H J))\/
   ((w.has x/\w.has y/\x≠y)/\∃p,r= .tuple [p,.bool true].toArray/\cm J p (w.join x y) (jx A H J)))):=by
 have D:=h;obtain⟨j,a,g,t,rfl,h1,h2,h3,h4,a1,a2⟩:=h;refine aL Hg ?_;refine vs ?_;have N:af H ((H.new 37 (dR w j a g t)).new 37 [.slice none 0 0,.slice none 0 0]):=(bm.new _ _);have o0:((H.new 37 (dR w j a g t)).new 37 [.slice none 0 0,.slice none 0 0]).own (H.size)=some (dR w j a g t):=by grind [ax,ag,am]
 have o1:((H.new 37 (dR w j a g t)).new 37 [.slice none 0 0,.slice none 0 0]).own (H.size+1)=some [.slice none 0 0,.slice none 0 0]:=by rw[az (by simp only[ag])]
 have hz:((H.new 37 (dR w j a g t)).new 37 [.slice none 0 0,.slice none 0 0]).size=H.size+2:=by simp only[ag]
 generalize ((H.new 37 (dR w j a g t)).new 37 [.slice none 0 0,.slice none 0 0])=H0 at*;have fail:∀d,af H0 d->¬ (w.has x/\w.has y/\x≠y)->ak (af H (d.wr (H.size+1) (dR w j a g t))/\((¬ (w.has x/\w.has y/\x≠y)/\∃p,Value.tuple [.agg (dR w j a g t).toArray,.bool false].toArray= .tuple [p,.bool false].toArray/\cm (d.wr (H.size+1) (dR w j a g t)) p w (jx A H (d.wr (H.size+1) (dR w j a g t))))\/
   ((w.has x/\w.has y/\x≠y)/\∃p,Value.tuple [.agg (dR w j a g t).toArray,.bool false].toArray= .tuple [p,.bool true].toArray/\cm (d.wr (H.size+1) (dR w j a g t)) p (w.join x y) (jx A H (d.wr (H.size+1) (dR w j a g t)))))):=by
  intro d q hn;have U:aj (fun z=>z=H.size+1) d (d.wr (H.size+1) (dR w j a g t)):=(aj.refl (fun z=>z=H.size+1) _).wr (fun _=>rfl) _;have f3:=af.then (N.trans q) U O;exact⟨f3,.inl ⟨hn,_,rfl,(D.fresh f3).mono fun b hb=>.inl hb⟩⟩
 refine(dq (D.fresh N) x).mono ?_;rintro _ d ⟨rfl,q⟩;have p0:=q.own o0 (fun h=>h);have p1:=q.own o1 (fun h=>h);refine vs ?_;refine ai.dec (fun X=>?_) (fun X=>?_)<;>refine v1 (ae p0) ?_
 ·refine(dq ((D.fresh N).fresh q) y).mono ?_;rintro _ u ⟨rfl,B⟩;have q0:=B.own p0 (fun h=>h);have T:=B.own p1 (fun h=>h);have z2:=B.size;have z1:=q.size;refine vs ?_;refine ai.dec (fun Q=>?_) (fun Q=>?_)<;>refine vs ?_
  ·refine ai.dec (fun Z8=>?_) (fun Z8=>?_)<;>refine v1 (ae q0) ?_
   ·simp(disch:=(first|exact aV|fail)) only[go_sem, ↓reduceIte,Zv,T,ci T];exact fail u (q.trans B) O
   ·have hyl:=(ak8.1 Q.2).1;have G:=(N.trans q).trans B;have n3:af u (u.new 4 []):=bm;refine Sl.append (Sl.bs (size:=1) (n:=0) (xs:=[]) rfl rfl) (h1.fresh (G.trans n3)) rfl (eY _) O ?_;intro hv H3 hb s3 U hhb;rw[ak7,alH]at s3;obtain⟨hb,rfl⟩:∃b,hb=some b:=by
     grind
    have Rn:u.size<=hb:=by
     rcases hhb with h| ⟨z,h,h5,_⟩
     ·grind
     ·grind [ag]
    have f23:af u H3:=af.then n3 U Z;have r0:=f23.own q0 (fun h=>h);have r1:=f23.own T (fun h=>h);have Z9:=s3;obtain⟨_,K,c3,rfl,t1,t2,t3,t4⟩:=Z9;refine vs ?_;refine⟨by have:=Q.1;omega,?_⟩;refine v1 t1 ?_;refine⟨O,?_⟩;rw[ala,show aQ K y.toNat (aK (Value.bool false))=K.set y.toNat (.bool false)from rfl];have s4:=s3.nG t1 y.toNat (.bool false);have W:aj (fun z=>z=hb) H3 (H3.wr hb (K.set y.toNat (.bool false))):=(aj.refl (fun z=>z=hb) _).wr (fun _=>rfl) _;have f24:af u (H3.wr hb (K.set y.toNat (.bool false))):=af.then f23 W O;have u0:=W.own r0 O;have u1:=W.own r1 O;have z4:=f24.size;have Nb:=Sl.lt s4;rw[show(w.hs.map Value.bool).set y.toNat (.bool false)=(w.hs.set y.toNat false).map Value.bool by simp_all]at s4;generalize H3.wr hb (K.set y.toNat (.bool false))=F at*;refine v1 (ae u0) ?_;have n5:af F (F.new 154 []):=bm;refine Sl.append (Sl.bs (size:=3) (n:=0) (xs:=[]) rfl rfl) (h2.fresh ((G.trans f24).trans n5)) rfl (xT _) O ?_;intro lv H5 lb s5 e5 Fe;rw[ak7,alH]at s5;obtain⟨lb,rfl⟩:∃b,lb=some b:=by
     grind
    have lb5:F.size<=lb:=by
     rcases Fe with h| ⟨z,h,h5,_⟩
     ·grind
     ·grind [ag]
    have f45:af F H5:=af.then n5 e5 Z;have w1:=f45.own u1 (fun h=>h);have s45:=s4.ext f45 (fun _ _ h=>h);have s5':=s5;obtain⟨_,l5,c5,rfl,_⟩:=s5';refine vs ?_;have fl:=dl w.cs;let f:Ce->Ce:=fun c=>if c.1=y then(x,c.2)else c
    refine ba.intro (fun m env e=>∃i:Nat,env=[(1,i64 x),(2,i64 y),(6,ptr (H.size+1)),(8,.slice (some ⟨hb,0,none⟩) w.hs.length c3),(9,.slice (some ⟨lb,0,none⟩) w.cs.length c5),(39,.slice (some ⟨lb,0,none⟩) w.cs.length c5),(40,i64 w.cs.length),(41,i64 i)]/\m=w.cs.length - i/\i<=w.cs.length/\
     Sl e 3 (.slice (some ⟨lb,0,none⟩) w.cs.length c5) w.cs.length (bO ((w.cs.take i).map f++w.cs.drop i)) (some lb)/\aj (fun z=>z=lb) H5 e) w.cs.length
     ⟨0,rfl,O,O,Z,aj.refl _ _⟩ ?_
    rintro m env e ⟨i,rfl,rfl,hi,P,C⟩;have z5:=f45.size;have z6:=C.size;refine vs ?_;refine ai.dec (fun mj=>?_) (fun mj=>?_)<;>refine vs ?_
    ·obtain⟨c0,M⟩:∃c0,w.cs[i]? =some c0:=⟨_,ak9 O⟩;have XD:((w.cs.take i).map f++w.cs.drop i)[i]? =some c0:=by
      rw[List.getElem?_append_right Z];simp only[alA,alC,alU];rw[show i+(i - min i w.cs.length)=i by omega];exact M
     obtain⟨bb,o,l,V,L,c2,c3',c4,c5',c6,c7,c8⟩:=bD.cell P.rd XD;injection V with V;injection V with e1 e2 _;subst e1;subst e2;have s6':=P;obtain⟨_,l6,c6',ev,v1,v2,v3,v4⟩:=s6';injection ev with _ _ ev;subst ev;have wT:l=l6:=by rw[ae v1]at L;injection L with L;exact L.symm
     subst wT;simp only[ak7]at c3' c4 c5' c6 c7 c8;refine⟨O,?_⟩;simp(disch:=(first|exact aV|fail)) only[go_sem, ↓reduceIte,Zv,L,Int.toNat_natCast];refine⟨O,?_⟩;simp(disch:=(first|exact aV|fail)) only[go_sem, ↓reduceIte,Zv,c7];have n7:af e ((e.new 154 [.int .i64 0,.int .i64 0,.int .u64 0]).wr e.size [i64 c0.1,i64 c0.2.1,u64 c0.2.2]):=bm.wr O _;have bx:((e.new 154 [.int .i64 0,.int .i64 0,.int .u64 0]).wr e.size [i64 c0.1,i64 c0.2.1,u64 c0.2.2]).own e.size=some [i64 c0.1,i64 c0.2.1,u64 c0.2.2]:=ah (am _ _ _);have s7:=P.ext n7 (fun _ _ h=>h);have v7:=n7.own v1 (fun h=>h);have e67:aj (fun z=>z=lb) H5 ((e.new 154 [.int .i64 0,.int .i64 0,.int .u64 0]).wr e.size [i64 c0.1,i64 c0.2.1,u64 c0.2.2]):=C.trans (n7.mono fun _ _ h=>h.elim);have abv:=aB v1;simp(disch:=(first|exact aV|fail)) only[go_sem, ↓reduceIte,Zv,ae bx];generalize (e.new 154 [.int .i64 0,.int .i64 0,.int .u64 0]).wr e.size [i64 c0.1,i64 c0.2.1,u64 c0.2.2]=H7 at*;refine ai.dec (fun E=>?_) (fun E=>?_)<;>simp(disch:=(first|exact aV|fail)) only[go_sem, ↓reduceIte,Zv,ae bx]
     ·refine⟨O,?_⟩;simp(disch:=(first|exact aV|fail)) only[go_sem, ↓reduceIte,Zv,v7,Int.toNat_natCast];refine⟨O,?_⟩;try rw[Int.toNat_natCast]
      have s8:=Sl.write s7 (off:=i*3) (vs:=[i64 x,i64 c0.2.1,u64 c0.2.2]) v7 Z;rw[show[i64 x,i64 c0.2.1,u64 c0.2.2]=[i64 (f c0).1,i64 (f c0).2.1,u64 (f c0).2.2] by grind,tx _ _ _ Z,xU f w.cs i c0 M]at s8;rw[show aQ l (i*3) (aK (Value.agg #[i64 x,i64 c0.2.1,u64 c0.2.2]))=aQ l (i*3) [i64 (f c0).1,i64 (f c0).2.1,u64 (f c0).2.2] by simp only[f,if_pos E];rfl];have e8:aj (fun z=>z=lb) H5 (H7.wr lb (aQ l (i*3) [i64 (f c0).1,i64 (f c0).2.1,u64 (f c0).2.2])):=e67.wr (fun _=>rfl) _;generalize H7.wr lb (aQ l (i*3) [i64 (f c0).1,i64 (f c0).2.1,u64 (f c0).2.2])=H8 at*;refine vs ?_;rw[wrap64 (n:=(i:Int)+1) O O];grind
     ·rw[wrap64 (n:=(i:Int)+1) O O];have XE:(w.cs.take (i+1)).map f++w.cs.drop (i+1)=(w.cs.take i).map f++w.cs.drop i:=by
       rw[<-xU f w.cs i c0 M];have:f c0=c0:=by simp only[f,if_neg E]
       rw[this];exact Jx _ _ _ XD
      grind
    ·have Kk:i=w.cs.length:=O;subst Kk;rw[alx,amF,alE]at P;have x1:=C.own w1 O;simp(disch:=(first|exact aV|fail)) only[go_sem, ↓reduceIte,Zv,x1,ci x1];have I:aj (fun z=>z=H.size+1) e (e.wr (H.size+1) (dR w (some ⟨hb,0,none⟩) c3 (some ⟨lb,0,none⟩) c5)):=(aj.refl (fun z=>z=H.size+1) _).wr (fun _=>rfl) _;have f6:=af.then (((G.trans f24).trans f45)) C O;have f9:=af.then f6 I O;have abv:=Sl.lt P;refine⟨f9,.inr ⟨⟨X,Q,Z8⟩,_,rfl,some ⟨hb,0,none⟩,c3,some ⟨lb,0,none⟩,c5,by simp[Nw.join],?_,?_,by simpa[Nw.join]using h3,by simpa[Nw.join]using h4,fun z hz=>.inr ?_,fun z hz=>.inr ?_⟩⟩
     ·have:=((s45.ext C Z).ext I Z).rd;simpa[Nw.join]using this
     ·have:=(P.ext I Z).rd;simpa[Nw.join]using this
     ·grind [bE]
     grind [bE]
  ·simp(disch:=(first|exact aV|fail)) only[go_sem, ↓reduceIte,Zv,ae q0,T,ci T];exact fail u (q.trans B) Z
 ·simp(disch:=(first|exact aV|fail)) only[go_sem, ↓reduceIte,Zv,ae p0,p1,ci p1];exact fail d q (fun a=>X a.1)
structure dt(H:Hp)(r:Nat)(S:Nat->Prop)(d:Int)(l:List Int)(pl:Int->Option Int):Prop where
 rep:∃sv fp mb,H.own r=some [i64 d,sv,.map (some mb)]/\Sl H 1 sv l.length (l.map i64) fp/\ke H mb (fun i=>(pl i).map i64)/\
  S r/\S mb/\r≠mb/\(∀b,fp=some b->S b/\b≠r/\b≠mb)
 slt:∀x,S x->x<H.size
theorem dt.ext{S T:Nat->Prop}{l:List Int}{pl:Int->Option Int}(h:dt H r S d l pl)(e:aj T H J)(z:∀x,S x->¬T x):dt J r S d l pl:=by
 obtain⟨⟨g,fp,m,a1,a2,a3,s1,w,c,v⟩,a⟩:=h;exact⟨⟨g,fp,m,e.own a1 (z _ s1),a2.ext e Z,a3.ext e (z _ w),s1,w,c,v⟩,fun x n=>alp (a x n) e.size⟩
theorem uQ(d:Int)(H:Hp):aD 148 [i64 d] H fun v J=>ak (
  af H J/\((¬cV d/\v= .tuple [.pointer none,i64 22].toArray)\/
   cV d/\∃r S,v= .tuple [ptr r,i64 0].toArray/\dt J r S d [] (fun _=>none)/\∀x,S x->H.size<=x)):=by
 refine aL KX ?_;refine vs ?_;refine(lF d H).mono ?_;rintro _ _ ⟨rfl,rfl⟩;refine vs ?_;refine ai.dec (fun h=>?_) (fun h=>?_)<;>refine vs ?_
 ·have w:af H (H.gD.new 321 [i64 d,.slice none 0 0,.map (some H.size)]):=((aj.refl _ _).gD).new _ _;refine⟨w,.inr ⟨h,H.size+1,fun x=>H.size<=x/\x<H.size+1+1,rfl,⟨⟨_,none,H.size,az (by simp only[jt]),Sl.nil _ _,?_,?_,?_,?_,?_⟩,?_⟩,fun x z=>z.1⟩⟩
  ·exact(ke.new H).ext ((aj.refl (fun _=>False) _).new _ _) (fun h=>h)
  ·omega
  ·omega
  ·omega
  ·grind
  ·intro x z;simp only[ag,jt];omega
 ·exact⟨aj.refl _ _,.inl ⟨h,rfl⟩⟩
theorem uR{S:Nat->Prop}{l:List Int}{pl:Int->Option Int}(h:dt H r S d l pl):
  aD 372 [ptr r] H fun v J=>ak (v=i64 l.length/\H=J):=by
 obtain⟨⟨m,fp,z,a1,a2,a3,s1,w,a,n⟩,x⟩:=h;refine aL C4 ?_;cases fp with
 |none=>
  obtain⟨_,e,rfl⟩:=a2;refine v1 (ae a1) ?_;exact⟨by rw[e];rfl,rfl⟩
 |some b=>
  obtain⟨_,l',c,rfl,a4⟩:=a2;refine v1 (ae a1) ?_;exact⟨rfl,rfl⟩
theorem Hx{S:Nat->Prop}{l:List Int}{pl:Int->Option Int}(h:dt H r S d l pl)(i:Int):
  aD 374 [ptr r,i64 i] H fun v J=>ak (v=K6 (if 0<=i then l[i.toNat]? else none)/\H=J):=by
 obtain⟨⟨u,fp,p,a1,a2,a3,s1,q,o,f⟩,j⟩:=h;refine aL E9 ?_;refine vs ?_;refine ai.dec (fun h=>?_) (fun h=>?_)<;>refine v1 (ae a1) ?_
 ·exact⟨by rw[if_neg O];rfl,rfl⟩
 ·cases fp with
  |none=>
   obtain⟨_,e,rfl⟩:=a2;have m:l=[]:=Z;subst m;refine vs ?_;refine ai.bK Z ?_;refine vs ?_;exact⟨by rw[if_pos O];rfl,rfl⟩
  |some b=>
   obtain⟨_,l',c,rfl,a4,y,t,a⟩:=a2;refine vs ?_;refine ai.dec (fun n=>?_) (fun n=>?_)<;>refine v1 (ae a1) ?_
   ·exact⟨by rw[if_pos O,List.getElem?_eq_none O];rfl,rfl⟩
   ·obtain⟨x,w⟩:∃x,l[i.toNat]? =some x:=⟨_,ak9 O⟩;have g:l'[i.toNat]? =some (i64 x):=by
     have z:(l.map i64)[i.toNat]? =some (i64 x):=by simp[w]
     rw[<-a,al2 O]at z;exact z
    refine⟨O,?_⟩;refine v3 (ae a4) ala g ?_;exact⟨by rw[if_pos O,w];rfl,rfl⟩
theorem jG{S:Nat->Prop}{l:List Int}{pl:Int->Option Int}(h:dt H r S d l pl)(i x:Int)(hi:0<=i/\i<l.length):
  aD 384 [ptr r,i64 i,i64 x] H fun v J=>ak (v= .tuple [].toArray/\dt J r S d (l.set i.toNat x) (dB pl x i)/\aj S H J):=by
 obtain⟨⟨F,fp,B,a1,a2,a3,s1,P,g,y⟩,q⟩:=h;refine aL C6 ?_;cases fp with
 |none=>obtain⟨_,e,_⟩:=a2;omega
 |some b=>
  have t:=a2;obtain⟨_,l',c,rfl,a4,A,C,K⟩:=a2;refine v1 (ae a1) ?_;refine⟨O,?_⟩;refine v2 a4 ala ?_;refine⟨O,?_⟩;obtain⟨T,o,f⟩:=y b rfl;have w:aj (fun z=>z=b) H (H.wr b (l'.set i.toNat (i64 x))):=(aj.refl (fun z=>z=b) _).wr (fun _=>rfl) _;have n:=w.own a1 (Ne.symm o);have j:=t.nG a4 i.toNat (i64 x);have p:=a3.ext w (Ne.symm f);refine v1 (ae n) ?_;refine p.TH fun L m a=>?_;rw[Dh]at m;refine vs ?_;refine⟨rfl,⟨⟨_,some b,B,by exact a.own n g,?_,m,s1,P,g,y⟩,fun z u=>alp (q z u) (alw w.size a.size)⟩,(w.mono Z).trans (a.mono Z)⟩;rw[alb,alD];exact j.ext a Z
structure Lb(ov:Value)(I:Hp->Nat->Prop)(T:Nat->Prop)(lt:Int->Int->Bool)(D:Int->Prop:=fun _=>True):Prop where
 call:∀H n a b,D a->D b->I H n->fL Tryz.prog ov "Ahead" [i64 a,i64 b] H fun v J=>v= .bool (lt a b)/\I J (n+1)/\aj T H J
 nil:MX Tryz.prog (.func (.method "Ahead") #[ov] #[])
 aW:∀H J n U,I H n->aj U H J->(∀x,T x->¬U x)->I J n
 tlt:∀H n,I H n->∀x,T x->x<H.size
structure UpR where
 l:List Int
 pl:Int->Option Int
 at_:Int
 asked:Nat
def fD(lt:Int->Int->Bool)(d x:Int):Nat->List Int->(Int->Option Int)->Int->UpR
 |0,l,pl,i=>⟨l.set i.toNat x,dB pl x i,i,0⟩
 |m+1,l,pl,i=>match bu d i with
  |none=>⟨l.set i.toNat x,dB pl x i,i,0⟩
  |some p=>
   if lt x (l.getD p.toNat 0)=true then
    let r:=fD lt d x m (l.set i.toNat (l.getD p.toNat 0)) (dB pl (l.getD p.toNat 0) i) p
    ⟨r.l,r.pl,r.at_,r.asked+1⟩
   else⟨l.set i.toNat x,dB pl x i,i,1⟩
theorem O1(lt:Int->Int->Bool)(d x:Int):∀ (m z:Nat) (l:List Int) (pl:Int->Option Int) (i:Int),i.toNat<=m->i.toNat<=z->fD lt d x m l pl i=fD lt d x z l pl i:=by
 intro m;induction m with
 |zero=>
  intro z l pl i h _;have a:bu d i=none:=by unfold bu;grind
  cases z<;>simp[fD,a]
 |succ m v=>
  intro z l pl i h n;cases w:bu d i with
  |none=>cases z<;>simp[fD,w]
  |some p=>
   have c:=eX w;cases z with
   |zero=>omega
   |succ z=>grind [fD]
theorem Jy{l:List Int}{y z:Int}(h:z∈l.set i y):z=y\/z∈l:=Z
theorem Ro(lt:Int->Int->Bool)(d x:Int):∀ (m:Nat) (l:List Int) (pl:Int->Option Int) (i:Int),0<=i->i<l.length->∀z∈(fD lt d x m l pl i).l,z=x\/z∈l:=by
 intro m;induction m with
 |zero=>intro l pl i _ _ z h;exact Jy h
 |succ m v=>
  intro l pl i a n z h;cases w:bu d i with
  |none=>simp only[fD,w]at h;grind
  |some p=>
   have c:=eX w;simp only[fD,w]at h;grind
theorem pB{G:Value}{I:Hp->Nat->Prop}{T:Nat->Prop}{lt:Int->Int->Bool}{D:Int->Prop}(K:Lb G I T lt D){S:Nat->Prop}{l:List Int}{pl:Int->Option Int}
  (h:dt H r S d l pl)(U:∀x,S x->¬T x){n:Nat}(hI:I H n)(i x:Int)(hi:0<=i/\i<l.length)(hl:l.length<=1000000)(hx:D x:=by trivial)(hD:∀z∈l,D z:=by intros;trivial):
  aD 376 [ptr r,G,i64 i,i64 x] H fun v J=>ak (
   let R:=fD lt d x i.toNat l pl i
   v=i64 R.at_/\dt J r S d R.l R.pl/\I J (n+R.asked)/\aj (fun z=>S z\/T z) H J):=by
 refine aL Fa ?_;refine vs ?_;refine ba.intro (fun m env g=>∃ (l1:List Int) (a:Int->Option Int) (w:Int) (k:Nat),env=[(0,ptr r),(1,G),(2,i64 w),(3,i64 x)]/\(∀z∈l1,D z)/\m=w.toNat/\0<=w/\w<l1.length/\l1.length=l.length/\
   dt g r S d l1 a/\I g (n+k)/\aj (fun z=>S z\/T z) H g/\
   (fD lt d x i.toNat l pl i).l=(fD lt d x w.toNat l1 a w).l/\(fD lt d x i.toNat l pl i).pl=(fD lt d x w.toNat l1 a w).pl/\(fD lt d x i.toNat l pl i).at_=(fD lt d x w.toNat l1 a w).at_/\
   (fD lt d x i.toNat l pl i).asked=k+(fD lt d x w.toNat l1 a w).asked) i.toNat ⟨l,pl,i,0,rfl,hD,rfl,hi.1,hi.2,rfl,h,hI,aj.refl _ _,rfl,rfl,rfl,O⟩ ?_
 rintro m env g ⟨l1,a,w,k,rfl,hD1,rfl,i0,il,ll,j,hI1,M,u1,u2,u3,u4⟩;obtain⟨⟨sv,fp,mb,a1,a2,a3,s1,s2,s3,s4⟩,h2⟩:=id j;have key:∀o:Option Int,K6 o= .tuple [i64 (o.getD 0),.bool o.isSome].toArray:=by intro o;cases o<;>rfl
 refine v1 (ae a1) ?_;refine(zC d w O g).mono ?_;rintro _ _ ⟨rfl,rfl⟩;rw[key];have stop:∀ (t:Hp) (V:Nat),dt t r S d l1 a->I t (n+k+V)->aj (fun z=>S z\/T z) H t->fD lt d x w.toNat l1 a w=⟨l1.set w.toNat x,dB a x w,w,V⟩->
   aD 384 [ptr r,i64 w,i64 x] t fun _ J=>(i64 w=i64 (fD lt d x i.toNat l pl i).at_/\dt J r S d (fD lt d x i.toNat l pl i).l (fD lt d x i.toNat l pl i).pl/\
    I J (n+(fD lt d x i.toNat l pl i).asked)/\aj (fun z=>S z\/T z) H J):=by
  intro t V f A u B;refine(jG f w x ⟨i0,il⟩).mono ?_;rintro _ N ⟨_,Q,C⟩;rw[u1,u2,u3,u4,B];exact⟨rfl,Q,by cases K;grind,u.trans (C.mono Z)⟩
 cases F:bu d w with
 |none=>
  simp(disch:=(first|exact aV|fail)) only[go_sem, ↓reduceIte,Zv,Option.isSome_none];refine(stop g 0 j hI1 M ?_).mono ?_
  ·cases hm:w.toNat<;>simp[fD,F,hm]
  ·rintro _ N ⟨f,A,u,B⟩;refine vs ?_;exact⟨f,A,u,B⟩
 |some p=>
  have hpb:=eX F;obtain⟨b,rfl⟩:∃b,fp=some b:=by
   cases fp with
   |none=>obtain⟨_,e,_⟩:=a2;omega
   |some b=>grind
  obtain⟨_,l',c,rfl,a4,a5,a6,a7⟩:=a2;obtain⟨y,W⟩:∃y,l1[p.toNat]? =some y:=Z;have VS:l'[p.toNat]? =some (i64 y):=by
   have j:(l1.map i64)[p.toNat]? =some (i64 y):=by simp[W]
   rw[<-a7,al2 O]at j;exact j
  have hy3:l1.getD p.toNat 0=y:=by simp[List.getD,W]
  simp(disch:=(first|exact aV|fail)) only[go_sem, ↓reduceIte,Zv,Option.isSome_some,Option.getD_some,ae a1];refine⟨O,?_⟩;refine v3 (ae a4) ala VS ?_;refine⟨K.nil,?_⟩;refine vs ?_;refine fL.mono (K.call g (n+k) x y hx Z hI1) ?_;rintro _ t ⟨rfl,V7,L⟩;have X:=j.ext L U;have E:=M.trans (L.mono Z);have b1:=L.own a1 (U _ s1);have b4:=L.own a4 (U _ (s4 b rfl).1);refine vs ?_;cases iD:lt x y with
  |false=>
   refine vs ?_;refine(stop t 1 X V7 E ?_).mono ?_
   ·obtain⟨q,P⟩:∃q,w.toNat=q+1:=⟨w.toNat - 1,O⟩;rw[P];simp[fD,F,W,iD,P]
   ·rintro _ N ⟨f,A,u,B⟩;refine vs ?_;exact⟨f,A,u,B⟩
  |true=>
   refine v1 (ae b1) ?_;refine⟨O,?_⟩;refine v3 (ae b4) ala VS ?_;refine(jG X w y ⟨i0,il⟩).mono ?_;rintro _ N ⟨_,Q,C⟩;refine vs ?_;obtain⟨q,P⟩:∃q,w.toNat=q+1:=⟨w.toNat - 1,O⟩;have TN:fD lt d x w.toNat l1 a w=⟨(fD lt d x p.toNat (l1.set w.toNat y) (dB a y w) p).l,(fD lt d x p.toNat (l1.set w.toNat y) (dB a y w) p).pl,(fD lt d x p.toNat (l1.set w.toNat y) (dB a y w) p).at_,
     (fD lt d x p.toNat (l1.set w.toNat y) (dB a y w) p).asked+1⟩:=by
    rw[O1 lt d x p.toNat q _ _ p (alj _) O,P];simp only[fD,F,hy3,iD,if_true,P]
   refine⟨p.toNat,O,l1.set w.toNat y,dB a y w,p,k+1,rfl,Z,rfl,O,Z,Z,Q,
    K.aW _ _ _ _ V7 C Z,E.trans (C.mono Z),Z,Z,Z,Z⟩
theorem uS{P:Value}{I:Hp->Nat->Prop}{T:Nat->Prop}{lt:Int->Int->Bool}{D:Int->Prop}(g:Lb P I T lt D){S:Nat->Prop}{l:List Int}{pl:Int->Option Int}
  (h:dt H r S d l pl)(hd:∀x,S x->¬T x){n:Nat}(o:I H n)(x:Int)(hl:l.length<1000000)(N:D x:=by trivial)(hD:∀z∈l,D z:=by intros;trivial):
  aD 369 [ptr r,P,i64 x] H fun v J=>ak (
   let R:=fD lt d x l.length (l++[x]) pl l.length
   (pl x≠none/\v= .bool false/\H=J)\/
   (pl x=none/\v= .bool true/\∃t,dt J r t d R.l R.pl/\I J (n+R.asked)/\aj (fun z=>S z\/T z) H J/\∀z,t z->S z\/H.size<=z)):=by
 obtain⟨⟨sv,fp,mb,a1,a2,a3,s1,s2,L,s4⟩,K⟩:=id h;have key:gO true (Value.int .i64 0) ((pl x).map i64)= .tuple [i64 ((pl x).getD 0),.bool (pl x).isSome].toArray:=by cases pl x<;>rfl
 refine aL C3 ?_;refine v3 (ae a1) a3.look key ?_;cases hx:pl x with
 |some p=>
  simp(disch:=(first|exact aV|fail)) only[go_sem, ↓reduceIte,Zv,Option.isSome_some];exact .inl ⟨by simp,rfl,rfl⟩
 |none=>
  simp(disch:=(first|exact aV|fail)) only[go_sem, ↓reduceIte,Zv,Option.isSome_none,ae a1];have hb:=aB a1;have w:aj (fun _=>False) H (H.new 3 [i64 x]):=(aj.refl _ H).new 3 [i64 x];refine Sl.append (a2.ext w (fun _ _ h=>h)) (Sl.bs (size:=1) (xs:=[i64 x]) rfl rfl).rd rfl (AT [x]) O ?_;intro v' H2 q y c W;have a:=c.own (w.own a1 (fun h=>h)) Z;have G:=y;obtain⟨f,rfl⟩:∃f,q=some f:=by
   cases q with
   |none=>obtain⟨_,e,_⟩:=y;omega
   |some f=>grind
  obtain⟨_,l',c',rfl,C,g2,g3,g4⟩:=G;have u:(fp=some f)\/H.size<=f:=by
   rcases W with h| ⟨z,h,F,h6⟩
   ·grind
   ·injection h with h;subst h;rw[ag]at F;omega
  have hfr:f≠r/\f≠mb:=by
   rcases u with h|h
   ·grind
   ·grind
  have A:aj (fun z=>S z) H H2:=(w.mono fun _ _ h=>h.elim).lE c Z;have m:aj (fun z=>S z) H (H2.wr r [i64 d,.slice (some ⟨f,0,none⟩) (l.length+1) c',.map (some mb)]):=A.wr (fun _=>s1) _;have V:dt (H2.wr r [i64 d,.slice (some ⟨f,0,none⟩) (l.length+1) c',.map (some mb)]) r (fun z=>S z\/z=f) d (l++[x]) pl:=by
   have j:aj (fun z=>z=r) H2 (H2.wr r [i64 d,.slice (some ⟨f,0,none⟩) (l.length+1) c',.map (some mb)]):=(aj.refl (fun z=>z=r) _).wr (fun _=>rfl) _;refine⟨⟨.slice (some ⟨f,0,none⟩) (l.length+1) c',some f,mb,?_,?_,((a3.ext w (fun h=>h)).ext c Z).ext j (Ne.symm L),.inl s1,.inl s2,L,Z⟩,?_⟩
   ·exact ah a
   ·rw[alm,alG];exact y.ext j Z
   ·rintro z (B|rfl)
    ·exact alp (K z B) m.size
    ·rw[bE];exact aB C
  have U:∀z,(S z\/z=f)->¬T z:=by
   rintro z (B|rfl) M
   ·grind
   ·rcases u with h|h
    ·grind
    ·have:=g.tlt H n o _ M;omega
  have Q:=g.aW _ _ _ _ o m Z;simp(disch:=(first|exact aV|fail)) only[go_sem, ↓reduceIte,Zv,a,ci a];rw[wrap64 O O,show((l.length+1:Nat):Int) - 1=(l.length:Int) by omega];refine(pB g V U Q l.length x Z Z N Z).mono ?_;rintro _ H3 ⟨_,E,X,r3⟩;refine vs ?_;refine .inr ⟨rfl,rfl,_,E,X,?_,?_⟩
  ·refine(m.mono Z).lE r3 ?_;grind
  grind
theorem Bz{w:Value}{I:Hp->Nat->Prop}{T:Nat->Prop}{lt:Int->Int->Bool}{D:Int->Prop}(y:Lb w I T lt D){S:Nat->Prop}{l:List Int}{pl:Int->Option Int}
  (h:dt H r S d l pl)(e:∀x,S x->¬T x){n:Nat}(c:I H n)(x:Int)(g:l.length<=1000000)(t:∀i,pl x=some i->0<=i/\i<l.length)(m:D x:=by trivial)(a:∀z∈l,D z:=by intros;trivial):
  aD 362 [ptr r,w,i64 x] H fun v J=>ak (
   (pl x=none/\v= .bool false/\H=J)\/
   (∃i,pl x=some i/\v= .bool true/\dt J r S d (fD lt d x i.toNat l pl i).l (fD lt d x i.toNat l pl i).pl/\I J (n+(fD lt d x i.toNat l pl i).asked)/\aj (fun z=>S z\/T z) H J)):=by
 obtain⟨⟨C,fp,B,a1,a2,a3,s1,P,L,A⟩,u⟩:=id h;have key:gO true (Value.int .i64 0) ((pl x).map i64)= .tuple [i64 ((pl x).getD 0),.bool (pl x).isSome].toArray:=by cases pl x<;>rfl
 refine aL zp ?_;refine v3 (ae a1) a3.look key ?_;cases j:pl x with
 |none=>
  simp(disch:=(first|exact aV|fail)) only[go_sem, ↓reduceIte,Zv,Option.isSome_none];exact .inl ⟨rfl,rfl,rfl⟩
 |some i=>
  simp(disch:=(first|exact aV|fail)) only[go_sem, ↓reduceIte,Zv,Option.isSome_some,Option.getD_some];refine(pB y h e c i x (t i j) g m a).mono ?_;rintro _ f ⟨_,p,q,o⟩;refine vs ?_;exact .inr ⟨i,rfl,rfl,p,q,o⟩
theorem mE{xs:List Int}(h:bD H 1 v n (xs.map i64))(A:n<=1000000):
  aD 307 [v] H fun r J=>ak (af H J/\∃fp,Sl J 1 r n (xs.map i64) fp/\∀b,fp=some b->H.size<=b/\b<J.size):=by
 refine aL oR ?_;have f:∃a c,v= .slice a n c:=by
  obtain⟨_,⟨rfl,a,c,rfl⟩| ⟨b,o,c,l,rfl,_⟩⟩:=h
  ·grind
  ·grind
 obtain⟨a,c,rfl⟩:=f;refine vs ?_;cases a with
 |none=>
  have d:n=0:=by
   obtain⟨_,⟨rfl,_⟩| ⟨b,o,c,l,e,_⟩⟩:=h
   ·rfl
   ·cases e
  have u:xs.map i64=[]:=alI.1 (by have:=h.1;omega);simp(disch:=(first|exact aV|fail)) only[go_sem, ↓reduceIte,Zv,Option.isNone_none];rw[u,d];exact⟨aj.refl _ _,none,Sl.nil H 1,Z⟩
 |some P=>
  simp(disch:=(first|exact aV|fail)) only[go_sem, ↓reduceIte,Zv,Option.isNone_some];have w:aj (fun _=>False) H (H.new 3 []):=(aj.refl _ H).new 3 [];refine Sl.append (Sl.bs (size:=1) (n:=0) (xs:=[]) rfl rfl) (h.fresh w) rfl (tw xs) O ?_;intro C B g p m j;refine vs ?_;refine⟨aj.lE w m Z,g,by simpa[Cd]using p,?_⟩;intro z x;have q:=m.size;rw[ag]at q;rcases j with h| ⟨y,h,t,L⟩
  ·grind
  ·rw[h]at x;injection x with x;subst x;rw[ag]at t;omega
theorem Ff{S:Nat->Prop}{l:List Int}{pl:Int->Option Int}(h:dt H r S d l pl)(w:l.length<=1000000):
  aD 373 [ptr r] H fun v J=>ak (af H J/\∃fp,Sl J 1 v l.length (l.map i64) fp/\∀b,fp=some b->H.size<=b/\b<J.size):=by
 obtain⟨⟨y,fp,m,a1,a2,a3,s1,c,e,g⟩,n⟩:=h;refine aL C5 ?_;refine v1 (ae a1) ?_;refine(mE a2.rd w).mono ?_;rintro _ a ⟨x,z⟩;refine vs ?_;exact⟨x,z⟩
def bX(lt:Int->Int->Bool)(l:List Int)(d i:Int):Nat->Int->Int×Nat
 |0,x=>(x,0)
 |m+1,x=>
  if d*i+(d - m)<l.length then
   let r:=bX lt l d i m (if lt (l.getD (d*i+(d - m)).toNat 0) (l.getD x.toNat 0)=true then d*i+(d - m)else x)
   (r.1,r.2+1)
  else bX lt l d i m x
theorem dt.read{S:Nat->Prop}{l:List Int}{pl:Int->Option Int}(h:dt H r S d l pl)(y:0<l.length):
  ∃f l' c z,H.own r=some [i64 d,.slice (some ⟨f,0,none⟩) l.length c,.map (some z)]/\H.own f=some l'/\∀ (i:Nat) (x:Int),l[i]? =some x->l'[i]? =some (i64 x):=by
 obtain⟨⟨q,fp,z,a1,a2,a3,s1,t,j,p⟩,g⟩:=h;cases fp with
 |none=>obtain⟨_,e,_⟩:=a2;omega
 |some f=>
  obtain⟨_,l',c,rfl,a4,a,n,m⟩:=a2;refine⟨f,l',c,z,a1,a4,?_⟩;intro i x w;have hi:=(ak8.1 w).1;have v:(l.map i64)[i]? =some (i64 x):=by simp[w]
  grind
theorem BA{o:Value}{I:Hp->Nat->Prop}{T:Nat->Prop}{lt:Int->Int->Bool}{D:Int->Prop}(C:Lb o I T lt D){S:Nat->Prop}{l:List Int}{pl:Int->Option Int}
  (h:dt H r S d l pl)(A:∀x,S x->¬T x){n:Nat}(W:I H n)(p:cV d)(i:Int)(hi:0<=i/\i<l.length)(hl:l.length<=1000000)(hD:∀z∈l,D z:=by intros;trivial):
  aD 385 [ptr r,o,i64 i] H fun v J=>ak (
   ((l.length:Int)<=d*i+1/\v= .tuple [i64 0,.bool false].toArray/\H=J)\/
   (d*i+1<l.length/\v= .tuple [i64 (bX lt l d i (d - 1).toNat (d*i+1)).1,.bool true].toArray/\dt J r S d l pl/\I J (n+(bX lt l d i (d - 1).toNat (d*i+1)).2)/\aj T H J)):=by
 obtain⟨f,l',c,mb,a1,a2,a3⟩:=h.read O;have hf1:=p.1;have hf2:=p.2;have L:∀k,1<=k->k<=d->pk d i k=some (d*i+k):=by grind [pk,wu]
 have hb:=xQ (i:=i) p O O (by omega:(1:Int)<=1) O;refine aL zr ?_;refine v1 (ae a1) ?_;refine(qh d i 1 H).mono ?_;rintro _ _ ⟨rfl,rfl⟩;rw[L 1 O O];simp(disch:=(first|exact aV|fail)) only[go_sem, ↓reduceIte,Zv,K6,ae a1];refine ai.dec (fun U=>?_) (fun U=>?_)<;>refine vs ?_
 ·exact .inl ⟨O,rfl,rfl⟩
 ·refine ba.intro (fun m env w=>∃ (BB:Int) (k:Nat),env=[(0,ptr r),(1,o),(2,i64 i),(8,i64 BB),(10,i64 (d+1 - m))]/\(m:Int)<=d - 1/\0<=BB/\BB<l.length/\
   dt w r S d l pl/\I w (n+k)/\aj T H w/\
   (bX lt l d i (d - 1).toNat (d*i+1)).1=(bX lt l d i m BB).1/\(bX lt l d i (d - 1).toNat (d*i+1)).2=k+(bX lt l d i m BB).2) (d - 1).toNat
   ⟨d*i+1,0,Z,O,O,O,h,W,aj.refl _ _,rfl,O⟩ ?_
  rintro m env w ⟨BB,k,rfl,hm,b0,b1,g,N,t,u1,u2⟩;obtain⟨f1,l1,c1,mb1,a,u,B⟩:=g.read O;refine v1 (ae a) ?_;refine ai.dec (fun G=>?_) (fun G=>?_)<;>refine vs ?_
  ·obtain⟨q,rfl⟩:∃q,m=q+1:=⟨m - 1,O⟩;rw[show d+1 - ((q+1:Nat):Int)=d - q by omega]at*;refine v1 (ae a) ?_;refine(qh d i (d - q) w).mono ?_;rintro _ _ ⟨rfl,rfl⟩;have V8:=O;rw[L (d - q) O O];simp(disch:=(first|exact aV|fail)) only[go_sem, ↓reduceIte,Zv,K6,ae a];refine ai.dec (fun j=>?_) (fun j=>?_)<;>refine vs ?_
   ·obtain⟨x,K⟩:∃x,l[(d*i+(d - q)).toNat]? =some x:=Z;obtain⟨y,F⟩:∃y,l[BB.toNat]? =some y:=Z;have E:=B _ _ K;have X:=B _ _ F;refine v1 (ae a) ?_;refine⟨O,?_⟩;refine v4 (ae a) (ae u) ala E ?_;refine⟨O,?_⟩;refine v3 (ae u) ala X ?_;refine⟨C.nil,?_⟩;refine vs ?_;refine fL.mono (C.call w (n+k) x y Z Z N) ?_;rintro _ H2 ⟨rfl,P,e⟩;have V:∀z,z=(if lt x y=true then d*i+(d - q)else BB)->bX lt l d i (q+1) BB=((bX lt l d i q z).1,(bX lt l d i q z).2+1):=by
     intro z hz;rw[bX,if_pos j];simp only[List.getD,K,F,Option.getD_some,hz]
    refine vs ?_;refine ai.intro (fun M=>?_) (fun M=>?_)<;>refine vs ?_
    ·rw[wrap64 O O];exact⟨q,O,d*i+(d - q),k+1,Z,O,O,O,g.ext e A,P,t.trans e,
      by grind,Z⟩
    ·rw[wrap64 O O];exact⟨q,O,BB,k+1,Z,O,O,O,g.ext e A,P,t.trans e,
      by grind,Z⟩
   ·rw[wrap64 O O];have V:bX lt l d i (q+1) BB=bX lt l d i q BB:=by rw[bX,if_neg j]
    grind
  ·have Q:m=0:=O;subst Q;refine .inr ⟨O,?_,g,?_,t⟩
   ·rw[u1];rfl
   ·rw[u2];exact N
def cQ(lt:Int->Int->Bool)(d x:Int):Nat->List Int->(Int->Option Int)->Int->List Int×(Int->Option Int)×Nat
 |0,l,pl,i=>(l.set i.toNat x,dB pl x i,0)
 |m+1,l,pl,i=>
  if(l.length:Int)<=d*i+1 then(l.set i.toNat x,dB pl x i,0)
  else
   let b:=bX lt l d i (d - 1).toNat (d*i+1)
   let y:=l.getD b.1.toNat 0
   if lt y x=true then
    let r:=cQ lt d x m (l.set i.toNat y) (dB pl y i) b.1
    (r.1,r.2.1,r.2.2+b.2+1)
   else(l.set i.toNat x,dB pl x i,b.2+1)
theorem jU(lt:Int->Int->Bool)(l:List Int)(d i:Int)(h:0<=d*i):∀ (m:Nat) (x:Int),(m:Int)<=d - 1->d*i+1<=x->x<l.length->d*i+1<=(bX lt l d i m x).1/\(bX lt l d i m x).1<l.length:=by
 intro m;induction m with
 |zero=>grind [bX]
 |succ m z=>
  grind [bX]
theorem lL{i b:Int}(x:cV d)(hi:0<=i)(z:d*i+1<=b):i<b:=by
 have h:=x.1;have:1*i<=d*i:=ame O hi;omega
theorem Lc(lt:Int->Int->Bool)(d x:Int)(w:cV d):∀ (m z:Nat) (l:List Int) (pl:Int->Option Int) (i:Int),0<=i->l.length<=i.toNat+m->l.length<=i.toNat+z->
  cQ lt d x m l pl i=cQ lt d x z l pl i:=by
 have r:∀ (m:Nat) (l:List Int) (pl:Int->Option Int) (i:Int),0<=i->l.length<=i.toNat->cQ lt d x m l pl i=(l.set i.toNat x,dB pl x i,0):=by
  intro m l pl i hi y;cases m with
  |zero=>rfl
  |succ m=>
   have a:=w.1;have:1*i<=d*i:=ame O hi;rw[cQ,if_pos O]
 intro m;induction m with
 |zero=>grind
 |succ m v=>
  intro z l pl i hi h e;cases z with
  |zero=>grind
  |succ z=>
   rw[cQ,cQ];split
   ·rfl
   ·rename_i g;have a:=w.1;have c:0<=d*i:=aml O hi;have n:=jU lt l d i c (d - 1).toNat (d*i+1) O O O;have t:=lL w hi n.1;simp only;split
    ·rw[v z _ _ _ O (by rw[alb];omega) (by rw[alb];omega)]
    ·rfl
theorem Dn{Q:Value}{I:Hp->Nat->Prop}{T:Nat->Prop}{lt:Int->Int->Bool}{D:Int->Prop}(o:Lb Q I T lt D){S:Nat->Prop}{l:List Int}{pl:Int->Option Int}
  (h:dt H r S d l pl)(X:∀x,S x->¬T x){n:Nat}(hI:I H n)(P:cV d)(i x:Int)(hi:0<=i/\i<l.length)(hl:l.length<=1000000)(hx:D x:=by trivial)(hD:∀z∈l,D z:=by intros;trivial):
  aD 377 [ptr r,Q,i64 i,i64 x] H fun v J=>ak (
   let R:=cQ lt d x l.length l pl i
   dt J r S d R.1 R.2.1/\I J (n+R.2.2)/\aj (fun z=>S z\/T z) H J):=by
 refine aL Bf ?_;refine vs ?_;refine ba.intro (fun m env j=>∃ (l1:List Int) (w:Int->Option Int) (i1:Int) (k:Nat),env=[(0,ptr r),(1,Q),(2,i64 i1),(3,i64 x)]/\(∀z∈l1,D z)/\m=l1.length - i1.toNat/\0<=i1/\i1<l1.length/\l1.length=l.length/\
   dt j r S d l1 w/\I j (n+k)/\aj (fun z=>S z\/T z) H j/\
   (cQ lt d x l.length l pl i).1=(cQ lt d x l1.length l1 w i1).1/\(cQ lt d x l.length l pl i).2.1=(cQ lt d x l1.length l1 w i1).2.1/\
   (cQ lt d x l.length l pl i).2.2=k+(cQ lt d x l1.length l1 w i1).2.2) (l.length - i.toNat) ⟨l,pl,i,0,rfl,hD,rfl,hi.1,hi.2,rfl,h,hI,aj.refl _ _,rfl,rfl,O⟩ ?_
 rintro m env j ⟨l1,w,i1,k,rfl,B,rfl,i0,N,ll,G,E,U,u1,u2,u3⟩;have V9:=P.1;have hdi:0<=d*i1:=aml O i0;have stop:∀ (a:Hp) (u:Nat),dt a r S d l1 w->I a (n+k+u)->aj (fun z=>S z\/T z) H a->cQ lt d x l1.length l1 w i1=(l1.set i1.toNat x,dB w x i1,u)->
   aD 384 [ptr r,i64 i1,i64 x] a fun _ J=>(dt J r S d (cQ lt d x l.length l pl i).1 (cQ lt d x l.length l pl i).2.1/\
    I J (n+(cQ lt d x l.length l pl i).2.2)/\aj (fun z=>S z\/T z) H J):=by
  intro a u c g t g4;refine(jG c i1 x ⟨i0,N⟩).mono ?_;rintro _ L ⟨_,A,p⟩;rw[u1,u2,u3,g4];exact⟨A,by rw[<-Nat.add_assoc];exact o.aW _ _ _ _ g p Z,t.trans (p.mono Z)⟩
 obtain⟨q,F⟩:∃q,l1.length=q+1:=⟨l1.length - 1,O⟩;refine vs ?_;refine(BA o G X E P i1 ⟨i0,N⟩ O B).mono ?_;rintro _ a (⟨K,rfl,rfl⟩| ⟨K,rfl,M,V7,e2⟩)
 ·refine vs ?_;refine(stop j 0 G E U ?_).mono ?_
  ·rw[F,cQ,if_pos K]
  ·rintro _ L ⟨c,g,t⟩;refine vs ?_;exact⟨c,g,t⟩
 ·have hb:=jU lt l1 d i1 hdi (d - 1).toNat (d*i1+1) O O K;have iD:=lL P i0 hb.1;obtain⟨f1,l',c1,mb1,c,g,t⟩:=M.read O;obtain⟨y,f⟩:∃y,l1[(bX lt l1 d i1 (d - 1).toNat (d*i1+1)).1.toNat]? =some y:=⟨_,ak9 O⟩;have hy':=t _ _ f;have hy3:l1.getD (bX lt l1 d i1 (d - 1).toNat (d*i1+1)).1.toNat 0=y:=by rw[alf,f];rfl
  have yZ:=U.trans (e2.mono Z);refine v1 (ae c) ?_;refine⟨O,?_⟩;refine v3 (ae g) ala hy' ?_;refine⟨o.nil,?_⟩;refine vs ?_;refine fL.mono (o.call a _ y x (B y (ali f)) hx V7) ?_;rintro _ L ⟨rfl,hI3,V⟩;have C:=M.ext V X;have W:=yZ.trans (V.mono Z);obtain⟨f4,l4,c4,mb4,k1,u,k3⟩:=C.read O;have hy4:=k3 _ _ f;refine vs ?_;cases Oc:lt y x with
  |false=>
   refine vs ?_;refine(stop L ((bX lt l1 d i1 (d - 1).toNat (d*i1+1)).2+1) C O W ?_).mono ?_
   ·rw[F,cQ,if_neg O];grind
   ·rintro _ H4 ⟨c,g,t⟩;refine vs ?_;exact⟨c,g,t⟩
  |true=>
   refine v1 (ae k1) ?_;refine⟨O,?_⟩;refine v3 (ae u) ala hy4 ?_;refine(jG C i1 y ⟨i0,N⟩).mono ?_;rintro _ H4 ⟨_,A,p⟩;refine vs ?_;have hdn:cQ lt d x l1.length l1 w i1=((cQ lt d x (l1.set i1.toNat y).length (l1.set i1.toNat y) (dB w y i1) (bX lt l1 d i1 (d - 1).toNat (d*i1+1)).1).1,
     (cQ lt d x (l1.set i1.toNat y).length (l1.set i1.toNat y) (dB w y i1) (bX lt l1 d i1 (d - 1).toNat (d*i1+1)).1).2.1,
     (cQ lt d x (l1.set i1.toNat y).length (l1.set i1.toNat y) (dB w y i1) (bX lt l1 d i1 (d - 1).toNat (d*i1+1)).1).2.2+(bX lt l1 d i1 (d - 1).toNat (d*i1+1)).2+1):=by
    rw[Lc lt d x P (l1.set i1.toNat y).length q _ _ _ O O (by rw[alb];omega),F,cQ,if_neg O];simp only[hy3,Oc,if_true]
   refine⟨l1.length - (bX lt l1 d i1 (d - 1).toNat (d*i1+1)).1.toNat,O,l1.set i1.toNat y,dB w y i1,(bX lt l1 d i1 (d - 1).toNat (d*i1+1)).1,k+(bX lt l1 d i1 (d - 1).toNat (d*i1+1)).2+1,rfl,fun z hz=>(Jy hz).elim (fun e=>e▸B y (ali f)) (B z),by simp_all,O,by simp_all,by simp_all,A,?_,
    W.trans (p.mono Z),Z,Z,Z⟩
   have:=o.aW _ _ _ _ hI3 p Z;grind
end
end Go.Proofs.YtnanofhkpglbaaaGreatDoor
