/- Texts put behind each other. -/
import Derived.Test.YthpjfeolagohkaaGreatK98
import Derived.Test.YthpjfeolagohkaaGreatK0
import Derived.Test.YthpjfeolagohkaaGreatK19
import Derived.Test.YthpjfeolagohkaaGreatK22
set_option maxRecDepth 100000
set_option maxHeartbeats 8000000
set_option linter.unusedVariables false
set_option linter.unusedSimpArgs false
namespace Go.Proofs.YthpjfeolagohkaaGreat
open Go Go.Vc
def uG(n:Nat)(f:Nat→Int):List Int:=(List.range n).map f
theorem mT(n:Nat)(f:Nat→Int):(uG n f).length=n:=by unfold uG;simp
theorem Ou{n i:Nat}(f:Nat→Int)(h:i<n):(uG n f)[i]? =some (f i):=by unfold uG;rw[aqz,List.getElem?_range h];rfl
theorem Vg{n i:Nat}(f:Nat→Int)(x:Int)(h:i<n):(uG n f).set i x=uG n (lZ f i x):=by
 apply aqX
 intro k
 by_cases hk:k<n
 ·rw[Ou _ hk]
  unfold lZ
  by_cases E3:k=i
  ·subst E3;rw[aqi (by rw[mT];exact hk),if_pos rfl]
  ·rw[aqh (Ne.symm E3),Ou _ hk,if_neg E3]
 ·rw[aqo (by rw[aqe,mT];omega),aqo (by rw[mT];omega)]
theorem ln{n i:Nat}(f:Nat→Int)(h:i<n):((uG n f).map i64)[i]? =some (i64 (f i)):=by rw[aqz,Ou _ h];rfl
theorem KE{n i:Nat}(f:Nat→Int)(x:Int)(h:i<n):((uG n f).map i64).set i (i64 x)=(uG n (lZ f i x)).map i64:=by rw[←aqP,Vg _ _ h]
theorem SH(n:Nat):(uG n (fun _=>0)).map i64=aV [i64 0] n:=by
 unfold uG aV
 induction n with
 |zero=>rfl
 |succ n ih=>rw[List.range_succ,aqy,aqy,ih,ar1,List.flatten_append];rfl
structure cI(H:Hp)(B t bu bd bp n:Nat)(N:Int)(ev:Value)(up deep part:Nat→Int):Prop where
 box:H.own t=some [i64 N,ev,.slice (some ⟨bu,0,none⟩) n n,.slice (some ⟨bd,0,none⟩) n n,.slice (some ⟨bp,0,none⟩) n n]
 RD:H.own bu=some ((uG n up).map i64)
 vC:H.own bd=some ((uG n deep).map i64)
 parts:H.own bp=some ((uG n part).map i64)
 low:B≤t∧B≤bu∧B≤bd∧B≤bp
 ap:t≠bu∧t≠bd∧t≠bp∧bu≠bd∧bu≠bp∧bd≠bp
theorem cI.lt{H:Hp}{B t bu bd bp n:Nat}{N:Int}{ev:Value}{up deep part:Nat→Int}(h:cI H B t bu bd bp n N ev up deep part):t<H.size∧bu<H.size∧bd<H.size∧bp<H.size:=
 ⟨aB h.box,aB h.RD,aB h.vC,aB h.parts⟩
theorem cI.ext{H H':Hp}{B t bu bd bp n:Nat}{N:Int}{ev:Value}{up deep part:Nat→Int}{S:Nat→Prop}(h:cI H B t bu bd bp n N ev up deep part)(e:ag S H H')(hs:¬S t∧¬S bu∧¬S bd∧¬S bp):cI H' B t bu bd bp n N ev up deep part:=
 ⟨e.own h.box hs.1,e.own h.RD hs.2.1,e.own h.vC hs.2.2.1,e.own h.parts hs.2.2.2,h.low,h.ap⟩
theorem cI.fresh{H H':Hp}{B t bu bd bp n:Nat}{N:Int}{ev:Value}{up deep part:Nat→Int}(h:cI H B t bu bd bp n N ev up deep part)(e:ah H H'):cI H' B t bu bd bp n N ev up deep part:=
 h.ext e ⟨fun h=>h,fun h=>h,fun h=>h,fun h=>h⟩
theorem cI.PG{H:Hp}{B t bu bd bp n:Nat}{N:Int}{ev:Value}{up deep part:Nat→Int}(h:cI H B t bu bd bp n N ev up deep part){i:Nat}(hi:i<n)(x:Int):cI (H.wr bu (((uG n up).map i64).set i (i64 x))) B t bu bd bp n N ev (lZ up i x) deep part:=by
 obtain⟨a1,a2,a3,a4,a5,a6⟩:=h.ap
 rw[KE _ _ hi]
 exact⟨by rw[c7 (by omega)];exact h.box,ai h.RD,by rw[c7 (by omega)];exact h.vC,by rw[c7 (by omega)];exact h.parts,h.low,h.ap⟩
theorem cI.KF{H:Hp}{B t bu bd bp n:Nat}{N:Int}{ev:Value}{up deep part:Nat→Int}(h:cI H B t bu bd bp n N ev up deep part){i:Nat}(hi:i<n)(x:Int):cI (H.wr bd (((uG n deep).map i64).set i (i64 x))) B t bu bd bp n N ev up (lZ deep i x) part:=by
 obtain⟨a1,a2,a3,a4,a5,a6⟩:=h.ap
 rw[KE _ _ hi]
 exact⟨by rw[c7 (by omega)];exact h.box,by rw[c7 (by omega)];exact h.RD,ai h.vC,by rw[c7 (by omega)];exact h.parts,h.low,h.ap⟩
theorem cI.BV{H:Hp}{B t bu bd bp n:Nat}{N:Int}{ev:Value}{up deep part:Nat→Int}(h:cI H B t bu bd bp n N ev up deep part){i:Nat}(hi:i<n)(x:Int):cI (H.wr bp (((uG n part).map i64).set i (i64 x))) B t bu bd bp n N ev up deep (lZ part i x):=by
 obtain⟨a1,a2,a3,a4,a5,a6⟩:=h.ap
 rw[KE _ _ hi]
 exact⟨by rw[c7 (by omega)];exact h.box,by rw[c7 (by omega)];exact h.RD,by rw[c7 (by omega)];exact h.vC,ai h.parts,h.low,h.ap⟩
theorem QQ(H:Hp)(T1 T2 T3 T4 B:Nat)(hB:B≤H.size)(n:Nat)(N:Int)(ev:Value)(bu bd bp:Nat)(hu:bu=H.size∨bu=H.size+1∨bu=H.size+2)(hd:bd=H.size∨bd=H.size+1∨bd=H.size+2)(hp:bp=H.size∨bp=H.size+1∨bp=H.size+2)(ap:bu≠bd∧bu≠bp∧bd≠bp):
  cI ((((H.new T1 (aV [i64 0] n)).new T2 (aV [i64 0] n)).new T3 (aV [i64 0] n)).new T4 [i64 N,ev,.slice (some ⟨bu,0,none⟩) n n,.slice (some ⟨bd,0,none⟩) n n,.slice (some ⟨bp,0,none⟩) n n]) B (H.size+3) bu bd bp n N ev (fun _=>0) (fun _=>0) (fun _=>0)∧
   ah H ((((H.new T1 (aV [i64 0] n)).new T2 (aV [i64 0] n)).new T3 (aV [i64 0] n)).new T4 [i64 N,ev,.slice (some ⟨bu,0,none⟩) n n,.slice (some ⟨bd,0,none⟩) n n,.slice (some ⟨bp,0,none⟩) n n]):=by
 have fr:∀ (H:Hp) T l,ah H (H.new T l):=fun H T l=>(ag.refl _ _).new _ _
 have z1:(H.new T1 (aV [i64 0] n)).size=H.size+1:=by rw[am]
 have z2:((H.new T1 (aV [i64 0] n)).new T2 (aV [i64 0] n)).size=H.size+2:=by rw[am,am]
 have z3:(((H.new T1 (aV [i64 0] n)).new T2 (aV [i64 0] n)).new T3 (aV [i64 0] n)).size=H.size+3:=by rw[am,am,am]
 have o1:=(((fr _ T2 _).trans (fr _ T3 _)).trans (fr _ T4 [i64 N,ev,.slice (some ⟨bu,0,none⟩) n n,.slice (some ⟨bd,0,none⟩) n n,.slice (some ⟨bp,0,none⟩) n n])).own (az H T1 (aV [i64 0] n)) (fun h=>h) (H':=((((H.new T1 (aV [i64 0] n)).new T2 (aV [i64 0] n)).new T3 (aV [i64 0] n)).new T4 _))
 have o2:=((fr _ T3 _).trans (fr _ T4 [i64 N,ev,.slice (some ⟨bu,0,none⟩) n n,.slice (some ⟨bd,0,none⟩) n n,.slice (some ⟨bp,0,none⟩) n n])).own (az (H.new T1 (aV [i64 0] n)) T2 (aV [i64 0] n)) (fun h=>h) (H':=((((H.new T1 (aV [i64 0] n)).new T2 (aV [i64 0] n)).new T3 (aV [i64 0] n)).new T4 _))
 have o3:=(fr _ T4 [i64 N,ev,.slice (some ⟨bu,0,none⟩) n n,.slice (some ⟨bd,0,none⟩) n n,.slice (some ⟨bp,0,none⟩) n n]).own (az ((H.new T1 (aV [i64 0] n)).new T2 (aV [i64 0] n)) T3 (aV [i64 0] n)) (fun h=>h)
 have o4:=az (((H.new T1 (aV [i64 0] n)).new T2 (aV [i64 0] n)).new T3 (aV [i64 0] n)) T4 [i64 N,ev,.slice (some ⟨bu,0,none⟩) n n,.slice (some ⟨bd,0,none⟩) n n,.slice (some ⟨bp,0,none⟩) n n]
 have ff:=(((fr H T1 (aV [i64 0] n)).trans (fr _ T2 (aV [i64 0] n))).trans (fr _ T3 (aV [i64 0] n))).trans (fr _ T4 [i64 N,ev,.slice (some ⟨bu,0,none⟩) n n,.slice (some ⟨bd,0,none⟩) n n,.slice (some ⟨bp,0,none⟩) n n])
 rw[z1]at o2
 rw[z2]at o3
 rw[z3]at o4
 obtain⟨a1,a2,a3⟩:=ap
 refine⟨⟨o4,?_,?_,?_,⟨by omega,by omega,by omega,by omega⟩,⟨by omega,by omega,by omega,a1,a2,a3⟩⟩,ff⟩<;>rw[SH]
 ·rcases hu with rfl|rfl|rfl<;>assumption
 ·rcases hd with rfl|rfl|rfl<;>assumption
 ·rcases hp with rfl|rfl|rfl<;>assumption
theorem qV.push{H3 H4 H5:Hp}{B b n:Nat}{xs:Nat→List Int}{fp:Nat→Option Nat}(h:qV H3 B b n xs fp){i:Nat}(hi:i<n){bX:List Value}(pO:H3.own b=some bX)(f4:ah H3 H4){x:Int}{v':Value}{bI:Option Nat}
  (s5:Sl H5 1 v' ((xs i).length+1) ((xs i).map i64++[i64 x]) bI)(e5:ag (fun z=>fp i=some z) H4 H5)(ix:bI=fp i∨∃p,bI=some p∧H4.size≤p∧p<H5.size):
  H5.own b=some bX∧ag (fun z=>fp i=some z) H3 H5∧ag (fun z=>fp i=some z∨z=b) H3 (H5.wr b (bX.set i v'))∧qV (H5.wr b (bX.set i v')) B b n (jE xs i (xs i++[x])) (Dw fp i bI):=by
 have h4:=h.fresh f4
 have Yh:=f4.own pO (fun h=>h)
 obtain⟨k1,k2⟩:=h4.put hi (l:=xs i++[x]) e5 (by rw[aqj,aqy];exact s5) ix Yh
 have e35:ag (fun z=>fp i=some z) H3 H5:=⟨aqW f4.size e5.size,fun z hz hn=>(e5.aM z (aqw hz f4.size) hn).trans (f4.aM z hz (fun h=>h))⟩
 refine⟨k1,e35,(e35.mono fun z _ hz=>.inl hz).trans ((ag.refl (fun z=>z=b) _).wr (fun _=>rfl) _|>.mono fun z _ hz=>.inr hz),k2⟩
theorem qV.acj{H:Hp}{B b n:Nat}{xs:Nat→List Int}{fp:Nat→Option Nat}(h:qV H B b n xs fp){i q:Nat}(hi:i<n)(hq:fp i=some q):q<H.size:=by
 obtain⟨_,_,_,_,_,h5⟩:=h.get hi
 rw[hq]at h5
 exact Sl.lt h5
theorem Sl.less{H:Hp}{n c b:Nat}{xs:List Value}{x:Value}(h:Sl H 1 (.slice (some ⟨b,0,none⟩) (n+1) c) (n+1) (xs++[x]) (some b)):Sl H 1 (.slice (some ⟨b,0,none⟩) n c) n xs (some b):=by
 obtain⟨hl,l,c2,hs,ho,hc,oP,ht⟩:=h
 rw[aqj,aqn,aqd]at hl
 injection hs with fh Jv E6
 subst E6
 refine⟨by omega,l,c,rfl,ho,by omega,by omega,?_⟩
 have:l.take (n*1)=(l.take ((n+1)*1)).take n:=by rw[ar4];congr 1;omega
 rw[this,ht,List.take_left' (by omega)]
def tI(l:List Nat):List Int:=l.map fun v:Nat=>(v:Int)
theorem vD(l:List Nat):(tI l).length=l.length:=by unfold tI;simp
theorem KG(l:List Nat)(x:Nat):tI (l++[x])=tI l++[(x:Int)]:=by unfold tI;simp
def free:Nat→(Nat→Int)→Nat
 |0,_=>0
 |n+1,p=>free n p+if p n= -1 then 1 else 0
theorem PH:∀ (n:Nat) (p:Nat→Int),free n p≤n
 |0,_=>aqm _
 |n+1,p=>by have:=PH n p;unfold free;split<;>omega
theorem Jz:∀ (n:Nat) (p:Nat→Int) (v:Nat) (x:Int),n≤v→free n (lZ p v x)=free n p
 |0,_,_,_,_=>rfl
 |n+1,p,v,x,h=>by
  unfold free
  rw[Jz n p v x (by omega)]
  unfold lZ
  rw[if_neg (c:=n=v) (by omega)]
theorem GK:∀ (n:Nat) (p:Nat→Int) (v:Nat) (x:Int),v<n→p v= -1→x≠ -1→free n (lZ p v x)+1=free n p
 |0,_,_,_,h,_,_=>absurd h (by omega)
 |n+1,p,v,x,h,hp,hx=>by
  unfold free
  by_cases hv:v=n
  ·subst hv
   rw[Jz _ p _ x (aqm _),hp,if_pos rfl]
   unfold lZ
   rw[if_pos rfl,if_neg hx]
  ·have ih:=GK n p v x (by omega) hp hx
   have:lZ p v x n=p n:=by unfold lZ;rw[if_neg (by omega)]
   rw[this]
   omega
theorem JA{n:Nat}{f g:Nat→Int}(h:∀v,v<n→f v=g v):uG n f=uG n g:=by
 unfold uG
 exact ar7 fun v hv=>h v (arl.1 hv)
theorem Vh(f:Nat→Nat)(k x:Nat):lZ (fun v=>(f v:Int)) k (x:Int)=fun v=>((lZ f k x v:Nat):Int):=by
 funext v
 unfold lZ
 split<;>rfl
structure St(H H':Hp)(B0 B1 t bu bd bp b n:Nat)(N:Int)(ev:Value)(xs:Nat→List Int)(fp:Nat→Option Nat)(up deep part:Nat→Int):Prop where
 fr:ah H H'
 g:H'.own H.size=some [i64 N,ev]
 rows:qV H' B0 b n xs fp
 oH:cI H' (H.size+1) t bu bd bp n N ev up deep part
 lo:t<B0∧bu<B0∧bd<B0∧bp<B0
 hi:B0≤b∧b<B1∧∀i q,i<n→fp i=some q→q<B1
 sz:B1≤H'.size∧B0≤B1
section
variable {H H' zh : Hp} {B0 B1 t bu bd bp b n : Nat} {N : Int} {ev : Value} {xs : Nat → List Int} {fp : Nat → Option Nat} {up deep part : Nat → Int}
theorem St.off(h:St H H' B0 B1 t bu bd bp b n N ev xs fp up deep part)(z:Nat)(hz:H.size<z∧z<B0)(l:List Value):ah H (H'.wr z l)∧(H'.wr z l).own H.size=some [i64 N,ev]∧qV (H'.wr z l) B0 b n xs fp∧B1≤(H'.wr z l).size:=by
 have e:ag (fun y=>y=z) H' (H'.wr z l):=(ag.refl (fun y=>y=z) _).wr (fun _=>rfl) _
 refine⟨h.fr.then e (fun y hy=>by omega),e.own h.g (fun hh=>by omega),h.rows.ext e (fun hh=>by have:=h.hi.1;omega) (fun i p hi hp hh=>by have:=(h.rows.low i hi p hp).1;omega),?_⟩
 rw[cG]
 exact h.sz.1
theorem St.PG(h:St H H' B0 B1 t bu bd bp b n N ev xs fp up deep part){i:Nat}(hi:i<n)(x:Int):St H (H'.wr bu (((uG n up).map i64).set i (i64 x))) B0 B1 t bu bd bp b n N ev xs fp (lZ up i x) deep part:=by
 obtain⟨a1,a2,a3,a4⟩:=h.off bu ⟨by have:=h.oH.low;omega,h.lo.2.1⟩ (((uG n up).map i64).set i (i64 x))
 exact⟨a1,a2,a3,h.oH.PG hi x,h.lo,h.hi,a4,h.sz.2⟩
theorem St.KF(h:St H H' B0 B1 t bu bd bp b n N ev xs fp up deep part){i:Nat}(hi:i<n)(x:Int):St H (H'.wr bd (((uG n deep).map i64).set i (i64 x))) B0 B1 t bu bd bp b n N ev xs fp up (lZ deep i x) part:=by
 obtain⟨a1,a2,a3,a4⟩:=h.off bd ⟨by have:=h.oH.low;omega,h.lo.2.2.1⟩ (((uG n deep).map i64).set i (i64 x))
 exact⟨a1,a2,a3,h.oH.KF hi x,h.lo,h.hi,a4,h.sz.2⟩
theorem St.BV(h:St H H' B0 B1 t bu bd bp b n N ev xs fp up deep part){i:Nat}(hi:i<n)(x:Int):St H (H'.wr bp (((uG n part).map i64).set i (i64 x))) B0 B1 t bu bd bp b n N ev xs fp up deep (lZ part i x):=by
 obtain⟨a1,a2,a3,a4⟩:=h.off bp ⟨by have:=h.oH.low;omega,h.lo.2.2.2⟩ (((uG n part).map i64).set i (i64 x))
 exact⟨a1,a2,a3,h.oH.BV hi x,h.lo,h.hi,a4,h.sz.2⟩
theorem St.ext(h:St H H' B0 B1 t bu bd bp b n N ev xs fp up deep part)(e:ag (fun z=>B1≤z) H' zh):St H zh B0 B1 t bu bd bp b n N ev xs fp up deep part:=by
 have h1:=h.lo
 have h2:=h.hi
 have h3:=h.sz
 have h4:=h.oH.low
 exact⟨h.fr.then e (fun z hz=>by omega),e.own h.g (fun hh=>by omega),h.rows.ext e (fun hh=>by omega) (fun i p hi hp hh=>by have:=h2.2.2 i p hi hp;omega),h.oH.ext e ⟨by omega,by omega,by omega,by omega⟩,h1,h2,aqW h3.1 e.size,h3.2⟩
end
end Go.Proofs.YthpjfeolagohkaaGreat
