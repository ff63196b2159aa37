/- Texts put behind each other. -/
import Derived.Test.YtjlnnljohemifaaGreatK98
import Derived.Test.YtjlnnljohemifaaGreatK13
import Derived.Test.YtjlnnljohemifaaGreatK21
import Derived.Test.YtjlnnljohemifaaGreatK22
import Derived.Test.YtjlnnljohemifaaGreatK24
set_option maxRecDepth 100000
set_option maxHeartbeats 8000000
set_option linter.unusedVariables false
set_option linter.unusedSimpArgs false
namespace Go.Proofs.YtjlnnljohemifaaGreat
open Go Go.Vc
structure Nw where
 hs:List Bool
 cs:List Ce
def Nw.has(w:Nw)(h:Int):Prop:=1≤h∧w.hs[h.toNat]? =some true
instance(w:Nw)(h:Int):Decidable (w.has h):=inferInstanceAs (Decidable (_∧_))
def Nw.len(w:Nw)(h:Int):Int:=if 0<h then(w.cs.countP fun c=>decide (c.1=h):Nat)else 0
def Nw.put(w:Nw)(i:Int)(c:Ce):Nw:=⟨w.hs,w.cs.set i.toNat c⟩
def Nw.make(w:Nw):Nw:=⟨w.hs++[true],w.cs⟩
def Nw.ahead(w:Nw)(a b:Int):Bool:=
 decide (cT w.cs a) && decide (cT w.cs b) && (match w.cs[a.toNat]?,w.cs[b.toNat]? with|some x,some y=>decide (ze a b x y)|_,_=>false)
theorem Nw.zf(w:Nw)(h:Int):0≤w.len h∧w.len h≤w.cs.length:=by
 unfold Nw.len
 have:=aps (p:=fun c:Ce=>decide (c.1=h)) (l:=w.cs)
 split<;>omega
structure nw(w:Nw)(cs:List Ce)(len:Nat)(rt:Nat→Nat)(aR:Int→Option Int):Prop where
 hl:w.hs.length=len
 h0:w.hs[0]? =some false
 hh:∀h,1≤h→h<len→w.hs[h]? =some (decide (rt h=h))
 cl:w.cs=cs.map fun c=>(if 0<c.1 then((rt c.1.toNat:Nat):Int)else 0,c.2)
 lt:∀c∈cs,0≤c.1∧c.1<len
 mn:∀h:Int,dG aR h=w.len h
 low:∀i,i<len→rt i<len
 K6:∀i,i<len→rt (rt i)=rt i
 nz:∀i,i<len→rt i=0→i=0
def ba(H:Hp)(c:Nat)(S:Nat→Prop)(st:Int)(w:Nw):Prop:=∃cs len rt aR,bG H c S st cs len rt aR∧nw w cs len rt aR
theorem ba.ext{H H':Hp}{c:Nat}{S T:Nat→Prop}{st:Int}{w:Nw}(h:ba H c S st w)(e:ag T H H')(hd:∀x,S x→¬T x):ba H' c S st w:=by
 obtain⟨cs,len,rt,aR,h1,h2⟩:=h
 exact⟨cs,len,rt,aR,h1.ext e hd,h2⟩
theorem ba.fresh{H H':Hp}{c:Nat}{S:Nat→Prop}{st:Int}{w:Nw}(h:ba H c S st w)(e:ai H H'):ba H' c S st w:=h.ext e fun _ _ h=>h
theorem ba.slt{H:Hp}{c:Nat}{S:Nat→Prop}{st:Int}{w:Nw}(h:ba H c S st w):∀x,S x→x<H.size:=by
 obtain⟨cs,len,rt,aR,h1,h2⟩:=h
 exact h1.slt
theorem ba.OJ{H:Hp}{c:Nat}{S:Nat→Prop}{st:Int}{w:Nw}(h:ba H c S st w):S c:=by
 obtain⟨cs,len,rt,aR,⟨⟨fb,nb,ns,mb,_,_,_,_,s,_⟩,_⟩,h2⟩:=h
 exact s.1
theorem ba.DY{H:Hp}{c:Nat}{S:Nat→Prop}{st:Int}{w:Nw}(h:ba H c S st w):w.cs.length≤65536:=by
 obtain⟨cs,len,rt,aR,h1,h2⟩:=h
 rw[h2.cl,anQ]
 exact h1.DY
theorem ba.st{H:Hp}{c:Nat}{S:Nat→Prop}{st:Int}{w:Nw}(h:ba H c S st w):0≤st∧st≤4611686018427387904:=by
 obtain⟨cs,len,rt,aR,h1,h2⟩:=h
 exact⟨h1.st0,h1.SQ⟩
theorem nw.Mb{w:Nw}{cs:List Ce}{len:Nat}{rt:Nat→Nat}{aR:Int→Option Int}(h:nw w cs len rt aR)(i:Int):cT w.cs i↔cT cs i:=by
 unfold cT
 rw[h.cl]
 simp only[anR]
 constructor
 ·rintro⟨h0,c,hc,hp⟩
  cases hx:cs[i.toNat]? with
  |none=>rw[hx]at hc;cases hc
  |some x=>
   rw[hx]at hc
   simp only[Option.map_some,anE]at hc
   subst hc
   refine⟨h0,x,rfl,?_⟩
   by_cases fZ:0<x.1
   ·exact fZ
   ·simp[fZ]at hp
 ·rintro⟨h0,x,hx,hp⟩
  refine⟨h0,_,by rw[hx];rfl,?_⟩
  have aO:=h.lt x (anz hx)
  simp only[if_pos hp]
  have hnz:rt x.1.toNat≠0:=fun e=>by have:=h.nz _ (by omega) e;omega
  omega
theorem nw.get{w:Nw}{cs:List Ce}{len:Nat}{rt:Nat→Nat}{aR:Int→Option Int}(h:nw w cs len rt aR){i:Nat}{x:Ce}(hx:cs[i]? =some x):w.cs[i]? =some (if 0<x.1 then((rt x.1.toNat:Nat):Int)else 0,x.2):=by
 rw[h.cl,anR,hx];rfl
theorem nw.Wq{w:Nw}{cs:List Ce}{len:Nat}{rt:Nat→Nat}{aR:Int→Option Int}(h:nw w cs len rt aR)(g:Int):w.has g↔(0<g∧g<len∧rt g.toNat=g.toNat):=by
 unfold Nw.has
 constructor
 ·rintro⟨h1,h2⟩
  have aO:=(anu.1 h2).1
  rw[h.hl]at aO
  rw[h.hh g.toNat (by omega) aO]at h2
  injection h2 with h2
  exact⟨by omega,by omega,of_decide_eq_true h2⟩
 ·rintro⟨h1,h2,h3⟩
  exact⟨by omega,by rw[h.hh g.toNat (by omega) (by omega),anI h3]⟩
theorem lC(cap:Int)(H:Hp):af Tryz.prog tU [i64 cap] H fun v H'=>aw (
  ai H H'∧((¬ (0≤cap∧cap≤65536)∧v= .tuple [.pointer none,i64 31].toArray)∨
   (0≤cap∧cap≤65536)∧∃c S,v= .tuple [ptr c,i64 0].toArray∧ba H' c S 0 ⟨[false],List.replicate cap.toNat (0,0,0)⟩∧(∀x,S x→H.size≤x))):=by
 refine(Fy cap H).mono ?_
 rintro _ H1 ⟨f,⟨h,rfl⟩| ⟨h,c,S,rfl,h1,h2⟩⟩
 ·exact⟨f,.inl ⟨h,rfl⟩⟩
 ·refine⟨f,.inr ⟨h,c,S,rfl,⟨_,_,_,_,h1,⟨rfl,rfl,fun h h1 h2=>by omega,?_,fun c hc=>?_,fun h=>?_,fun i hi=>hi,fun i hi=>rfl,fun i hi h=>h⟩⟩,h2⟩⟩
  ·simp
  ·rw[aoF hc];exact⟨by omega,by simp⟩
  ·unfold Nw.len dG
   split
   ·simp only[Option.getD_none,List.countP_replicate]
    rw[if_neg (by simp;omega)];rfl
   ·rfl
theorem gU{H:Hp}{c:Nat}{S:Nat→Prop}{st:Int}{w:Nw}(h:ba H c S st w)(i:Int):
  af Tryz.prog bD [ptr c,i64 i] H fun v H'=>aw (v= .bool (decide (w.has i))∧H=H'):=by
 obtain⟨cs,len,rt,aR,h1,h2⟩:=h
 refine(uB h1 i).mono ?_
 rintro _ _ ⟨rfl,rfl⟩
 exact⟨anP Value.bool (by rw[decide_eq_decide,h2.Wq]),rfl⟩
theorem sH{H:Hp}{c:Nat}{S:Nat→Prop}{st:Int}{w:Nw}(h:ba H c S st w)(i:Int):
  af Tryz.prog iO [ptr c,i64 i] H fun v H'=>aw (v=i64 (w.len i)∧H=H'):=by
 obtain⟨cs,len,rt,aR,h1,h2⟩:=h
 refine(Fz h1 i).mono ?_
 rintro _ _ ⟨rfl,rfl⟩
 exact⟨by rw[h2.mn],rfl⟩
theorem jY{H:Hp}{c:Nat}{S:Nat→Prop}{st:Int}{w:Nw}(h:ba H c S st w):
  af Tryz.prog dq [ptr c] H fun v H'=>aw (
   (w.hs.length=65537∧v=i64 0∧H=H')∨
   (w.hs.length≠65537∧v=i64 w.hs.length∧∃S',ba H' c S' st w.make∧ag S H H'∧∀x,S' x→S x∨H.size≤x)):=by
 obtain⟨cs,len,rt,aR,h1,h2⟩:=h
 refine(DZ h1).mono ?_
 have hl:=h2.hl
 rintro _ H1 (⟨e,rfl,rfl⟩| ⟨e,rfl,S',g1,g2,g3⟩)
 ·exact .inl ⟨by omega,rfl,rfl⟩
 ·refine .inr ⟨by omega,by rw[hl],S',⟨_,_,_,_,g1,?_⟩,g2,g3⟩
  have fY:0<w.hs.length:=(anu.1 h2.h0).1
  refine⟨by simp[Nw.make,hl],?_,fun h a1 a2=>?_,?_,fun c hc=>by have:=h2.lt c hc;omega,h2.mn,fun i hi=>?_,fun i hi=>?_,fun i hi hz=>?_⟩
  ·show(w.hs++[true])[0]? =some false
   rw[anJ fY];exact h2.h0
  ·show(w.hs++[true])[h]? =_
   by_cases he:h=len
   ·subst he
    rw[anX (by omega),hl]
    simp
   ·rw[anJ (by omega),h2.hh h a1 (by omega),if_neg he]
  ·show w.cs=_
   rw[h2.cl]
   apply apn
   intro x hx
   have:=h2.lt x hx
   by_cases h0:0<x.1
   ·simp only[if_pos h0];rw[if_neg (by omega)]
   ·simp only[if_neg h0]
  ·by_cases he:i=len
   ·simp[he]
   ·have:=h2.low i (by omega);simp only[if_neg he];omega
  ·by_cases he:i=len
   ·simp[he]
   ·have:=h2.low i (by omega)
    simp only[if_neg he]
    rw[if_neg (by omega)]
    exact h2.K6 i (by omega)
  ·by_cases he:i=len
   ·simp only[if_pos he]at hz;omega
   ·simp only[if_neg he]at hz;exact h2.nz i (by omega) hz
theorem Ho{α:Type}(p:α→Bool):∀ (l:List α) (i:Nat) (x y:α),l[i]? =some x→(l.set i y).countP p+(if p x=true then 1 else 0)=l.countP p+(if p y=true then 1 else 0):=by
 intro l
 induction l with
 |nil=>intro i x y h;simp at h
 |cons a l ih=>
  intro i x y h
  cases i with
  |zero=>
   simp only[anY,anE]at h
   subst h
   simp only[aoS,aoE]
   omega
  |succ i=>
   have:=ih i x y (by simpa using h)
   simp only[aoe,aoE]
   omega
theorem Nw.gf{w:Nw}{i:Int}{x y:Ce}(hx:w.cs[i.toNat]? =some x)(h:Int):(w.put i y).len h=w.len h - (if 0<h∧x.1=h then 1 else 0)+(if 0<h∧y.1=h then 1 else 0):=by
 unfold Nw.len Nw.put
 by_cases h0:0<h
 ·simp only[if_pos h0,h0,true_and]
  have:=Ho (fun c:Ce=>decide (c.1=h)) w.cs i.toNat x y hx
  simp only[anU]at this
  split at this<;>split at this<;>simp_all<;>omega
 ·simp only[if_neg h0,h0,false_and,if_false];rfl
theorem lD{H:Hp}{c:Nat}{S:Nat→Prop}{st:Int}{w:Nw}(h:ba H c S st w)(g i k s:Int):
  af Tryz.prog iP [ptr c,i64 g,i64 i,tz k s] H fun v H'=>aw (
   (¬ (w.has g∧(0≤i∧i<w.cs.length)∧¬cT w.cs i)∧v= .bool false∧ba H' c S st w∧ag S H H')∨
   ((w.has g∧(0≤i∧i<w.cs.length)∧¬cT w.cs i)∧v= .bool true∧ba H' c S st (w.put i (g,k,s))∧ag S H H')):=by
 obtain⟨cs,len,rt,aR,h1,h2⟩:=h
 have nO:w.cs.length=cs.length:=by rw[h2.cl,anQ]
 have aX:=w.zf g
 have wY:=h1.DY
 refine(FA h1 g i k s (by rw[h2.mn];omega)).mono ?_
 rintro _ H1 (⟨e,rfl,g1,g2⟩| ⟨e,rfl,g1,g2⟩)
 ·exact .inl ⟨by rw[h2.Wq,h2.Mb,nO];exact e,rfl,⟨_,_,_,_,g1,h2⟩,g2⟩
 ·refine .inr ⟨by rw[h2.Wq,h2.Mb,nO];exact e,rfl,⟨_,_,_,_,g1,?_⟩,g2⟩
  obtain⟨x,hx⟩:∃x,cs[i.toNat]? =some x:=⟨_,ans (by omega)⟩
  have fZ:¬0<x.1:=fun fZ=>e.2.2 ⟨e.2.1.1,x,hx,fZ⟩
  have Qv:=h2.get hx
  rw[if_neg fZ]at Qv
  refine⟨h2.hl,h2.h0,h2.hh,?_,fun y hy=>?_,fun j=>?_,h2.low,h2.K6,h2.nz⟩
  ·show w.cs.set i.toNat _=_
   rw[h2.cl,aoh]
   simp only[if_pos e.1.1,e.1.2.2]
   congr 3
   omega
  ·rcases aow hy with hy|rfl
   ·exact h2.lt y hy
   ·exact⟨by have:=e.1.1;simp only;omega,e.1.2.1⟩
  ·rw[Nw.gf Qv]
   by_cases hj:j=g
   ·subst hj
    have hg:=e.1.1
    rw[if_neg (by rintro⟨_,h⟩;omega),if_pos ⟨hg,rfl⟩,←h2.mn]
    simp[dG]
   ·rw[if_neg (by rintro⟨_,h⟩;omega),if_neg (by rintro⟨_,h⟩;exact hj h.symm),←h2.mn]
    simp[dG,hj]
theorem et{H:Hp}{c:Nat}{S:Nat→Prop}{st:Int}{w:Nw}(h:ba H c S st w)(i:Int):
  af Tryz.prog hY [ptr c,i64 i] H fun v H'=>aw (
   (¬cT w.cs i∧v= .tuple [i64 0,.bool false].toArray∧H=H')∨
   (cT w.cs i∧∃x,w.cs[i.toNat]? =some x∧v= .tuple [i64 x.1,.bool true].toArray∧ba H' c S st w∧ag S H H')):=by
 obtain⟨cs,len,rt,aR,h1,h2⟩:=h
 refine(sG h1 (fun x hx=>(h2.lt x hx).2) i).mono ?_
 rintro _ H1 (⟨e,rfl,rfl⟩| ⟨e,x,hx,rfl,g1,g2⟩)
 ·exact .inl ⟨by rw[h2.Mb];exact e,rfl,rfl⟩
 ·obtain⟨e0,x',wZ,hp⟩:=id e
  rw[hx]at wZ
  injection wZ with wZ
  subst wZ
  have hg:=h2.get hx
  rw[if_pos hp]at hg
  exact .inr ⟨by rw[h2.Mb];exact e,_,hg,rfl,⟨_,_,_,_,g1,h2⟩,g2⟩
theorem jc{H:Hp}{c:Nat}{S:Nat→Prop}{st:Int}{w:Nw}(h:ba H c S st w)(i:Int):
  af Tryz.prog bc [ptr c,i64 i] H fun v H'=>aw (ba H' c S st w∧ai H H'∧(
   (¬cT w.cs i∧v= .tuple [tz 0 0,.bool false].toArray)∨
   (cT w.cs i∧∃x,w.cs[i.toNat]? =some x∧v= .tuple [tz x.2.1 x.2.2,.bool true].toArray))):=by
 obtain⟨cs,len,rt,aR,h1,h2⟩:=h
 refine(Cp h1 i).mono ?_
 rintro _ H1 ⟨g1,g2,⟨e,rfl⟩| ⟨e,x,hx,rfl⟩⟩
 ·exact⟨⟨_,_,_,_,g1,h2⟩,g2,.inl ⟨by rw[h2.Mb];exact e,rfl⟩⟩
 ·exact⟨⟨_,_,_,_,g1,h2⟩,g2,.inr ⟨by rw[h2.Mb];exact e,_,h2.get hx,rfl⟩⟩
theorem jZ{H:Hp}{c:Nat}{S:Nat→Prop}{st:Int}{w:Nw}(h:ba H c S st w)(i:Int):
  af Tryz.prog hZ [ptr c,i64 i] H fun v H'=>aw (
   (¬cT w.cs i∧v= .bool false∧H=H')∨
   (cT w.cs i∧v= .bool true∧ba H' c S st (w.put i (0,0,0))∧ag S H H')):=by
 obtain⟨cs,len,rt,aR,h1,h2⟩:=h
 have wY:=h1.DY
 have nO:w.cs.length=cs.length:=by rw[h2.cl,anQ]
 refine(D1 h1 (fun x hx=>(h2.lt x hx).2) i (fun j=>by rw[h2.mn];have:=w.zf j;omega)).mono ?_
 rintro _ H1 (⟨e,rfl,rfl⟩| ⟨e,rfl,x,hx,g1,g2⟩)
 ·exact .inl ⟨by rw[h2.Mb];exact e,rfl,rfl⟩
 ·obtain⟨e0,x',wZ,hp⟩:=id e
  rw[hx]at wZ
  injection wZ with wZ
  subst wZ
  have hg:=h2.get hx
  rw[if_pos hp]at hg
  have aO:=h2.lt x (anz hx)
  have hnz:rt x.1.toNat≠0:=fun e=>by have:=h2.nz _ (by omega) e;omega
  refine .inr ⟨by rw[h2.Mb];exact e,rfl,⟨_,_,_,_,g1,h2.hl,h2.h0,h2.hh,?_,fun y hy=>?_,fun j=>?_,h2.low,h2.K6,h2.nz⟩,g2⟩
  ·show w.cs.set i.toNat _=_
   rw[h2.cl,aoh]
   rfl
  ·rcases aow hy with hy|rfl
   ·exact h2.lt y hy
   ·exact⟨by simp only;omega,by simp only;omega⟩
  ·have hp:=Nw.gf (y:=((0:Int),(0:Int),(0:Int))) hg j
   simp only at hp
   have hm:=h2.mn j
   by_cases hj:j=rt x.1.toNat
   ·subst hj
    rw[if_pos ⟨by omega,rfl⟩,if_neg (by rintro⟨h1,h2⟩;omega)]at hp
    rw[hp,←hm]
    split
    ·rename_i hz
     simp only[dG]at hz
     simp only[dG,rQ,if_true,Option.getD_none]
     omega
    ·simp[dG,cU]
   ·rw[if_neg (by rintro⟨_,h⟩;exact hj h.symm),if_neg (by rintro⟨h1,h2⟩;omega)]at hp
    rw[hp,←hm]
    split
    ·simp[dG,cU,rQ,hj]
    ·simp[dG,cU,hj]
theorem jd{H:Hp}{c:Nat}{S:Nat→Prop}{st:Int}{w:Nw}(h:ba H c S st w)(i k s:Int):
  af Tryz.prog gB [ptr c,i64 i,tz k s] H fun v H'=>aw (
   (¬ (cT w.cs i∧∀x,w.cs[i.toNat]? =some x→¬ep x.2.1 x.2.2 k s)∧v= .bool false∧ba H' c S st w∧ai H H')∨
   (cT w.cs i∧v= .bool true∧∃x,w.cs[i.toNat]? =some x∧¬ep x.2.1 x.2.2 k s∧ba H' c S st (w.put i (x.1,k,s))∧ag S H H')):=by
 obtain⟨cs,len,rt,aR,h1,h2⟩:=h
 refine(Cq h1 i k s).mono ?_
 rintro _ H1 (⟨e,rfl,g1,g2⟩| ⟨e,rfl,x,hx,hl,g1,g2⟩)
 ·refine .inl ⟨fun hc=>e ⟨(h2.Mb i).1 hc.1,fun x hx=>?_⟩,rfl,⟨_,_,_,_,g1,h2⟩,g2⟩
  have:=hc.2 _ (h2.get hx)
  exact this
 ·have hg:=h2.get hx
  refine .inr ⟨(h2.Mb i).2 e,rfl,_,hg,hl,⟨_,_,_,_,g1,h2.hl,h2.h0,h2.hh,?_,fun y hy=>?_,fun j=>?_,h2.low,h2.K6,h2.nz⟩,g2⟩
  ·show w.cs.set i.toNat _=_
   rw[h2.cl,aoh]
  ·rcases aow hy with hy|rfl
   ·exact h2.lt y hy
   ·exact h2.lt x (anz hx)
  ·rw[Nw.gf hg,←h2.mn]
   simp only
   split<;>omega
theorem je{H:Hp}{c:Nat}{S:Nat→Prop}{st:Int}{w:Nw}(h:ba H c S st w)(a b:Int):
  af Tryz.prog cJ [ptr c,i64 a,i64 b] H fun v H'=>aw (v= .bool (w.ahead a b)∧ba H' c S (if cT w.cs a∧cT w.cs b then fK st 1 else st) w∧ag S H H'):=by
 obtain⟨cs,len,rt,aR,h1,h2⟩:=h
 refine(Co h1 a b).mono ?_
 rintro _ H1 (⟨e,rfl,rfl⟩| ⟨e,x,y,hx,hy,rfl,g1,g2⟩)
 ·have e':¬ (cT w.cs a∧cT w.cs b):=fun hc=>e ⟨(h2.Mb a).1 hc.1,(h2.Mb b).1 hc.2⟩
  refine⟨anP Value.bool ?_,by rw[if_neg e'];exact⟨_,_,_,_,h1,h2⟩,ag.refl _ _⟩
  unfold Nw.ahead
  by_cases ha:cT w.cs a
  ·by_cases hb:cT w.cs b
   ·exact absurd ⟨ha,hb⟩ e'
   ·simp[hb]
  ·simp[ha]
 ·have ha:=(h2.Mb a).2 e.1
  have hb:=(h2.Mb b).2 e.2
  refine⟨anP Value.bool ?_,by rw[if_pos ⟨ha,hb⟩];exact⟨_,_,_,_,g1,h2⟩,g2⟩
  unfold Nw.ahead
  rw[anI ha,anI hb,h2.get hx,h2.get hy]
  rfl
theorem ba.zH{H:Hp}{c:Nat}{S:Nat→Prop}{st:Int}{w:Nw}(h:ba H c S st w):w.hs.length≤65537:=by
 obtain⟨cs,len,rt,aR,⟨⟨fb,nb,ns,mb,_,_,g,_⟩,_⟩,h2⟩:=h
 have:=g.le
 rw[h2.hl]
 omega
theorem ba.home{H:Hp}{c:Nat}{S:Nat→Prop}{st:Int}{w:Nw}(h:ba H c S st w):∀x∈w.cs,0≤x.1∧x.1<w.hs.length:=by
 obtain⟨cs,len,rt,aR,h1,h2⟩:=h
 intro x hx
 rw[h2.cl]at hx
 obtain⟨y,hy,rfl⟩:=anS.1 hx
 have h3:=h2.lt y hy
 rw[h2.hl]
 have h4:=h2.low y.1.toNat (by omega)
 have h5:0<len:=by
  have:=(anu.1 h2.h0).1
  rw[h2.hl]at this
  exact this
 simp only
 split<;>omega
theorem ba.live{H:Hp}{c:Nat}{S:Nat→Prop}{st:Int}{w:Nw}(h:ba H c S st w):∀x∈w.cs,0<x.1→w.hs[x.1.toNat]? =some true:=by
 obtain⟨cs,len,rt,aR,h1,h2⟩:=h
 intro x hx
 rw[h2.cl]at hx
 obtain⟨y,hy,rfl⟩:=anS.1 hx
 have h3:=h2.lt y hy
 simp only
 split
 ·intro h0
  have h4:=h2.low y.1.toNat (by omega)
  have h5:=h2.K6 y.1.toNat (by omega)
  rw[show((rt y.1.toNat:Nat):Int).toNat=rt y.1.toNat by omega,h2.hh _ (by omega) h4,h5]
  simp
 ·intro h0;omega
theorem dc.Rp{H:Hp}{size n:Nat}{v:Value}{xs:List Value}(h:dc H size v n xs):∃a c,v= .slice a n c:=by
 obtain⟨_,⟨rfl,a,c,rfl⟩| ⟨b,o,c,l,rfl,_⟩⟩:=h
 ·exact⟨_,_,rfl⟩
 ·exact⟨_,_,rfl⟩
theorem Ip(k s k' s':Int):(DW k s k' s'<0↔ep k s k' s')∧(DW k s k' s'=0↔(k=k'∧s=s')):=by
 refine⟨Ld k s k' s',?_⟩
 unfold DW Wo uA
 simp only[List.find?]
 by_cases h1:k<k'
 ·simp[h1];omega
 ·by_cases h2:k'<k
  ·simp[h1,h2];omega
  ·by_cases h3:s<s'
   ·simp[h1,h2,h3];omega
   ·by_cases h4:s'<s
    ·simp[h1,h2,h3,h4];omega
    ·simp[h1,h2,h3,h4];omega
theorem M3(a b:Int)(x y:Ce):ze a b x y↔(ep x.2.1 x.2.2 y.2.1 y.2.2∨(x.2.1=y.2.1∧x.2.2=y.2.2)∧a<b):=by
 unfold ze
 rw[(Ip _ _ _ _).1,(Ip _ _ _ _).2]
structure df(H:Hp)(r:Nat)(S:Nat→Prop)(d:Int)(l:List Int)(pl:Int→Option Int):Prop where
 TE:∃sv fp mb,H.own r=some [i64 d,sv,.map (some mb)]∧Sl H 1 sv l.length (l.map i64) fp∧ly H mb (fun i=>(pl i).map i64)∧
  S r∧S mb∧r≠mb∧(∀b,fp=some b→S b∧b≠r∧b≠mb)
 slt:∀x,S x→x<H.size
theorem df.ext{H H':Hp}{r:Nat}{S T:Nat→Prop}{d:Int}{l:List Int}{pl:Int→Option Int}(h:df H r S d l pl)(e:ag T H H')(hd:∀x,S x→¬T x):df H' r S d l pl:=by
 obtain⟨⟨sv,fp,mb,a1,a2,a3,s1,s2,s3,s4⟩,h2⟩:=h
 exact⟨⟨sv,fp,mb,e.own a1 (hd _ s1),a2.ext e (fun b hb=>hd _ (s4 b hb).1),a3.ext e (hd _ s2),s1,s2,s3,s4⟩,fun x hx=>anT (h2 x hx) e.size⟩
theorem xH(d:Int)(H:Hp):af Tryz.prog MN [i64 d] H fun v H'=>aw (
  ai H H'∧((¬cQ d∧v= .tuple [.pointer none,i64 22].toArray)∨
   cQ d∧∃r S,v= .tuple [ptr r,i64 0].toArray∧df H' r S d [] (fun _=>none)∧∀x,S x→H.size≤x)):=by
 refine bm MS ?_
 refine vs ?_
 refine(nm d H).mono ?_
 rintro _ _ ⟨rfl,rfl⟩
 refine vs ?_
 refine am.dec (fun h=>?_) (fun h=>?_)<;>refine vs ?_
 ·have e1:ai H (H.iI.new 310 [i64 d,.slice none 0 0,.map (some H.size)]):=((ag.refl _ _).iI).new _ _
  refine⟨e1,.inr ⟨h,H.size+1,fun x=>H.size≤x∧x<H.size+1+1,rfl,⟨⟨_,none,H.size,aV (by simp only[iA]),Sl.nil _ _,?_,?_,?_,?_,?_⟩,?_⟩,fun x hx=>hx.1⟩⟩
  ·exact(ly.new H).ext ((ag.refl (fun _=>False) _).new _ _) (fun h=>h)
  ·omega
  ·omega
  ·omega
  ·intro b hb;cases hb
  ·intro x hx
   simp only[aq,iA]
   exact hx.2
 ·exact⟨ag.refl _ _,.inl ⟨h,rfl⟩⟩
theorem Jn{H:Hp}{r:Nat}{S:Nat→Prop}{d:Int}{l:List Int}{pl:Int→Option Int}(h:df H r S d l pl)(i:Int):
  af Tryz.prog GW [ptr r,i64 i] H fun v H'=>aw (v=M0 (if 0≤i then l[i.toNat]? else none)∧H=H'):=by
 obtain⟨⟨sv,fp,mb,a1,a2,a3,s1,s2,s3,s4⟩,h2⟩:=h
 refine bm He ?_
 refine vs ?_
 refine am.dec (fun h=>?_) (fun h=>?_)<;>refine v1 (ae a1) ?_
 ·exact⟨by rw[if_neg (by omega)];rfl,rfl⟩
 ·cases fp with
  |none=>
   obtain⟨_,e,rfl⟩:=a2
   have hl:l=[]:=an5.1 e
   subst hl
   refine vs ?_
   refine am.cF (by simp only[anU];omega) ?_
   refine vs ?_
   exact⟨by rw[if_pos (by omega)];rfl,rfl⟩
  |some b=>
   obtain⟨_,l',c,rfl,a4,a5,a6,a7⟩:=a2
   refine vs ?_
   refine am.dec (fun h3=>?_) (fun h3=>?_)<;>refine v1 (ae a1) ?_
   ·exact⟨by rw[if_pos (by omega),anK (by omega)];rfl,rfl⟩
   ·obtain⟨x,hx⟩:∃x,l[i.toNat]? =some x:=⟨_,ans (by omega)⟩
    have Iq:l'[i.toNat]? =some (i64 x):=by
     have h1:(l.map i64)[i.toNat]? =some (i64 x):=by simp[hx]
     rw[←a7,an3 (by omega)]at h1
     exact h1
    refine⟨by omega,?_⟩
    refine v3 (ae a4) anw Iq ?_
    exact⟨by rw[if_pos (by omega),hx];rfl,rfl⟩
theorem kg{H:Hp}{r:Nat}{S:Nat→Prop}{d:Int}{l:List Int}{pl:Int→Option Int}(h:df H r S d l pl)(i x:Int)(hi:0≤i∧i<l.length):
  af Tryz.prog mV [ptr r,i64 i,i64 x] H fun v H'=>aw (v= .tuple [].toArray∧df H' r S d (l.set i.toNat x) (cU pl x i)∧ag S H H'):=by
 obtain⟨⟨sv,fp,mb,a1,a2,a3,s1,s2,s3,s4⟩,h2⟩:=h
 refine bm Fs ?_
 cases fp with
 |none=>obtain⟨_,e,_⟩:=a2;omega
 |some b=>
  have Wd:=a2
  obtain⟨_,l',c,rfl,a4,a5,a6,a7⟩:=a2
  refine v1 (ae a1) ?_
  refine⟨by omega,?_⟩
  refine v2 a4 anw ?_
  refine⟨by omega,?_⟩
  obtain⟨Py,rR,TI⟩:=s4 b rfl
  have e1:ag (fun z=>z=b) H (H.wr b (l'.set i.toNat (i64 x))):=(ag.refl (fun z=>z=b) _).wr (fun _=>rfl) _
  have b1:=e1.own a1 (Ne.symm rR)
  have b2:=Wd.tQ a4 i.toNat (i64 x)
  have b3:=a3.ext e1 (Ne.symm TI)
  refine v1 (ae b1) ?_
  refine b3.YA fun H2 m2 e2=>?_
  rw[Le]at m2
  refine vs ?_
  refine⟨rfl,⟨⟨_,some b,mb,by exact e2.own b1 s3,?_,m2,s1,s2,s3,s4⟩,fun z hz=>anT (h2 z hz) (aor e1.size e2.size)⟩,(e1.mono fun z _ hz=>hz▸Py).trans (e2.mono fun z _ hz=>hz▸s2)⟩
  rw[anv,aoh]
  exact b2.ext e2 (fun z hz=>by injection hz with hz;exact hz▸TI)
structure M4(ov:Value)(I:Hp→Nat→Prop)(T:Nat→Prop)(lt:Int→Int→Bool)(D:Int→Prop:=fun _=>True):Prop where
 call:∀H n a b,D a→D b→I H n→gI Tryz.prog ov "Ahead" [i64 a,i64 b] H fun v H'=>v= .bool (lt a b)∧I H' (n+1)∧ag T H H'
 nil:Pe Tryz.prog (.func (.method "Ahead") #[ov] #[])
 aM:∀H H' n U,I H n→ag U H H'→(∀x,T x→¬U x)→I H' n
 tlt:∀H n,I H n→∀x,T x→x<H.size
structure UpR where
 l:List Int
 pl:Int→Option Int
 at_:Int
 asked:Nat
def fi(lt:Int→Int→Bool)(d x:Int):Nat→List Int→(Int→Option Int)→Int→UpR
 |0,l,pl,i=>⟨l.set i.toNat x,cU pl x i,i,0⟩
 |m+1,l,pl,i=>match aY d i with
  |none=>⟨l.set i.toNat x,cU pl x i,i,0⟩
  |some p=>
   if lt x (l.getD p.toNat 0)=true then
    let r:=fi lt d x m (l.set i.toNat (l.getD p.toNat 0)) (cU pl (l.getD p.toNat 0) i) p
    ⟨r.l,r.pl,r.at_,r.asked+1⟩
   else⟨l.set i.toNat x,cU pl x i,i,1⟩
theorem Rq(lt:Int→Int→Bool)(d x:Int):∀ (m m':Nat) (l:List Int) (pl:Int→Option Int) (i:Int),i.toNat≤m→i.toNat≤m'→fi lt d x m l pl i=fi lt d x m' l pl i:=by
 intro m
 induction m with
 |zero=>
  intro m' l pl i h _
  have hn:aY d i=none:=by unfold aY;rw[if_neg (by omega)]
  cases m'<;>simp[fi,hn]
 |succ m ih=>
  intro m' l pl i h h'
  cases hp:aY d i with
  |none=>cases m'<;>simp[fi,hp]
  |some p=>
   have hb:=eK hp
   cases m' with
   |zero=>omega
   |succ m'=>simp only[fi,hp];rw[ih m' _ _ p (by omega) (by omega)]
theorem qe{l:List Int}{i:Nat}{y z:Int}(h:z∈l.set i y):z=y∨z∈l:=(aow h).symm
theorem TJ(lt:Int→Int→Bool)(d x:Int):∀ (m:Nat) (l:List Int) (pl:Int→Option Int) (i:Int),0≤i→i<l.length→∀z∈(fi lt d x m l pl i).l,z=x∨z∈l:=by
 intro m
 induction m with
 |zero=>intro l pl i _ _ z hz;exact qe hz
 |succ m ih=>
  intro l pl i h0 h1 z hz
  cases hp:aY d i with
  |none=>simp only[fi,hp]at hz;exact qe hz
  |some p=>
   have hb:=eK hp
   simp only[fi,hp]at hz
   split at hz
   ·rcases ih _ _ p (by omega) (by rw[anv];omega) z hz with h|h
    ·exact .inl h
    ·rcases qe h with h|h
     ·rw[h,anx,ans (by omega)]
      exact .inr (List.getElem_mem _)
     ·exact .inr h
   ·exact qe hz
theorem rS{ov:Value}{I:Hp→Nat→Prop}{T:Nat→Prop}{lt:Int→Int→Bool}{D:Int→Prop}(ho:M4 ov I T lt D){H:Hp}{r:Nat}{S:Nat→Prop}{d:Int}{l:List Int}{pl:Int→Option Int}
  (h:df H r S d l pl)(hd:∀x,S x→¬T x){n:Nat}(hI:I H n)(i x:Int)(hi:0≤i∧i<l.length)(hl:l.length≤1000000)(hx:D x:=by trivial)(hD:∀z∈l,D z:=by intros;trivial):
  af Tryz.prog GX [ptr r,ov,i64 i,i64 x] H fun v H'=>aw (
   let R:=fi lt d x i.toNat l pl i
   v=i64 R.at_∧df H' r S d R.l R.pl∧I H' (n+R.asked)∧ag (fun z=>S z∨T z) H H'):=by
 refine bm Hf ?_
 refine vs ?_
 refine bk.intro (fun m env H1=>∃ (l1:List Int) (AP:Int→Option Int) (i1:Int) (k:Nat),env=[(0,ptr r),(1,ov),(2,i64 i1),(3,i64 x)]∧(∀z∈l1,D z)∧m=i1.toNat∧0≤i1∧i1<l1.length∧l1.length=l.length∧
   df H1 r S d l1 AP∧I H1 (n+k)∧ag (fun z=>S z∨T z) H H1∧
   (fi lt d x i.toNat l pl i).l=(fi lt d x i1.toNat l1 AP i1).l∧(fi lt d x i.toNat l pl i).pl=(fi lt d x i1.toNat l1 AP i1).pl∧(fi lt d x i.toNat l pl i).at_=(fi lt d x i1.toNat l1 AP i1).at_∧
   (fi lt d x i.toNat l pl i).asked=k+(fi lt d x i1.toNat l1 AP i1).asked) i.toNat ⟨l,pl,i,0,rfl,hD,rfl,hi.1,hi.2,rfl,h,hI,ag.refl _ _,rfl,rfl,rfl,by omega⟩ ?_
 rintro m env H1 ⟨l1,AP,i1,k,rfl,U4,rfl,i0,il,ll,h1,hI1,e1,u1,u2,u3,u4⟩
 obtain⟨⟨sv,fp,mb,a1,a2,a3,s1,s2,s3,s4⟩,h2⟩:=id h1
 have key:∀o:Option Int,M0 o= .tuple [i64 (o.getD 0),.bool o.isSome].toArray:=by intro o;cases o<;>rfl
 refine v1 (ae a1) ?_
 refine(Cl d i1 (by omega) H1).mono ?_
 rintro _ _ ⟨rfl,rfl⟩
 rw[key]
 have stop:∀ (H2:Hp) (k2:Nat),df H2 r S d l1 AP→I H2 (n+k+k2)→ag (fun z=>S z∨T z) H H2→fi lt d x i1.toNat l1 AP i1=⟨l1.set i1.toNat x,cU AP x i1,i1,k2⟩→
   af Tryz.prog mV [ptr r,i64 i1,i64 x] H2 fun _ H'=>(i64 i1=i64 (fi lt d x i.toNat l pl i).at_∧df H' r S d (fi lt d x i.toNat l pl i).l (fi lt d x i.toNat l pl i).pl∧
    I H' (n+(fi lt d x i.toNat l pl i).asked)∧ag (fun z=>S z∨T z) H H'):=by
  intro H2 k2 g1 g2 g3 g4
  refine(kg g1 i1 x ⟨i0,il⟩).mono ?_
  rintro _ H3 ⟨_,g5,g6⟩
  rw[u1,u2,u3,u4,g4]
  exact⟨rfl,g5,by rw[←apD];exact ho.aM _ _ _ _ g2 g6 (fun z hz hs=>hd z hs hz),g3.trans (g6.mono fun z _ hz=>.inl hz)⟩
 cases hp:aY d i1 with
 |none=>
  simp(disch:=(first|omega| (simp only[Zs]<;>omega)|fail)) only[go_sem, ↓reduceIte,Zv,Option.isSome_none]
  refine(stop H1 0 h1 hI1 e1 ?_).mono ?_
  ·cases hm:i1.toNat<;>simp[fi,hp,hm]
  ·rintro _ H3 ⟨g1,g2,g3,g4⟩
   refine vs ?_
   exact⟨g1,g2,g3,g4⟩
 |some p=>
  have Og:=eK hp
  obtain⟨b,rfl⟩:∃b,fp=some b:=by
   cases fp with
   |none=>obtain⟨_,e,_⟩:=a2;omega
   |some b=>exact⟨b,rfl⟩
  obtain⟨_,l',c,rfl,a4,a5,a6,a7⟩:=a2
  obtain⟨y,hy⟩:∃y,l1[p.toNat]? =some y:=⟨_,ans (by omega)⟩
  have DO:l'[p.toNat]? =some (i64 y):=by
   have h1:(l1.map i64)[p.toNat]? =some (i64 y):=by simp[hy]
   rw[←a7,an3 (by omega)]at h1
   exact h1
  have hy3:l1.getD p.toNat 0=y:=by simp[List.getD,hy]
  simp(disch:=(first|omega| (simp only[Zs]<;>omega)|fail)) only[go_sem, ↓reduceIte,Zv,Option.isSome_some,Option.getD_some,ae a1]
  refine⟨by omega,?_⟩
  refine v3 (ae a4) anw DO ?_
  refine⟨ho.nil,?_⟩
  refine vs ?_
  refine gI.mono (ho.call H1 (n+k) x y hx (U4 y (anz hy)) hI1) ?_
  rintro _ H2 ⟨rfl,Qw,e2⟩
  have Rr:=h1.ext e2 hd
  have o8:=e1.trans (e2.mono fun z _ hz=>.inr hz)
  have b1:=e2.own a1 (hd _ s1)
  have b4:=e2.own a4 (hd _ (s4 b rfl).1)
  refine vs ?_
  cases aO:lt x y with
  |false=>
   refine vs ?_
   refine(stop H2 1 Rr Qw o8 ?_).mono ?_
   ·obtain⟨q,hq⟩:∃q,i1.toNat=q+1:=⟨i1.toNat - 1,by omega⟩
    rw[hq]
    simp[fi,hp,hy,aO,hq]
   ·rintro _ H3 ⟨g1,g2,g3,g4⟩
    refine vs ?_
    exact⟨g1,g2,g3,g4⟩
  |true=>
   refine v1 (ae b1) ?_
   refine⟨by omega,?_⟩
   refine v3 (ae b4) anw DO ?_
   refine(kg Rr i1 y ⟨i0,il⟩).mono ?_
   rintro _ H3 ⟨_,g5,g6⟩
   refine vs ?_
   obtain⟨q,hq⟩:∃q,i1.toNat=q+1:=⟨i1.toNat - 1,by omega⟩
   have EO:fi lt d x i1.toNat l1 AP i1=⟨(fi lt d x p.toNat (l1.set i1.toNat y) (cU AP y i1) p).l,(fi lt d x p.toNat (l1.set i1.toNat y) (cU AP y i1) p).pl,(fi lt d x p.toNat (l1.set i1.toNat y) (cU AP y i1) p).at_,
     (fi lt d x p.toNat (l1.set i1.toNat y) (cU AP y i1) p).asked+1⟩:=by
    rw[Rq lt d x p.toNat q _ _ p (anG _) (by omega),hq]
    simp only[fi,hp,hy3,aO,if_true,hq]
   refine⟨p.toNat,by omega,l1.set i1.toNat y,cU AP y i1,p,k+1,rfl,fun z hz=>(qe hz).elim (fun e=>e▸U4 y (anz hy)) (U4 z),rfl,by omega,by rw[anv];omega,by rw[anv];exact ll,g5,
    ho.aM _ _ _ _ Qw g6 (fun z hz hs=>hd z hs hz),o8.trans (g6.mono fun z _ hz=>.inl hz),by rw[u1,EO],by rw[u2,EO],by rw[u3,EO],by rw[u4,EO];simp only;omega⟩
theorem Hq{ov:Value}{I:Hp→Nat→Prop}{T:Nat→Prop}{lt:Int→Int→Bool}{D:Int→Prop}(ho:M4 ov I T lt D){H:Hp}{r:Nat}{S:Nat→Prop}{d:Int}{l:List Int}{pl:Int→Option Int}
  (h:df H r S d l pl)(hd:∀x,S x→¬T x){n:Nat}(hI:I H n)(x:Int)(hl:l.length<1000000)(hDx:D x:=by trivial)(hD:∀z∈l,D z:=by intros;trivial):
  af Tryz.prog Fl [ptr r,ov,i64 x] H fun v H'=>aw (
   let R:=fi lt d x l.length (l++[x]) pl l.length
   (pl x≠none∧v= .bool false∧H=H')∨
   (pl x=none∧v= .bool true∧∃S',df H' r S' d R.l R.pl∧I H' (n+R.asked)∧ag (fun z=>S z∨T z) H H'∧∀z,S' z→S z∨H.size≤z)):=by
 obtain⟨⟨sv,fp,mb,a1,a2,a3,s1,s2,s3,s4⟩,h2⟩:=id h
 have key:gR true (Value.int .i64 0) ((pl x).map i64)= .tuple [i64 ((pl x).getD 0),.bool (pl x).isSome].toArray:=by cases pl x<;>rfl
 refine bm Fq ?_
 refine v3 (ae a1) a3.look key ?_
 cases hx:pl x with
 |some p=>
  simp(disch:=(first|omega| (simp only[Zs]<;>omega)|fail)) only[go_sem, ↓reduceIte,Zv,Option.isSome_some]
  exact .inl ⟨by simp,rfl,rfl⟩
 |none=>
  simp(disch:=(first|omega| (simp only[Zs]<;>omega)|fail)) only[go_sem, ↓reduceIte,Zv,Option.isSome_none,ae a1]
  have hb:=aA a1
  have e0:ag (fun _=>False) H (H.new 3 [i64 x]):=(ag.refl _ H).new 3 [i64 x]
  refine Sl.append (a2.ext e0 (fun _ _ h=>h)) (Sl.cf (size:=1) (xs:=[i64 x]) rfl rfl).rd rfl (Df [x]) (by omega) ?_
  intro v' H2 cO hs sM gu
  have b1:=sM.own (e0.own a1 (fun h=>h)) (fun e=>(s4 r e).2.1 rfl)
  have Dz:=hs
  obtain⟨f,rfl⟩:∃f,cO=some f:=by
   cases cO with
   |none=>obtain⟨_,e,_⟩:=hs;omega
   |some f=>exact⟨f,rfl⟩
  obtain⟨_,l',c',rfl,g1,g2,g3,g4⟩:=Dz
  have hf:(fp=some f)∨H.size≤f:=by
   rcases gu with h| ⟨z,h,h5,h6⟩
   ·exact .inl h.symm
   ·injection h with h;subst h;rw[aq]at h5;exact .inr (by omega)
  have Wm:f≠r∧f≠mb:=by
   rcases hf with h|h
   ·exact(s4 f h).2
   ·have:=a3.lt;omega
  have e2:ag (fun z=>S z) H H2:=(e0.mono fun _ _ h=>h.elim).oJ sM (fun z _ hz=>(s4 z hz).1)
  have e3:ag (fun z=>S z) H (H2.wr r [i64 d,.slice (some ⟨f,0,none⟩) (l.length+1) c',.map (some mb)]):=e2.wr (fun _=>s1) _
  have hr:df (H2.wr r [i64 d,.slice (some ⟨f,0,none⟩) (l.length+1) c',.map (some mb)]) r (fun z=>S z∨z=f) d (l++[x]) pl:=by
   have ew:ag (fun z=>z=r) H2 (H2.wr r [i64 d,.slice (some ⟨f,0,none⟩) (l.length+1) c',.map (some mb)]):=(ag.refl (fun z=>z=r) _).wr (fun _=>rfl) _
   refine⟨⟨.slice (some ⟨f,0,none⟩) (l.length+1) c',some f,mb,?_,?_,((a3.ext e0 (fun h=>h)).ext sM (fun e=>(s4 mb e).2.2 rfl)).ext ew (Ne.symm s3),.inl s1,.inl s2,s3,fun b e=>by cases e;exact⟨.inr rfl,Wm⟩⟩,?_⟩
   ·exact ah b1
   ·rw[anD,an8];exact hs.ext ew (fun b e=>by injection e with e;subst e;exact Wm.1)
   ·rintro z (hz|rfl)
    ·exact anT (h2 z hz) e3.size
    ·rw[ec];exact aA g1
  have jv:∀z,(S z∨z=f)→¬T z:=by
   rintro z (hz|rfl) ht
   ·exact hd z hz ht
   ·rcases hf with h|h
    ·exact hd _ (s4 _ h).1 ht
    ·have:=ho.tlt H n hI _ ht;omega
  have Qw:=ho.aM _ _ _ _ hI e3 (fun z hz hs=>hd z hs hz)
  simp(disch:=(first|omega| (simp only[Zs]<;>omega)|fail)) only[go_sem, ↓reduceIte,Zv,b1,rM b1]
  rw[wrap64 (by omega) (by omega),show((l.length+1:Nat):Int) - 1=(l.length:Int) by omega]
  refine(rS ho hr jv Qw l.length x ⟨by omega,by rw[anD,anM];omega⟩ (by rw[anD];simp;omega) hDx (fun z hz=>by rcases anH.1 hz with h|h;exact hD z h;rw[anC.1 h];exact hDx)).mono ?_
  rintro _ H3 ⟨_,r1,r2,r3⟩
  refine vs ?_
  refine .inr ⟨rfl,rfl,_,r1,r2,?_,?_⟩
  ·refine(e3.mono fun z _ hz=>Or.inl hz).oJ r3 ?_
   rintro z hz ((h|rfl)|h)
   ·exact .inl h
   ·rcases hf with h|h
    ·exact .inl (s4 _ h).1
    ·omega
   ·exact .inr h
  ·rintro z (h|rfl)
   ·exact .inl h
   ·rcases hf with h|h
    ·exact .inl (s4 _ h).1
    ·exact .inr h
theorem D2{ov:Value}{I:Hp→Nat→Prop}{T:Nat→Prop}{lt:Int→Int→Bool}{D:Int→Prop}(ho:M4 ov I T lt D){H:Hp}{r:Nat}{S:Nat→Prop}{d:Int}{l:List Int}{pl:Int→Option Int}
  (h:df H r S d l pl)(hd:∀x,S x→¬T x){n:Nat}(hI:I H n)(x:Int)(hl:l.length≤1000000)(hp:∀i,pl x=some i→0≤i∧i<l.length)(hDx:D x:=by trivial)(hD:∀z∈l,D z:=by intros;trivial):
  af Tryz.prog BX [ptr r,ov,i64 x] H fun v H'=>aw (
   (pl x=none∧v= .bool false∧H=H')∨
   (∃i,pl x=some i∧v= .bool true∧df H' r S d (fi lt d x i.toNat l pl i).l (fi lt d x i.toNat l pl i).pl∧I H' (n+(fi lt d x i.toNat l pl i).asked)∧ag (fun z=>S z∨T z) H H')):=by
 obtain⟨⟨sv,fp,mb,a1,a2,a3,s1,s2,s3,s4⟩,h2⟩:=id h
 have key:gR true (Value.int .i64 0) ((pl x).map i64)= .tuple [i64 ((pl x).getD 0),.bool (pl x).isSome].toArray:=by cases pl x<;>rfl
 refine bm Ca ?_
 refine v3 (ae a1) a3.look key ?_
 cases hx:pl x with
 |none=>
  simp(disch:=(first|omega| (simp only[Zs]<;>omega)|fail)) only[go_sem, ↓reduceIte,Zv,Option.isSome_none]
  exact .inl ⟨rfl,rfl,rfl⟩
 |some i=>
  simp(disch:=(first|omega| (simp only[Zs]<;>omega)|fail)) only[go_sem, ↓reduceIte,Zv,Option.isSome_some,Option.getD_some]
  refine(rS ho h hd hI i x (hp i hx) hl hDx hD).mono ?_
  rintro _ H3 ⟨_,r1,r2,r3⟩
  refine vs ?_
  exact .inr ⟨i,rfl,rfl,r1,r2,r3⟩
theorem AQ{H:Hp}{v:Value}{n:Nat}{xs:List Int}(h:dc H 1 v n (xs.map i64))(hn:n≤1000000):
  af Tryz.prog qP [v] H fun r H'=>aw (ai H H'∧∃fp,Sl H' 1 r n (xs.map i64) fp∧∀b,fp=some b→H.size≤b∧b<H'.size):=by
 refine bm rj ?_
 have hv:∃a c,v= .slice a n c:=by
  obtain⟨_,⟨rfl,a,c,rfl⟩| ⟨b,o,c,l,rfl,_⟩⟩:=h
  ·exact⟨_,_,rfl⟩
  ·exact⟨_,_,rfl⟩
 obtain⟨a,c,rfl⟩:=hv
 refine vs ?_
 cases a with
 |none=>
  have L0:n=0:=by
   obtain⟨_,⟨rfl,_⟩| ⟨b,o,c,l,e,_⟩⟩:=h
   ·rfl
   ·cases e
  have hx:xs.map i64=[]:=an5.1 (by have:=h.1;simpa[L0]using this)
  simp(disch:=(first|omega| (simp only[Zs]<;>omega)|fail)) only[go_sem, ↓reduceIte,Zv,Option.isNone_none]
  rw[hx,L0]
  exact⟨ag.refl _ _,none,Sl.nil H 1,fun b hb=>by cases hb⟩
 |some ad=>
  simp(disch:=(first|omega| (simp only[Zs]<;>omega)|fail)) only[go_sem, ↓reduceIte,Zv,Option.isNone_some]
  have e0:ag (fun _=>False) H (H.new 3 []):=(ag.refl _ H).new 3 []
  refine Sl.append (Sl.cf (size:=1) (n:=0) (xs:=[]) rfl rfl) (h.fresh e0) rfl (rP xs) (by omega) ?_
  intro v' H2 cO hs sM gu
  refine vs ?_
  refine⟨ag.oJ e0 sM (fun z hz NT=>by injection NT with NT;omega),cO,by simpa[KE]using hs,?_⟩
  intro z hz
  have Pp:=sM.size
  rw[aq]at Pp
  rcases gu with h| ⟨y,h,h5,h6⟩
  ·rw[h]at hz;injection hz with hz;omega
  ·rw[h]at hz;injection hz with hz;subst hz;rw[aq]at h5;omega
def bS(lt:Int→Int→Bool)(l:List Int)(d i:Int):Nat→Int→Int×Nat
 |0,bQ=>(bQ,0)
 |m+1,bQ=>
  if d*i+(d - m)<l.length then
   let r:=bS lt l d i m (if lt (l.getD (d*i+(d - m)).toNat 0) (l.getD bQ.toNat 0)=true then d*i+(d - m)else bQ)
   (r.1,r.2+1)
  else bS lt l d i m bQ
theorem df.read{H:Hp}{r:Nat}{S:Nat→Prop}{d:Int}{l:List Int}{pl:Int→Option Int}(h:df H r S d l pl)(hl:0<l.length):
  ∃f l' c mb,H.own r=some [i64 d,.slice (some ⟨f,0,none⟩) l.length c,.map (some mb)]∧H.own f=some l'∧∀ (i:Nat) (x:Int),l[i]? =some x→l'[i]? =some (i64 x):=by
 obtain⟨⟨sv,fp,mb,a1,a2,a3,s1,s2,s3,s4⟩,h2⟩:=h
 cases fp with
 |none=>obtain⟨_,e,_⟩:=a2;omega
 |some f=>
  obtain⟨_,l',c,rfl,a4,a5,a6,a7⟩:=a2
  refine⟨f,l',c,mb,a1,a4,?_⟩
  intro i x hx
  have hi:=(anu.1 hx).1
  have h1:(l.map i64)[i]? =some (i64 x):=by simp[hx]
  rw[←a7,an3 (by omega)]at h1
  exact h1
theorem D3{ov:Value}{I:Hp→Nat→Prop}{T:Nat→Prop}{lt:Int→Int→Bool}{D:Int→Prop}(ho:M4 ov I T lt D){H:Hp}{r:Nat}{S:Nat→Prop}{d:Int}{l:List Int}{pl:Int→Option Int}
  (h:df H r S d l pl)(hd:∀x,S x→¬T x){n:Nat}(hI:I H n)(hf:cQ d)(i:Int)(hi:0≤i∧i<l.length)(hl:l.length≤1000000)(hD:∀z∈l,D z:=by intros;trivial):
  af Tryz.prog BZ [ptr r,ov,i64 i] H fun v H'=>aw (
   ((l.length:Int)≤d*i+1∧v= .tuple [i64 0,.bool false].toArray∧H=H')∨
   (d*i+1<l.length∧v= .tuple [i64 (bS lt l d i (d - 1).toNat (d*i+1)).1,.bool true].toArray∧df H' r S d l pl∧I H' (n+(bS lt l d i (d - 1).toNat (d*i+1)).2)∧ag T H H')):=by
 obtain⟨f,l',c,mb,a1,a2,a3⟩:=h.read (by omega)
 have hf1:=hf.1
 have hf2:=hf.2
 have hc:∀k,1≤k→k≤d→rN d i k=some (d*i+k):=fun k h1 h2=>by unfold rN;rw[if_pos ⟨hf,by omega,by omega,h1,h2⟩]
 have hb:=rO (i:=i) hf (by omega) (by omega) (by omega:(1:Int)≤1) (by omega)
 refine bm Cc ?_
 refine v1 (ae a1) ?_
 refine(sC d i 1 H).mono ?_
 rintro _ _ ⟨rfl,rfl⟩
 rw[hc 1 (by omega) (by omega)]
 simp(disch:=(first|omega| (simp only[Zs]<;>omega)|fail)) only[go_sem, ↓reduceIte,Zv,M0,ae a1]
 refine am.dec (fun h1=>?_) (fun h1=>?_)<;>refine vs ?_
 ·exact .inl ⟨by omega,rfl,rfl⟩
 ·refine bk.intro (fun m env H1=>∃ (bQ:Int) (k:Nat),env=[(0,ptr r),(1,ov),(2,i64 i),(8,i64 bQ),(10,i64 (d+1 - m))]∧(m:Int)≤d - 1∧0≤bQ∧bQ<l.length∧
   df H1 r S d l pl∧I H1 (n+k)∧ag T H H1∧
   (bS lt l d i (d - 1).toNat (d*i+1)).1=(bS lt l d i m bQ).1∧(bS lt l d i (d - 1).toNat (d*i+1)).2=k+(bS lt l d i m bQ).2) (d - 1).toNat
   ⟨d*i+1,0,by rw[show d+1 - ((d - 1).toNat:Int)=2 by omega],by omega,by omega,by omega,h,hI,ag.refl _ _,rfl,by omega⟩ ?_
  rintro m env H1 ⟨bQ,k,rfl,hm,b0,b1,r1,i1,e1,u1,u2⟩
  obtain⟨f1,l1,c1,mb1,g1,g2,g3⟩:=r1.read (by omega)
  refine v1 (ae g1) ?_
  refine am.dec (fun hk=>?_) (fun hk=>?_)<;>refine vs ?_
  ·obtain⟨q,rfl⟩:∃q,m=q+1:=⟨m - 1,by omega⟩
   rw[show d+1 - ((q+1:Nat):Int)=d - q by omega]at*
   refine v1 (ae g1) ?_
   refine(sC d i (d - q) H1).mono ?_
   rintro _ _ ⟨rfl,rfl⟩
   have Gz:=rO (i:=i) hf (by omega) (by omega) (by omega:(1:Int)≤d - q) (by omega)
   rw[hc (d - q) (by omega) (by omega)]
   simp(disch:=(first|omega| (simp only[Zs]<;>omega)|fail)) only[go_sem, ↓reduceIte,Zv,M0,ae g1]
   refine am.dec (fun nO=>?_) (fun nO=>?_)<;>refine vs ?_
   ·obtain⟨x,hx⟩:∃x,l[(d*i+(d - q)).toNat]? =some x:=⟨_,ans (by omega)⟩
    obtain⟨y,hy⟩:∃y,l[bQ.toNat]? =some y:=⟨_,ans (by omega)⟩
    have wZ:=g3 _ _ hx
    have FD:=g3 _ _ hy
    refine v1 (ae g1) ?_
    refine⟨by omega,?_⟩
    refine v4 (ae g1) (ae g2) anw wZ ?_
    refine⟨by omega,?_⟩
    refine v3 (ae g2) anw FD ?_
    refine⟨ho.nil,?_⟩
    refine vs ?_
    refine gI.mono (ho.call H1 (n+k) x y (hD x (anz hx)) (hD y (anz hy)) i1) ?_
    rintro _ H2 ⟨rfl,Qw,e2⟩
    have EN:∀z,z=(if lt x y=true then d*i+(d - q)else bQ)→bS lt l d i (q+1) bQ=((bS lt l d i q z).1,(bS lt l d i q z).2+1):=by
     intro z hz
     rw[bS,if_pos nO]
     simp only[List.getD,hx,hy,Option.getD_some,hz]
    refine vs ?_
    refine am.intro (fun aO=>?_) (fun aO=>?_)<;>refine vs ?_
    ·rw[wrap64 (by omega) (by omega)]
     exact⟨q,by omega,d*i+(d - q),k+1,by rw[show d+1 - (q:Int)=d - q+1 by omega],by omega,by omega,by omega,r1.ext e2 hd,Qw,e1.trans e2,
      by rw[u1,EN (d*i+(d - q)) (by rw[if_pos aO])],by rw[u2,EN (d*i+(d - q)) (by rw[if_pos aO])];simp only;omega⟩
    ·rw[wrap64 (by omega) (by omega)]
     exact⟨q,by omega,bQ,k+1,by rw[show d+1 - (q:Int)=d - q+1 by omega],by omega,by omega,by omega,r1.ext e2 hd,Qw,e1.trans e2,
      by rw[u1,EN bQ (by rw[if_neg (by rw[aO];simp)])],by rw[u2,EN bQ (by rw[if_neg (by rw[aO];simp)])];simp only;omega⟩
   ·rw[wrap64 (by omega) (by omega)]
    have EN:bS lt l d i (q+1) bQ=bS lt l d i q bQ:=by rw[bS,if_neg nO]
    exact⟨q,by omega,bQ,k,by rw[show d+1 - (q:Int)=d - q+1 by omega],by omega,by omega,by omega,r1,i1,e1,by rw[u1,EN],by rw[u2,EN]⟩
  ·have h0:m=0:=by omega
   subst h0
   refine .inr ⟨by omega,?_,r1,?_,e1⟩
   ·rw[u1];rfl
   ·rw[u2];exact i1
def cR(lt:Int→Int→Bool)(d x:Int):Nat→List Int→(Int→Option Int)→Int→List Int×(Int→Option Int)×Nat
 |0,l,pl,i=>(l.set i.toNat x,cU pl x i,0)
 |m+1,l,pl,i=>
  if(l.length:Int)≤d*i+1 then(l.set i.toNat x,cU pl x i,0)
  else
   let b:=bS lt l d i (d - 1).toNat (d*i+1)
   let y:=l.getD b.1.toNat 0
   if lt y x=true then
    let r:=cR lt d x m (l.set i.toNat y) (cU pl y i) b.1
    (r.1,r.2.1,r.2.2+b.2+1)
   else(l.set i.toNat x,cU pl x i,b.2+1)
theorem kW(lt:Int→Int→Bool)(l:List Int)(d i:Int)(h:0≤d*i):∀ (m:Nat) (bQ:Int),(m:Int)≤d - 1→d*i+1≤bQ→bQ<l.length→d*i+1≤(bS lt l d i m bQ).1∧(bS lt l d i m bQ).1<l.length:=by
 intro m
 induction m with
 |zero=>intro bQ _ h1 h2;exact⟨h1,h2⟩
 |succ m ih=>
  intro bQ hm h1 h2
  unfold bS
  split
  ·simp only
   split
   ·exact ih _ (by omega) (by omega) (by omega)
   ·exact ih _ (by omega) h1 h2
  ·exact ih _ (by omega) h1 h2
theorem ny{d i b:Int}(hf:cQ d)(hi:0≤i)(hb:d*i+1≤b):i<b:=by
 have h1:=hf.1
 have:1*i≤d*i:=ao4 (by omega) hi
 omega
theorem M5(lt:Int→Int→Bool)(d x:Int)(hf:cQ d):∀ (m m':Nat) (l:List Int) (pl:Int→Option Int) (i:Int),0≤i→l.length≤i.toNat+m→l.length≤i.toNat+m'→
  cR lt d x m l pl i=cR lt d x m' l pl i:=by
 have hz:∀ (m:Nat) (l:List Int) (pl:Int→Option Int) (i:Int),0≤i→l.length≤i.toNat→cR lt d x m l pl i=(l.set i.toNat x,cU pl x i,0):=by
  intro m l pl i hi hl
  cases m with
  |zero=>rfl
  |succ m=>
   have h1:=hf.1
   have:1*i≤d*i:=ao4 (by omega) hi
   rw[cR,if_pos (by omega)]
 intro m
 induction m with
 |zero=>intro m' l pl i hi h h';rw[hz 0 l pl i hi (by omega),hz m' l pl i hi (by omega)]
 |succ m ih=>
  intro m' l pl i hi h h'
  cases m' with
  |zero=>rw[hz 0 l pl i hi (by omega),hz (m+1) l pl i hi (by omega)]
  |succ m'=>
   rw[cR,cR]
   split
   ·rfl
   ·rename_i hc
    have h1:=hf.1
    have SR:0≤d*i:=ao9 (by omega) hi
    have hb:=kW lt l d i SR (d - 1).toNat (d*i+1) (by omega) (by omega) (by omega)
    have aO:=ny hf hi hb.1
    simp only
    split
    ·rw[ih m' _ _ _ (by omega) (by rw[anv];omega) (by rw[anv];omega)]
    ·rfl
theorem FE{ov:Value}{I:Hp→Nat→Prop}{T:Nat→Prop}{lt:Int→Int→Bool}{D:Int→Prop}(ho:M4 ov I T lt D){H:Hp}{r:Nat}{S:Nat→Prop}{d:Int}{l:List Int}{pl:Int→Option Int}
  (h:df H r S d l pl)(hd:∀x,S x→¬T x){n:Nat}(hI:I H n)(hf:cQ d)(i x:Int)(hi:0≤i∧i<l.length)(hl:l.length≤1000000)(hx:D x:=by trivial)(hD:∀z∈l,D z:=by intros;trivial):
  af Tryz.prog DE [ptr r,ov,i64 i,i64 x] H fun v H'=>aw (
   let R:=cR lt d x l.length l pl i
   df H' r S d R.1 R.2.1∧I H' (n+R.2.2)∧ag (fun z=>S z∨T z) H H'):=by
 refine bm DL ?_
 refine vs ?_
 refine bk.intro (fun m env H1=>∃ (l1:List Int) (AP:Int→Option Int) (i1:Int) (k:Nat),env=[(0,ptr r),(1,ov),(2,i64 i1),(3,i64 x)]∧(∀z∈l1,D z)∧m=l1.length - i1.toNat∧0≤i1∧i1<l1.length∧l1.length=l.length∧
   df H1 r S d l1 AP∧I H1 (n+k)∧ag (fun z=>S z∨T z) H H1∧
   (cR lt d x l.length l pl i).1=(cR lt d x l1.length l1 AP i1).1∧(cR lt d x l.length l pl i).2.1=(cR lt d x l1.length l1 AP i1).2.1∧
   (cR lt d x l.length l pl i).2.2=k+(cR lt d x l1.length l1 AP i1).2.2) (l.length - i.toNat) ⟨l,pl,i,0,rfl,hD,rfl,hi.1,hi.2,rfl,h,hI,ag.refl _ _,rfl,rfl,by omega⟩ ?_
 rintro m env H1 ⟨l1,AP,i1,k,rfl,U4,rfl,i0,il,ll,h1,hI1,e1,u1,u2,u3⟩
 have QR:=hf.1
 have SR:0≤d*i1:=ao9 (by omega) i0
 have stop:∀ (H2:Hp) (k2:Nat),df H2 r S d l1 AP→I H2 (n+k+k2)→ag (fun z=>S z∨T z) H H2→cR lt d x l1.length l1 AP i1=(l1.set i1.toNat x,cU AP x i1,k2)→
   af Tryz.prog mV [ptr r,i64 i1,i64 x] H2 fun _ H'=>(df H' r S d (cR lt d x l.length l pl i).1 (cR lt d x l.length l pl i).2.1∧
    I H' (n+(cR lt d x l.length l pl i).2.2)∧ag (fun z=>S z∨T z) H H'):=by
  intro H2 k2 g1 g2 g3 g4
  refine(kg g1 i1 x ⟨i0,il⟩).mono ?_
  rintro _ H3 ⟨_,g5,g6⟩
  rw[u1,u2,u3,g4]
  exact⟨g5,by rw[←apD];exact ho.aM _ _ _ _ g2 g6 (fun z hz hs=>hd z hs hz),g3.trans (g6.mono fun z _ hz=>.inl hz)⟩
 obtain⟨q,hq⟩:∃q,l1.length=q+1:=⟨l1.length - 1,by omega⟩
 refine vs ?_
 refine(D3 ho h1 hd hI1 hf i1 ⟨i0,il⟩ (by omega) U4).mono ?_
 rintro _ H2 (⟨hc,rfl,rfl⟩| ⟨hc,rfl,h2,Qw,e2⟩)
 ·refine vs ?_
  refine(stop H1 0 h1 hI1 e1 ?_).mono ?_
  ·rw[hq,cR,if_pos hc]
  ·rintro _ H3 ⟨g1,g2,g3⟩
   refine vs ?_
   exact⟨g1,g2,g3⟩
 ·have hb:=kW lt l1 d i1 SR (d - 1).toNat (d*i1+1) (by omega) (by omega) hc
  have aO:=ny hf i0 hb.1
  obtain⟨f1,l',c1,mb1,g1,g2,g3⟩:=h2.read (by omega)
  obtain⟨y,hy⟩:∃y,l1[(bS lt l1 d i1 (d - 1).toNat (d*i1+1)).1.toNat]? =some y:=⟨_,ans (by omega)⟩
  have FD:=g3 _ _ hy
  have hy3:l1.getD (bS lt l1 d i1 (d - 1).toNat (d*i1+1)).1.toNat 0=y:=by rw[anx,hy];rfl
  have o8:=e1.trans (e2.mono fun z _ hz=>.inr hz)
  refine v1 (ae g1) ?_
  refine⟨by omega,?_⟩
  refine v3 (ae g2) anw FD ?_
  refine⟨ho.nil,?_⟩
  refine vs ?_
  refine gI.mono (ho.call H2 _ y x (U4 y (anz hy)) hx Qw) ?_
  rintro _ H3 ⟨rfl,hI3,e3⟩
  have h3:=h2.ext e3 hd
  have D4:=o8.trans (e3.mono fun z _ hz=>.inr hz)
  obtain⟨f4,l4,c4,mb4,k1,k2,k3⟩:=h3.read (by omega)
  have hy4:=k3 _ _ hy
  refine vs ?_
  cases mJ:lt y x with
  |false=>
   refine vs ?_
   refine(stop H3 ((bS lt l1 d i1 (d - 1).toNat (d*i1+1)).2+1) h3 (by rw[←apD];exact hI3) D4 ?_).mono ?_
   ·rw[hq,cR,if_neg (by omega)]
    simp only[hy3,mJ]
    rfl
   ·rintro _ H4 ⟨g1,g2,g3⟩
    refine vs ?_
    exact⟨g1,g2,g3⟩
  |true=>
   refine v1 (ae k1) ?_
   refine⟨by omega,?_⟩
   refine v3 (ae k2) anw hy4 ?_
   refine(kg h3 i1 y ⟨i0,il⟩).mono ?_
   rintro _ H4 ⟨_,g5,g6⟩
   refine vs ?_
   have Wr:cR lt d x l1.length l1 AP i1=((cR lt d x (l1.set i1.toNat y).length (l1.set i1.toNat y) (cU AP y i1) (bS lt l1 d i1 (d - 1).toNat (d*i1+1)).1).1,
     (cR lt d x (l1.set i1.toNat y).length (l1.set i1.toNat y) (cU AP y i1) (bS lt l1 d i1 (d - 1).toNat (d*i1+1)).1).2.1,
     (cR lt d x (l1.set i1.toNat y).length (l1.set i1.toNat y) (cU AP y i1) (bS lt l1 d i1 (d - 1).toNat (d*i1+1)).1).2.2+(bS lt l1 d i1 (d - 1).toNat (d*i1+1)).2+1):=by
    rw[M5 lt d x hf (l1.set i1.toNat y).length q _ _ _ (by omega) (by omega) (by rw[anv];omega),hq,cR,if_neg (by omega)]
    simp only[hy3,mJ,if_true]
   refine⟨l1.length - (bS lt l1 d i1 (d - 1).toNat (d*i1+1)).1.toNat,by omega,l1.set i1.toNat y,cU AP y i1,(bS lt l1 d i1 (d - 1).toNat (d*i1+1)).1,k+(bS lt l1 d i1 (d - 1).toNat (d*i1+1)).2+1,rfl,fun z hz=>(qe hz).elim (fun e=>e▸U4 y (anz hy)) (U4 z),by rw[anv],by omega,by rw[anv];omega,by rw[anv];exact ll,g5,?_,
    D4.trans (g6.mono fun z _ hz=>.inl hz),by rw[u1,Wr],by rw[u2,Wr],by rw[u3,Wr];simp only;omega⟩
   have:=ho.aM _ _ _ _ hI3 g6 (fun z hz hs=>hd z hs hz)
   rw[show n+(k+(bS lt l1 d i1 (d - 1).toNat (d*i1+1)).2+1)=n+k+(bS lt l1 d i1 (d - 1).toNat (d*i1+1)).2+1 by omega]
   exact this
end Go.Proofs.YtjlnnljohemifaaGreat
