/- Texts put behind each other. -/
import Derived.Test.YtjlnnljohemifaaGreatK98
import Derived.Test.YtjlnnljohemifaaGreatK13
import Derived.Test.YtjlnnljohemifaaGreatK26
set_option maxRecDepth 100000
set_option maxHeartbeats 8000000
set_option linter.unusedVariables false
namespace Go.Proofs.YtjlnnljohemifaaGreat
open Go Go.Vc
theorem dH:cQ 2:=⟨by omega,by omega⟩
def swp(l:List Int)(i j:Nat):List Int:=(l.set i (l.getD j 0)).set j (l.getD i 0)
theorem fO(l:List Int)(i j:Nat):(swp l i j).length=l.length:=by unfold swp;simp
theorem AZ{l:List Int}{i j:Nat}(hi:i<l.length)(hj:j<l.length)(k:Nat):(swp l i j).getD k 0=if k=j then l.getD i 0 else if k=i then l.getD j 0 else l.getD k 0:=by
 unfold swp
 rw[dt _ _ _ _ (by simpa using hj),dt _ _ _ _ hi]
 by_cases h1:j=k
 ·subst h1;simp
 ·rw[if_neg h1,if_neg (Ne.symm h1)]
  by_cases h2:i=k
  ·subst h2;simp
  ·rw[if_neg h2,if_neg (Ne.symm h2)]
theorem mA{l:List Int}{i j:Nat}(hi:i<l.length)(hj:j<l.length)(k:Nat):(swp l i j)[k]? =if k=j then l[i]? else if k=i then l[j]? else l[k]? :=by
 have hl:=fO l i j
 have hg:=AZ hi hj k
 by_cases hk:k<l.length
 ·rw[ans (by omega)]
  rw[anx,ans (by omega)]at hg
  simp only[Option.getD_some]at hg
  rw[hg]
  have e:∀q,q<l.length→l[q]? =some (l.getD q 0):=fun q hq=>by rw[anx,ans hq];rfl
  split
  ·rw[e i hi]
  ·split
   ·rw[e j hj]
   ·rw[e k hk]
 ·rw[anK (by omega),if_neg (by omega),if_neg (by omega),anK (by omega)]
theorem TS{l:List Int}{i j:Nat}(hi:i<l.length)(hj:j<l.length)(z:Int):z∈swp l i j↔z∈l:=by
 constructor
 ·intro h
  obtain⟨k,hk⟩:=an6 h
  rw[mA hi hj]at hk
  split at hk
  ·exact anz hk
  ·split at hk
   ·exact anz hk
   ·exact anz hk
 ·intro h
  obtain⟨k,hk⟩:=an6 h
  by_cases h1:k=i
  ·subst h1
   refine anz (i:=j) ?_
   rw[mA hi hj,if_pos rfl,hk]
  ·by_cases h2:k=j
   ·subst h2
    refine anz (i:=i) ?_
    rw[mA hi hj]
    by_cases h3:i=k
    ·exact absurd h3.symm h1
    ·rw[if_neg h3,if_pos rfl,hk]
   ·refine anz (i:=k) ?_
    rw[mA hi hj,if_neg h2,if_neg h1,hk]
theorem Lx{l:List Int}{i j m:Nat}(hi:i<m)(hj:j<m)(hm:m≤l.length):(swp l i j).take m=swp (l.take m) i j:=by
 apply aoo
 intro k
 rw[mA (by rw[aoj];omega) (by rw[aoj];omega),an9,mA (by omega) (by omega),an9,an9,an9]
 rw[if_pos hi,if_pos hj]
 by_cases hk:k<m
 ·simp only[if_pos hk]
 ·simp only[if_neg hk,if_neg (show k≠j by omega),if_neg (show k≠i by omega)]
theorem RQ{l:List Int}{i j m:Nat}(hi:i<m)(hj:j<m)(hm:m≤l.length):(swp l i j).drop m=l.drop m:=by
 apply aoo
 intro k
 rw[aob,aob,mA (by omega) (by omega),if_neg (by omega),if_neg (by omega)]
theorem dB.heap{lt:Int→Int→Bool}{l:List Int}{i:Nat}(h:dB lt 2 l i)(hB:∀j,1≤j→j<l.length→pa 2 j=i→lt (l.getD j 0) (l.getD i 0)=false)
  (hD:1≤i→i<l.length→lt (l.getD i 0) (l.getD (pa 2 i) 0)=false):eE lt 2 l:=by
 intro j h1 h2
 by_cases e1:j=i
 ·subst e1;exact hD h1 h2
 ·by_cases e2:pa 2 j=i
  ·rw[e2];exact hB j h1 h2 e2
  ·exact h.1 j h1 h2 e1 e2
theorem WL{lt:Int→Int→Bool}(ho:bv lt){l:List Int}{i:Nat}(hi:1≤i)(hl:i<l.length)(hA:dB lt 2 l i)(hB:∀j,1≤j→j<l.length→pa 2 j=i→lt (l.getD j 0) (l.getD i 0)=false)
  (aO:lt (l.getD i 0) (l.getD (pa 2 i) 0)=true):dB lt 2 (swp l (pa 2 i) i) (pa 2 i)∧∀j,1≤j→j< (swp l (pa 2 i) i).length→pa 2 j=pa 2 i→lt ((swp l (pa 2 i) i).getD j 0) ((swp l (pa 2 i) i).getD (pa 2 i) 0)=false:=by
 have hp:=cG dH hi
 have g:=AZ (l:=l) (i:=pa 2 i) (j:=i) (by omega) hl
 rw[fO]
 have afa:∀j,1≤j→j<l.length→pa 2 j=pa 2 i→j≠i→lt (l.getD j 0) (l.getD i 0)=false:=fun j h1 h2 h3 h4=>by
  have e4:=hA.1 j h1 h2 h4 (by omega)
  rw[h3]at e4
  cases hx:lt (l.getD j 0) (l.getD i 0)with
  |false=>rfl
  |true=>have:=ho.tr _ _ _ hx aO;rw[this]at e4;cases e4
 refine⟨⟨fun j h1 h2 h3 h4=>?_,fun j h1 h2 h3 h4=>?_⟩,fun j h1 h2 h3=>?_⟩
 ·rw[fO]at h2
  have Ws:=cG dH h1
  rw[g,g,if_neg h4]
  by_cases e1:j=i
  ·subst e1;exact absurd rfl h4
  ·rw[if_neg e1,if_neg h3]
   by_cases e2:pa 2 j=i
   ·rw[if_pos e2]
    exact hA.2 j h1 h2 e2 (by omega)
   ·rw[if_neg e2];exact hA.1 j h1 h2 e1 e2
 ·rw[fO]at h2
  have Pz:=cG dH h4
  rw[g,g,if_neg (show pa 2 (pa 2 i)≠i by omega),if_neg (show pa 2 (pa 2 i)≠pa 2 i by omega)]
  have e3:=hA.1 (pa 2 i) h4 (by omega) (by omega) (by omega)
  by_cases e1:j=i
  ·rw[if_pos e1];exact e3
  ·have Ws:=cG dH h1
   rw[if_neg e1,if_neg (by omega)]
   have e4:=hA.1 j h1 h2 e1 (by omega)
   rw[h3]at e4
   exact ho.nt _ _ _ e4 e3
 ·have Ws:=cG dH h1
  rw[g,g,if_neg (show pa 2 i≠i by omega),if_pos rfl]
  by_cases e1:j=i
  ·rw[if_pos e1];exact ho.asym aO
  ·rw[if_neg e1,if_neg (by omega)]
   exact afa j h1 h2 h3 e1
theorem RR{lt:Int→Int→Bool}(ho:bv lt){l:List Int}{i b:Nat}(hb:1≤b)(hl:b<l.length)(hp:pa 2 b=i)(hA:dB lt 2 l i)(rT:∀j,1≤j→j<l.length→pa 2 j=i→lt (l.getD j 0) (l.getD b 0)=false)
  (aO:lt (l.getD b 0) (l.getD i 0)=true):dB lt 2 (swp l i b) b∧lt ((swp l i b).getD b 0) ((swp l i b).getD (pa 2 b) 0)=false:=by
 have Og:=cG dH hb
 have g:=AZ (l:=l) (i:=i) (j:=b) (by omega) hl
 refine⟨⟨fun j h1 h2 h3 h4=>?_,fun j h1 h2 h3 h4=>?_⟩,?_⟩
 ·rw[fO]at h2
  have Ws:=cG dH h1
  rw[g,g,if_neg h3,if_neg h4]
  by_cases e1:j=i
  ·subst e1
   rw[if_pos rfl,if_neg (by omega)]
   exact hA.2 b hb hl hp h1
  ·rw[if_neg e1]
   by_cases e2:pa 2 j=i
   ·rw[if_pos e2];exact rT j h1 h2 e2
   ·rw[if_neg e2];exact hA.1 j h1 h2 e1 e2
 ·rw[fO]at h2
  have Ws:=cG dH h1
  rw[g,g,if_neg (show j≠b by omega),if_neg (show j≠i by omega),if_neg (show pa 2 b≠b by omega),if_pos hp]
  have:=hA.1 j h1 h2 (by omega) (by omega)
  rw[h3]at this
  exact this
 ·rw[g,g,if_pos rfl,hp,if_neg (show i≠b by omega),if_pos rfl]
  exact ho.asym aO
def mB(l at_:List Int):Prop:=∀ (i:Nat) (x:Int),l[i]? =some x→0≤x∧at_[x.toNat]? =some (i:Int)
theorem mB.FG{l at_:List Int}(h:mB l at_){i j:Nat}{x:Int}(hi:l[i]? =some x)(hj:l[j]? =some x):i=j:=by
 have h1:=(h i x hi).2
 have h2:=(h j x hj).2
 rw[h1]at h2
 injection h2 with h2
 omega
def A5(l at_:List Int)(i j:Nat):List Int:=(at_.set (l.getD j 0).toNat i).set (l.getD i 0).toNat j
theorem mB.swp{l at_:List Int}(h:mB l at_){i j:Nat}(hi:i<l.length)(hj:j<l.length)(JT:i≠j):mB (swp l i j) (A5 l at_ i j)∧(A5 l at_ i j).length=at_.length∧∀z:Int,0≤z→z∉l→(A5 l at_ i j)[z.toNat]? =at_[z.toNat]? :=by
 have e:∀q,q<l.length→l[q]? =some (l.getD q 0):=fun q hq=>by rw[anx,ans hq];rfl
 obtain⟨a0,a1⟩:=h i _ (e i hi)
 obtain⟨b0,b1⟩:=h j _ (e j hj)
 have UN:=(anu.1 a1).1
 have U5:=(anu.1 b1).1
 have aP:(l.getD i 0).toNat≠(l.getD j 0).toNat:=fun h0=>by
  rw[h0,b1]at a1
  injection a1 with a1
  omega
 unfold A5
 refine⟨fun k x hk=>?_,by simp,fun z hz hm=>?_⟩
 ·rw[mA hi hj]at hk
  split at hk
  ·rename_i YM
   rw[e i hi]at hk
   injection hk with hk
   subst hk
   rw[anB (by simpa using UN),YM]
   exact⟨a0,rfl⟩
  ·split at hk
   ·rename_i YM Hj
    rw[e j hj]at hk
    injection hk with hk
    subst hk
    rw[anA aP,anB U5,Hj]
    exact⟨b0,rfl⟩
   ·rename_i YM Hj
    obtain⟨c0,c1⟩:=h k x hk
    have n1:(l.getD i 0).toNat≠x.toNat:=fun h0=>by
     rw[h0,c1]at a1;injection a1 with a1;omega
    have n2:(l.getD j 0).toNat≠x.toNat:=fun h0=>by
     rw[h0,c1]at b1;injection b1 with b1;omega
    rw[anA n1,anA n2]
    exact⟨c0,c1⟩
 ·have n1:(l.getD i 0).toNat≠z.toNat:=fun h0=>hm (by rw[show z=l.getD i 0 by omega];exact anz (e i hi))
  have n2:(l.getD j 0).toNat≠z.toNat:=fun h0=>hm (by rw[show z=l.getD j 0 by omega];exact anz (e j hj))
  rw[anA n1,anA n2]
theorem pa2(j:Nat):((pa 2 j:Nat):Int)=if j=0 then 0 else((j:Int) - 1) / 2:=by
 unfold pa
 split
 ·rename_i h;subst h;rfl
 ·omega
end Go.Proofs.YtjlnnljohemifaaGreat

set_option linter.unusedSimpArgs false
namespace Go.Proofs.YtjlnnljohemifaaGreat
open Go Go.Vc
theorem Sl.at_{H:Hp}{v:Value}{n:Nat}{xs:List Value}{fp:Option Nat}(h:Sl H 1 v n xs fp){i:Nat}{x:Value}(hx:xs[i]? =some x):∃b cc lb,v= .slice (some ⟨b,0,none⟩) n cc∧fp=some b∧H.own b=some lb∧lb[i]? =some x∧i<n∧n≤lb.length:=by
 have hi:=(anu.1 hx).1
 obtain⟨hl,hm⟩:=id h
 cases fp with
 |none=>obtain⟨e,_⟩:=hm;omega
 |some f=>
  obtain⟨lb,cc,hv,ho,h1,h2,h3⟩:=hm
  refine⟨f,cc,lb,hv,rfl,ho,?_,by omega,by omega⟩
  rw[←h3,an3 (by omega)]at hx
  exact hx
structure gO(H:Hp)(n c:Nat)(C:Nat→Prop)(rv:Value)(r:Nat)(fp fa:Option Nat)(st:Int)(w:Nw)(l at_:List Int):Prop where
 own:∃av,H.own n=some [ptr c,rv,av]∧Sl H 1 av at_.length (at_.map i64) fa
 cells:ba H c C st w
 jx:∃sv,H.own r=some [ptr n,sv]∧Sl H 1 sv l.length (l.map i64) fp
 nC:¬C n
 rC:¬C r
 rn:r≠n
 xd:∀b,fp=some b→¬C b∧b≠n∧b≠r∧fa≠some b
 Ju:∀b,fa=some b→¬C b∧b≠n∧b≠r
 ll:l.length≤65536
abbrev pv(r:Nat):Value:=.iface 370 (ptr r)
theorem rY{l:List Int}{i:Nat}{x:Int}(h:l[i]? =some x):l.getD i 0=x:=by rw[anx,h];rfl
theorem getD_take{l:List Int}{k m:Nat}(h:k<m):(l.take m).getD k 0=l.getD k 0:=by rw[anx,anx,an3 h]
section
variable {H : Hp} {n c : Nat} {C : Nat → Prop} {rv : Value} {r : Nat} {fp fa : Option Nat} {st : Int} {w : Nw} {l at_ : List Int}
theorem oO(m:gO H n c C rv r fp fa st w l at_):af Tryz.prog gT [ptr r] H fun v H'=>aw (v=i64 l.length∧H=H'):=by
 obtain⟨sv,ho,hs⟩:=m.jx
 obtain⟨a,cc,rfl⟩:=dc.Rp hs.rd
 refine bm DR ?_
 refine v1 (ae ho) ?_
 exact⟨rfl,rfl⟩
theorem FR(m:gO H n c C rv r fp fa st w l at_){i j:Nat}(hi:i<l.length)(hj:j<l.length)(bJ:∀z∈l,cT w.cs z):af Tryz.prog pJ [ptr r,i64 i,i64 j] H fun v H'=>aw (
  v= .bool (aQ w (l.getD i 0) (l.getD j 0))∧gO H' n c C rv r fp fa (min (st+1) 4611686018427387904) w l at_∧ag C H H'):=by
 obtain⟨av,hn,ha⟩:=m.own
 obtain⟨sv,ho,hs⟩:=m.jx
 obtain⟨x,hx⟩:∃x,l[i]? =some x:=⟨_,ans hi⟩
 obtain⟨y,hy⟩:∃y,l[j]? =some y:=⟨_,ans hj⟩
 obtain⟨b,cc,lb,rfl,gu,hb,me,_,_⟩:=Sl.at_ hs (i:=i) (x:=i64 x) (by simp[hx])
 obtain⟨b',WM,Ve,hv,jj,jy,hby,_,_⟩:=Sl.at_ hs (i:=j) (x:=i64 y) (by simp[hy])
 rw[gu]at jj
 injection jj with jj
 subst jj
 rw[hb]at jy
 injection jy with jy
 subst jy
 have oK:=m.ll
 refine bm Ci ?_
 refine v2 (ae ho) (ae hn) ?_
 refine⟨by omega,?_⟩
 refine v5 (ae hb) anw me (ae ho) Int.toNat_natCast ?_
 refine⟨by omega,?_⟩
 refine v4 (ae hb) anw hby Int.toNat_natCast ?_
 have h1:=bJ x (anz hx)
 have h2:=bJ y (anz hy)
 refine(je m.cells x y).mono ?_
 rintro _ H1 ⟨rfl,c1,e1⟩
 refine vs ?_
 have tK:=m.cells.st
 rw[if_pos ⟨h1,h2⟩,show fK st 1=min (st+1) 4611686018427387904 by unfold fK;rw[if_neg (by omega)];split<;>omega]at c1
 refine⟨by rw[rY hx,rY hy,Ct h1 h2];rfl,⟨⟨av,e1.own hn m.nC,ha.ext e1 (fun b hb=>(m.Ju b hb).1)⟩,c1,⟨_,e1.own ho m.rC,hs.ext e1 (fun b hb=>(m.xd b hb).1)⟩,m.nC,m.rC,m.rn,m.xd,m.Ju,m.ll⟩,e1⟩
theorem FS(m:gO H n c C rv r fp fa st w l at_)(u0:mB l at_){i j:Nat}(hi:i<l.length)(hj:j<l.length)(JT:i≠j):af Tryz.prog pL [ptr r,i64 i,i64 j] H fun v H'=>aw (
  v= .tuple [].toArray∧gO H' n c C rv r fp fa st w (swp l i j) (A5 l at_ i j)∧ag (fun z=>fp=some z∨fa=some z) H H'):=by
 obtain⟨av,hn,ha⟩:=m.own
 obtain⟨sv,ho,hs⟩:=m.jx
 obtain⟨x,hx⟩:∃x,l[i]? =some x:=⟨_,ans hi⟩
 obtain⟨y,hy⟩:∃y,l[j]? =some y:=⟨_,ans hj⟩
 obtain⟨b,cc,lb,rfl,rfl,hb,me,_,Dc⟩:=Sl.at_ hs (i:=i) (x:=i64 x) (by simp[hx])
 obtain⟨b',WM,Ve,hv,jj,jy,hby,_,_⟩:=Sl.at_ hs (i:=j) (x:=i64 y) (by simp[hy])
 injection jj with jj
 subst jj
 rw[hb]at jy
 injection jy with jy
 subst jy
 obtain⟨fZ,tG⟩:=u0 i x hx
 obtain⟨Wp,hay⟩:=u0 j y hy
 have UN:=(anu.1 tG).1
 have YI:=(anu.1 hay).1
 obtain⟨f,fc,la,rfl,rfl,hf,TT,_,hla⟩:=Sl.at_ ha (i:=x.toNat) (x:=i64 i) (by simp[tG])
 have oK:=m.ll
 obtain⟨d1,d2,d3,d4⟩:=m.xd b rfl
 obtain⟨g1,g2,g3⟩:=m.Ju f rfl
 have WC:b≠f:=fun e=>d4 (by rw[e])
 refine Gv Ck ⟨rfl,?_⟩
 refine v2 pX.eq_1 (ae ho) ?_
 refine⟨by omega,?_⟩
 refine v5 (ae hb) anw hby (ae ho) Int.toNat_natCast ?_
 refine⟨by omega,?_⟩
 refine v4 (ae hb) anw me Int.toNat_natCast ?_
 refine⟨by omega,?_⟩
 refine v3 hb anw Int.toNat_natCast ?_
 refine⟨by omega,?_⟩
 refine v1 ant ?_
 refine⟨by omega,?_⟩
 simp(disch:=(first|omega| (simp only[Zs]<;>omega)|fail)) only[go_sem, ↓reduceIte,Zv,ah hb,anw,Int.toNat_natCast]
 refine⟨by rw[anv];omega,?_⟩
 refine v1 ant ?_
 have e1:ag (fun z=>z=b) H (H.wr b ((lb.set i (i64 y)).set j (i64 x))):=(ag.refl (fun z=>z=b) _).wr (fun _=>rfl) _
 have ob:(H.wr b ((lb.set i (i64 y)).set j (i64 x))).own b=some ((lb.set i (i64 y)).set j (i64 x)):=ah hb
 have s1:=(hs.tQ hb i (i64 y)).tQ (ah hb) j (i64 x)
 rw[RS]at s1
 generalize H.wr b ((lb.set i (i64 y)).set j (i64 x))=H1 at*
 have PI:=e1.own ho (Ne.symm d3)
 have xM:=e1.own hn (Ne.symm d2)
 have hf1:=e1.own hf (Ne.symm WC)
 have Qp:=ha.ext e1 (fun z hz h=>by injection hz with hz;exact WC (h.symm.trans hz.symm))
 have c1:=m.cells.ext e1 (fun z hz h=>d1 (h▸hz))
 have gi:((lb.set i (i64 y)).set j (i64 x))[i]? =some (i64 y):=by rw[anA (Ne.symm JT),anB (by omega)]
 have gj:((lb.set i (i64 y)).set j (i64 x))[j]? =some (i64 x):=by rw[anB (by rw[anv];omega)]
 refine v4 (ae ho) (ae hn) (ae PI) (ae xM) ?_
 refine⟨by omega,?_⟩
 refine v6 (ae ob) anw gi (ae PI) (ae xM) Int.toNat_natCast ?_
 refine⟨by omega,?_⟩
 refine v4 (ae ob) anw gj Int.toNat_natCast ?_
 refine⟨by omega,?_⟩
 refine v3 hf1 anw ant ?_
 refine⟨by omega,?_⟩
 refine v1 ant ?_
 refine⟨by omega,?_⟩
 simp(disch:=(first|omega| (simp only[Zs]<;>omega)|fail)) only[go_sem, ↓reduceIte,Zv,ah hf1,anw,ant]
 refine⟨by rw[anv];omega,?_⟩
 refine v1 ant ?_
 have e2:ag (fun z=>z=f) H1 (H1.wr f ((la.set y.toNat (i64 i)).set x.toNat (i64 j))):=(ag.refl (fun z=>z=f) _).wr (fun _=>rfl) _
 have s2:=(Qp.tQ hf1 y.toNat (i64 i)).tQ (ah hf1) x.toNat (i64 j)
 rw[RS]at s2
 have ex:=rY hx
 have ey:=rY hy
 refine⟨rfl,⟨⟨_,e2.own xM (Ne.symm g2),?_⟩,c1.ext e2 (fun z hz h=>g1 (h▸hz)),⟨_,e2.own PI (Ne.symm g3),?_⟩,m.nC,m.rC,m.rn,m.xd,m.Ju,by rw[fO];exact m.ll⟩,(e1.mono fun z _ hz=>.inl (by rw[hz])).trans (e2.mono fun z _ hz=>.inr (by rw[hz]))⟩
 ·unfold A5
  rw[ex,ey,anv,anv,aoh,aoh]
  exact s2
 ·have:=s1.ext e2 (fun z hz h=>by injection hz with hz;exact WC (hz.trans h))
  unfold swp
  rw[ex,ey,anv,anv,aoh,aoh]
  exact this
end
structure nH(n c:Nat)(C:Nat→Prop)(rv:Value)(r:Nat)(fp fa:Option Nat)(st:Int)(w:Nw)(l at_:List Int)(mm:Nat)(H H':Hp)(l' mf:List Int)(q:Nat):Prop where
 jx:gO H' n c C rv r fp fa (min (st+q) 4611686018427387904) w l' mf
 ok:mB l' mf
 mem:∀z,z∈l'↔z∈l
 len:l'.length=l.length
 drop:l'.drop mm=l.drop mm
 Ly:mf.length=at_.length
 off:∀z:Int,0≤z→z∉l→mf[z.toNat]? =at_[z.toNat]?
 ext:ag (fun z=>C z∨fp=some z∨fa=some z) H H'
section
variable {H H1 : Hp} {n c : Nat} {C : Nat → Prop} {rv : Value} {r : Nat} {fp fa : Option Nat} {st : Int} {w : Nw} {l at_ l1 Hz : List Int} {mm q : Nat}
theorem nH.refl(m:gO H n c C rv r fp fa st w l at_)(u0:mB l at_)(mm:Nat):nH n c C rv r fp fa st w l at_ mm H H l at_ 0:=
 ⟨by have:=m.cells.st;rw[show min (st+((0:Nat):Int)) 4611686018427387904=st by omega];exact m,u0,fun _=>Iff.rfl,rfl,rfl,rfl,fun _ _ _=>rfl,ag.refl _ _⟩
theorem nH.less(h:nH n c C rv r fp fa st w l at_ mm H H1 l1 Hz q)(bJ:∀z∈l,cT w.cs z){i j:Nat}(hi:i<l.length)(hj:j<l.length):gI Tryz.prog (pv r) "Less" [i64 i,i64 j] H1 fun v H2=>
  v= .bool (aQ w (l1.getD i 0) (l1.getD j 0))∧nH n c C rv r fp fa st w l at_ mm H H2 l1 Hz (q+1):=by
 have hl:=h.len
 refine⟨_,_,pJ,ptr r,rfl,bC (by kernel_rfl),(FR h.jx (by omega) (by omega) (fun z hz=>bJ z ((h.mem z).1 hz))).mono ?_⟩
 rintro v H2 ⟨hv,m2,e2⟩
 refine⟨hv,?_,h.ok,h.mem,h.len,h.drop,h.Ly,h.off,h.ext.trans (e2.mono fun z _ hz=>.inl hz)⟩
 rw[show min (st+((q+1:Nat):Int)) 4611686018427387904=min (min (st+(q:Int)) 4611686018427387904+1) 4611686018427387904 by omega]
 exact m2
theorem nH.swap(h:nH n c C rv r fp fa st w l at_ mm H H1 l1 Hz q)(hm:mm≤l.length){i j:Nat}(hi:i<mm)(hj:j<mm)(JT:i≠j):gI Tryz.prog (pv r) "Swap" [i64 i,i64 j] H1 fun v H2=>
  v= .tuple [].toArray∧nH n c C rv r fp fa st w l at_ mm H H2 (swp l1 i j) (A5 l1 Hz i j) q:=by
 have hl:=h.len
 refine⟨_,_,pL,ptr r,rfl,bC (by kernel_rfl),(FS h.jx h.ok (i:=i) (j:=j) (by omega) (by omega) JT).mono ?_⟩
 rintro v H2 ⟨hv,m2,e2⟩
 obtain⟨a1,a2,a3⟩:=h.ok.swp (i:=i) (j:=j) (by omega) (by omega) JT
 refine⟨hv,m2,a1,fun z=>by rw[TS (by omega) (by omega),h.mem z],by rw[fO];exact h.len,by rw[RQ hi hj (by omega)];exact h.drop,a2.trans h.Ly,fun z hz hm=>?_,h.ext.trans (e2.mono fun z _ hz=>.inr hz)⟩
 rw[a3 z hz (fun h2=>hm ((h.mem z).1 h2))]
 exact h.off z hz hm
theorem rZ(m:gO H n c C rv r fp fa st w l at_)(u0:mB l at_){j mm:Nat}(hj:j<mm)(hm:mm≤l.length)(bJ:∀z∈l,cT w.cs z)(hA:dB (aQ w) 2 (l.take mm) j)
  (hB:∀k,1≤k→k< (l.take mm).length→pa 2 k=j→aQ w ((l.take mm).getD k 0) ((l.take mm).getD j 0)=false):
  af Tryz.prog vZ [pv r,i64 j] H fun v H'=>aw (v= .tuple [].toArray∧∃ (l' mf:List Int) (q:Nat),nH n c C rv r fp fa st w l at_ mm H H' l' mf q∧eE (aQ w) 2 (l'.take mm)∧q≤kX 2 j∧(1≤j→0<q)):=by
 have ho:=ar w
 have oK:=m.ll
 refine bm wX ?_
 refine vs ?_
 refine bk.intro (fun k env H'=>∃ (j':Nat) (l1 Hz:List Int) (q:Nat),env=[(0,pv r),(1,i64 j')]∧k=j'∧j'<mm∧nH n c C rv r fp fa st w l at_ mm H H' l1 Hz q∧dB (aQ w) 2 (l1.take mm) j'∧
   (∀k,1≤k→k< (l1.take mm).length→pa 2 k=j'→aQ w ((l1.take mm).getD k 0) ((l1.take mm).getD j' 0)=false)∧q+kX 2 j'≤kX 2 j∧(j'≠j→0<q)) j
  ⟨j,l,at_,0,rfl,rfl,hj,nH.refl m u0 mm,hA,hB,by omega,fun h=>absurd rfl h⟩ ?_
 clear hA hB
 rintro j' env H1 ⟨_,l1,Hz,q,rfl,rfl,hj',h1,hA,hB,hq,Vb⟩
 have sE:=h1.len
 have sL:=pa2 j'
 have afc:IntKind.i64.wrap ((IntKind.i64.wrap ((j':Int) - 1)).tdiv 2)=((pa 2 j':Nat):Int):=by
  rw[wrap64 (n:=(j':Int) - 1) (by omega) (by omega),sL]
  split
  ·rename_i h;subst h;rfl
  ·rw[Int.tdiv_eq_ediv_of_nonneg (by omega),wrap64 (by omega) (by omega)]
 simp(disch:=(first|omega| (simp only[Zs]<;>omega)|fail)) only[go_sem, ↓reduceIte,Zv,if_neg (show¬ ((2:Int)=0) by decide)]
 rw[afc]
 have Mc:(l1.take mm).length=mm:=by rw[aoj];omega
 by_cases h0:j'=0
 ·refine am.cF (anI (by rw[sL,if_pos h0,h0];rfl)) ?_
  refine vs ?_
  exact⟨rfl,l1,Hz,q,h1,hA.heap hB (fun h=>by omega),by omega,fun h=>Vb (by omega)⟩
 ·have NS:=cG dH (j:=j') (by omega)
  refine am.aW (anV (by omega)) ?_
  refine vs ?_
  refine gI.mono (h1.less bJ (i:=j') (j:=pa 2 j') (by omega) (by omega)) ?_
  rintro _ H2 ⟨rfl,h2⟩
  have EO:kX 2 (j':Int)=kX 2 ((pa 2 j':Nat):Int)+1:=by
   obtain⟨p,hp,Qt,p0,p1⟩:=nA dH (i:=(j':Int)) (by omega)
   rw[Int.toNat_natCast]at Qt
   rw[qf hp,show p=((pa 2 j':Nat):Int) by omega]
  refine vs ?_
  cases aO:aQ w (l1.getD j' 0) (l1.getD (pa 2 j') 0)with
  |false=>
   refine vs ?_
   refine⟨rfl,l1,Hz,q+1,h2,hA.heap hB (fun _ _=>?_),by omega,fun _=>by omega⟩
   rw[getD_take hj',getD_take (by omega)]
   exact aO
  |true=>
   refine vs ?_
   refine gI.mono (h2.swap hm (i:=pa 2 j') (j:=j') (by omega) hj' (by omega)) ?_
   rintro _ H3 ⟨rfl,h3⟩
   refine vs ?_
   obtain⟨g1,g2⟩:=WL ho (l:=l1.take mm) (i:=j') (by omega) (by omega) hA hB (by rw[getD_take hj',getD_take (by omega)];exact aO)
   have ht:(swp l1 (pa 2 j') j').take mm=swp (l1.take mm) (pa 2 j') j':=Lx (by omega) hj' (by omega)
   exact⟨pa 2 j',by omega,pa 2 j',_,_,q+1,rfl,rfl,by omega,h3,by rw[ht];exact g1,by rw[ht];exact g2,by omega,fun _=>by omega⟩
theorem uM(m:gO H n c C rv r fp fa st w l at_)(u0:mB l at_){i0 mm:Nat}(hi:i0<mm)(hm:mm≤l.length)(bJ:∀z∈l,cT w.cs z)(hA:dB (aQ w) 2 (l.take mm) i0):
  af Tryz.prog sX [pv r,i64 i0,i64 mm] H fun v H'=>aw (∃ (b:Bool) (l' mf:List Int) (q:Nat),v= .bool b∧nH n c C rv r fp fa st w l at_ mm H H' l' mf q∧q+2*kX 2 i0≤2*kX 2 ((mm:Int) - 1)∧
   (b=true→eE (aQ w) 2 (l'.take mm))∧(b=false→l'=l∧mf=at_∧∀k,1≤k→k< (l.take mm).length→pa 2 k=i0→aQ w ((l.take mm).getD k 0) ((l.take mm).getD i0 0)=false)):=by
 have ho:=ar w
 have oK:=m.ll
 refine Gv tw ⟨rfl,?_⟩
 refine v1 jO.eq_1 ?_
 have FH:∀k:Nat,k<mm→kX 2 (k:Int)≤kX 2 ((mm:Int) - 1):=fun k hk=>kY dH ((mm:Int) - 1).toNat _ _ (anG _) (by omega)
 refine bk.intro (fun k env H'=>∃ (i:Nat) (l1 Hz:List Int) (q:Nat),env=[(0,pv r),(1,i64 i0),(2,i64 mm),(7,i64 i)]∧k=mm - i∧i<mm∧i0≤i∧nH n c C rv r fp fa st w l at_ mm H H' l1 Hz q∧dB (aQ w) 2 (l1.take mm) i∧
   q+2*kX 2 i0≤2*kX 2 i∧(i0<i→aQ w ((l1.take mm).getD i 0) ((l1.take mm).getD (pa 2 i) 0)=false)∧(i=i0→l1=l∧Hz=at_)) (mm - i0)
  ⟨i0,l,at_,0,rfl,rfl,hi,anG _,nH.refl m u0 mm,hA,by omega,fun h=>by omega,fun _=>⟨rfl,rfl⟩⟩ ?_
 clear hA
 rintro k env H1 ⟨i,l1,Hz,q,rfl,rfl,him,FC,h1,hA,hq,hD,Ia⟩
 have sE:=h1.len
 have Mc:(l1.take mm).length=mm:=by rw[aoj];omega
 have stay:∀ (H2:Hp) (q':Nat),nH n c C rv r fp fa st w l at_ mm H H2 l1 Hz q'→q'+2*kX 2 i0≤2*kX 2 ((mm:Int) - 1)→(∀k,1≤k→k< (l1.take mm).length→pa 2 k=i→aQ w ((l1.take mm).getD k 0) ((l1.take mm).getD i 0)=false)→
   ∃ (b:Bool) (l' mf:List Int) (q:Nat),Value.bool (decide ((i:Int)>i0))= .bool b∧nH n c C rv r fp fa st w l at_ mm H H2 l' mf q∧q+2*kX 2 i0≤2*kX 2 ((mm:Int) - 1)∧
    (b=true→eE (aQ w) 2 (l'.take mm))∧(b=false→l'=l∧mf=at_∧∀k,1≤k→k< (l.take mm).length→pa 2 k=i0→aQ w ((l.take mm).getD k 0) ((l.take mm).getD i0 0)=false):=by
  intro H2 q' h2 hq' hB
  refine⟨_,l1,Hz,q',rfl,h2,hq',fun h=>?_,fun h=>?_⟩
  ·have:=of_decide_eq_true h
   exact hA.heap hB (fun _ _=>hD (by omega))
  ·have:=of_decide_eq_false h
   have e:i=i0:=by omega
   obtain⟨e1,e2⟩:=Ia e
   subst e1 e2 e
   exact⟨rfl,rfl,hB⟩
 have PC:∀k:Nat,1≤k→(pa 2 k=i↔(2*i+1≤k∧k≤2*i+2)):=fun k hk=>by
  have:=Rs dH (i:=i) hk
  rw[this]
  omega
 refine vs ?_
 have hj1:IntKind.i64.wrap (IntKind.i64.wrap (2*(i:Int))+1)=((2*i+1:Nat):Int):=by
  rw[wrap64 (n:=2*(i:Int)) (by omega) (by omega),wrap64 (by omega) (by omega)];omega
 rw[hj1]
 refine am.dec (fun OP=>?_) (fun OP=>?_)
 ·refine vs ?_
  exact stay H1 q h1 (by have:=FH i him;omega) (fun k h2 h3 h4=>by have:=(PC k h2).1 h4;omega)
 refine vs ?_
 refine am.aW (anV (by omega)) ?_
 refine vs ?_
 have xF:2*i+1<mm:=by omega
 refine MJ (fun e H2=>e.find 0=some (pv r)∧e.find 1=some (i64 i0)∧e.find 2=some (i64 mm)∧e.find 7=some (i64 i)∧∃ (b:Nat) (q':Nat),e.find 9=some (i64 b)∧nH n c C rv r fp fa st w l at_ mm H H2 l1 Hz q'∧q'≤q+1∧1≤b∧b<mm∧pa 2 b=i∧
   ∀k,1≤k→k< (l1.take mm).length→pa 2 k=i→aQ w ((l1.take mm).getD k 0) ((l1.take mm).getD b 0)=false) ?_ ?_
 ·have DN:pa 2 (2*i+1)=i:=(PC _ (by omega)).2 ⟨by omega,by omega⟩
  refine vs ?_
  have gD:IntKind.i64.wrap (((2*i+1:Nat):Int)+1)=((2*i+2:Nat):Int):=by rw[wrap64 (by omega) (by omega)];omega
  rw[gD]
  refine am.dec (fun h2=>?_) (fun h2=>?_)
  ·have sL:pa 2 (2*i+2)=i:=(PC _ (by omega)).2 ⟨by omega,by omega⟩
   refine vs ?_
   refine gI.mono (h1.less bJ (i:=2*i+2) (j:=2*i+1) (by omega) (by omega)) ?_
   rintro _ H2 ⟨rfl,g2⟩
   refine vs ?_
   cases aO:aQ w (l1.getD (2*i+2) 0) (l1.getD (2*i+1) 0)with
   |false=>
    refine vs ?_
    refine⟨trivial,trivial,trivial,trivial,2*i+1,q+1,rfl,g2,by omega,by omega,xF,DN,fun k h3 h4 h5=>?_⟩
    have h6:=(PC k h3).1 h5
    rw[getD_take (by omega),getD_take (by omega)]
    by_cases h7:k=2*i+1
    ·rw[h7];exact ho.vk _
    ·rw[show k=2*i+2 by omega];exact aO
   |true=>
    refine vs ?_
    refine⟨trivial,trivial,trivial,trivial,2*i+2,q+1,rfl,g2,by omega,by omega,by omega,sL,fun k h3 h4 h5=>?_⟩
    have h6:=(PC k h3).1 h5
    rw[getD_take (by omega),getD_take (by omega)]
    by_cases h7:k=2*i+2
    ·rw[h7];exact ho.vk _
    ·rw[show k=2*i+1 by omega];exact ho.asym aO
  ·refine vs ?_
   refine⟨trivial,trivial,trivial,trivial,2*i+1,q,rfl,h1,by omega,by omega,xF,DN,fun k h3 h4 h5=>?_⟩
   have h6:=(PC k h3).1 h5
   rw[show k=2*i+1 by omega]
   exact ho.vk _
 rintro e H2 ⟨e0,e1,e2,e7,b,q',e9,h2,hq',Py,EN,Og,rT⟩
 refine v5 e0 e1 e2 e7 e9 ?_
 refine gI.mono (h2.less bJ (i:=b) (j:=i) (by omega) (by omega)) ?_
 rintro _ H3 ⟨rfl,h3⟩
 have EO:kX 2 (b:Int)=kX 2 (i:Int)+1:=by
  obtain⟨p,hp,Qt,p0,p1⟩:=nA dH (i:=(b:Int)) (by omega)
  rw[Int.toNat_natCast,Og]at Qt
  rw[qf hp,show p=(i:Int) by omega]
 have hib:=cG dH Py
 refine v5 e0 e1 e2 e7 e9 ?_
 cases aO:aQ w (l1.getD b 0) (l1.getD i 0)with
 |false=>
  refine v5 e0 e1 e2 e7 e9 ?_
  refine stay H3 (q'+1) h3 (by have:=FH b EN;omega) (fun k h4 h5 h6=>?_)
  have h7:=rT k h4 h5 h6
  have h8:aQ w ((l1.take mm).getD b 0) ((l1.take mm).getD i 0)=false:=by rw[getD_take EN,getD_take him];exact aO
  exact ho.nt _ _ _ h7 h8
 |true=>
  refine v5 e0 e1 e2 e7 e9 ?_
  refine gI.mono (h3.swap hm (i:=i) (j:=b) him EN (by omega)) ?_
  rintro _ H4 ⟨rfl,h4⟩
  refine v5 e0 e1 e2 e7 e9 ?_
  obtain⟨g1,g2⟩:=RR ho (l:=l1.take mm) (i:=i) (b:=b) Py (by omega) Og hA rT (by rw[getD_take EN,getD_take him];exact aO)
  have ht:(swp l1 i b).take mm=swp (l1.take mm) i b:=Lx him EN (by omega)
  exact⟨mm - b,by omega,b,_,_,q'+1,rfl,rfl,EN,by omega,h4,by rw[ht];exact g1,by omega,fun _=>by rw[ht];exact g2,fun h=>by omega⟩
end
end Go.Proofs.YtjlnnljohemifaaGreat

namespace Go.Proofs.YtjlnnljohemifaaGreat
open Go Go.Vc
section
variable {H : Hp} {n c : Nat} {C : Nat → Prop} {rv : Value} {r : Nat} {fp fa : Option Nat} {st : Int} {w : Nw} {l at_ : List Int}
theorem FT(m:gO H n c C rv r fp fa st w l at_)(hl:l.length<65536){x:Int}(hx:0≤x∧x.toNat<at_.length):af Tryz.prog pK [ptr r,.iface 3 (i64 x)] H fun v H'=>aw (
  v= .tuple [].toArray∧∃cO,gO H' n c C rv r cO fa st w (l++[x]) (at_.set x.toNat l.length)∧ag (fun z=>fp=some z∨fa=some z∨z=r) H H'∧(cO=fp∨∃z,cO=some z∧H.size≤z)):=by
 obtain⟨av,hn,ha⟩:=m.own
 obtain⟨sv,ho,hs⟩:=m.jx
 obtain⟨y,hy⟩:∃y,at_[x.toNat]? =some y:=⟨_,ans hx.2⟩
 obtain⟨f,fc,la,rfl,rfl,hf,TT,_,hla⟩:=Sl.at_ ha (i:=x.toNat) (x:=i64 y) (by simp[hy])
 obtain⟨g1,g2,g3⟩:=m.Ju f rfl
 obtain⟨sa,sc,xJ⟩:=dc.Rp hs.rd
 refine bm Cj ?_
 refine vs ?_
 refine v3 (ae ho) (ae hn) xJ ?_
 refine⟨by omega,?_⟩
 refine v3 hf anw ant ?_
 refine⟨by omega,?_⟩
 refine v1 ant ?_
 have e1:ag (fun z=>z=f) H (H.wr f (la.set x.toNat (i64 l.length))):=(ag.refl (fun z=>z=f) _).wr (fun _=>rfl) _
 have s1:=ha.tQ hf x.toNat (i64 l.length)
 have xM:=e1.own hn (Ne.symm g2)
 have PI:=e1.own ho (Ne.symm g3)
 have eM:=hs.ext e1 (fun z hz h=>(m.xd z hz).2.2.2 (by rw[h]))
 have c1:=m.cells.ext e1 (fun z hz h=>g1 (h▸hz))
 generalize H.wr f (la.set x.toNat (i64 l.length))=H1 at*
 have e2:ag (fun _=>False) H1 (H1.new 3 [i64 x]):=(ag.refl _ _).new _ _
 refine v1 (ae ho) ?_
 refine Sl.append (eM.ext e2 (fun _ _ h=>h)) (Sl.cf (size:=1) (xs:=[i64 x]) rfl rfl).rd rfl (by intro v hv;simp only[anC]at hv;subst hv;rfl) (by omega) ?_
 intro Vi H3 cO s3 e3 gu
 have z1:=e1.size
 have hrs:=aA PI
 have WI:=aA xM
 have Gy:ag (fun z=>fp=some z) H1 H3:=(e2.mono fun _ _ h=>h.elim).oJ e3 (fun z _ h=>h)
 have Md:=Gy.own PI (fun h=>(m.xd r h).2.2.1 rfl)
 have hn3:=Gy.own xM (fun h=>(m.xd n h).2.1 rfl)
 obtain⟨a',WM,NU⟩:=dc.Rp s3.rd
 subst NU
 refine v1 Md ?_
 generalize NU:Value.slice a' (l.length+1) WM=v' at*
 have e4:ag (fun z=>z=r) H3 (H3.wr r [ptr n,v']):=(ag.refl (fun z=>z=r) _).wr (fun _=>rfl) _
 have hfs:=aA hf
 have Ei:∀b,cO=some b→fp=some b∨H1.size≤b:=fun b hb=>by
  rcases gu with h| ⟨z,h,h5,_⟩
  ·exact .inl (h▸hb)
  ·rw[h]at hb;injection hb with hb;subst hb;rw[aq]at h5;exact .inr (by omega)
 have xE:=c1.slt
 refine⟨rfl,cO,⟨⟨_,e4.own hn3 (Ne.symm m.rn),?_⟩,(c1.ext Gy (fun z hz h=>(m.xd z h).1 hz)).ext e4 (fun z hz h=>m.rC (h▸hz)),⟨_,ah Md,?_⟩,m.nC,m.rC,m.rn,fun b hb=>?_,m.Ju,by rw[anD,anM];omega⟩,
  (e1.mono fun z _ hz=>.inr (.inl (by rw[hz]))).trans ((Gy.mono fun z _ hz=>.inl hz).trans (e4.mono fun z _ hz=>.inr (.inr hz))),?_⟩
 ·have:=((s1.ext Gy (fun z hz h=>(m.xd z h).2.2.2 hz)).ext e4 (fun z hz h=>by injection hz with hz;exact g3 (hz.trans h)))
  rw[anv,aoh]
  exact this
 ·have:=s3.ext e4 (fun b hb h=>by
   rcases Ei b hb with h5|h5
   ·exact(m.xd b h5).2.2.1 h
   ·omega)
  rw[anD,an8]
  exact this
 ·rcases Ei b hb with h5|h5
  ·exact m.xd b h5
  ·refine⟨fun h=>?_,by omega,by omega,fun h=>?_⟩
   ·have:=xE b h;omega
   ·injection h with h;omega
 ·rcases gu with h| ⟨z,h,h5,_⟩
  ·exact .inl h
  ·exact .inr ⟨z,h,by rw[aq]at h5;omega⟩
theorem HA(m:gO H n c C rv r fp fa st w l at_)(hl:0<l.length):af Tryz.prog sz [ptr r] H fun v H'=>aw (
  (∃x,v= .iface 3 (i64 x))∧gO H' n c C rv r fp fa st w l.dropLast at_∧ag (fun z=>z=r) H H'):=by
 obtain⟨av,hn,ha⟩:=m.own
 obtain⟨sv,ho,hs⟩:=m.jx
 have oK:=m.ll
 obtain⟨x,hx⟩:∃x,l[l.length - 1]? =some x:=⟨_,ans (by omega)⟩
 obtain⟨f,cc,lb,rfl,rfl,hb,me,_,Dc⟩:=Sl.at_ hs (i:=l.length - 1) (x:=i64 x) (by simp[hx])
 have e1:IntKind.i64.wrap ((l.length:Int) - 1)=((l.length - 1:Nat):Int):=by rw[wrap64 (by omega) (by omega)];omega
 obtain⟨_,l2,c2,Dn,g2,a5,a6,a7⟩:=id hs
 injection Dn with _ _ Dn
 subst Dn
 rw[hb]at g2
 injection g2 with g2
 subst g2
 refine bm DS ?_
 simp(disch:=(first|omega| (simp only[Zs]<;>omega)|fail)) only[go_sem, ↓reduceIte,Zv,ae ho,e1,Int.toNat_natCast]
 refine⟨by omega,?_⟩
 simp(disch:=(first|omega| (simp only[Zs]<;>omega)|fail)) only[go_sem, ↓reduceIte,Zv,ae hb,ae ho,anw,me,e1]
 refine⟨by omega,?_⟩
 have xJ:Value.slice (if(cc:Int)=((0:Nat):Int)then some (⟨f,0,none⟩:Addr)else Option.map (fun(x:Addr)=>x.add (((0:Nat):Int).toNat*1)) (some (⟨f,0,none⟩:Addr))) (((l.length - 1:Nat):Int).toNat - ((0:Nat):Int).toNat) ((cc:Int).toNat - ((0:Nat):Int).toNat)= .slice (some ⟨f,0,none⟩) (l.length - 1) cc:=by
  split<;>rfl
 refine v2 (ae ho) ho ?_
 rw[xJ]
 have ew:ag (fun z=>z=r) H (H.wr r [ptr n,.slice (some ⟨f,0,none⟩) (l.length - 1) cc]):=(ag.refl (fun z=>z=r) _).wr (fun _=>rfl) _
 obtain⟨d1,d2,d3,d4⟩:=m.xd f rfl
 refine⟨⟨_,rfl⟩,⟨⟨_,ew.own hn (Ne.symm m.rn),ha.ext ew (fun z hz h=>(m.Ju z hz).2.2 h)⟩,m.cells.ext ew (fun z hz h=>m.rC (h▸hz)),⟨_,ah ho,?_⟩,m.nC,m.rC,m.rn,m.xd,m.Ju,by rw[an7];omega⟩,ew⟩
 refine⟨by simp,lb,cc,by rw[an7],ew.own hb d3,by rw[an7];omega,a6,?_⟩
 have hx7:((l.map i64).length)=l.length:=by simp
 rw[an7,List.map_dropLast,ao0,hx7,←a7,apu]
 congr 1
 omega
theorem FU(m:gO H n c C rv r fp fa st w l at_)(u0:mB l at_)(hl:l.length<65536){x:Int}(hx:0≤x∧x.toNat<at_.length)(my:x∉l)(afe:cT w.cs x)(bJ:∀z∈l,cT w.cs z)(hh:eE (aQ w) 2 l):
  af Tryz.prog sW [pv r,.iface 3 (i64 x)] H fun v H'=>aw (v= .tuple [].toArray∧∃ (cO:Option Nat) (l' mf:List Int) (q:Nat),gO H' n c C rv r cO fa (min (st+q) 4611686018427387904) w l' mf∧mB l' mf∧eE (aQ w) 2 l'∧(∀z,z∈l'↔z=x∨z∈l)∧l'.length=l.length+1∧
   mf.length=at_.length∧(∀z:Int,0≤z→z≠x→z∉l→mf[z.toNat]? =at_[z.toNat]?)∧q≤kX 2 l.length∧(0<l.length→0<q)∧ag (fun z=>C z∨fp=some z∨fa=some z∨z=r) H H'∧(cO=fp∨∃z,cO=some z∧H.size≤z)):=by
 refine bm tu ?_
 refine vs ?_
 refine gI.mono (K:=fun v H'=>v= .tuple [].toArray∧∃cO,gO H' n c C rv r cO fa st w (l++[x]) (at_.set x.toNat l.length)∧ag (fun z=>fp=some z∨fa=some z∨z=r) H H'∧(cO=fp∨∃z,cO=some z∧H.size≤z)) ⟨_,_,pK,ptr r,rfl,bC (by kernel_rfl),FT m hl hx⟩ ?_
 rintro _ H1 ⟨rfl,cO,m1,e1,jj⟩
 refine vs ?_
 refine gI.mono (K:=fun v H'=>v=i64 (l++[x]).length∧H1=H') ⟨_,_,gT,ptr r,rfl,bC (by kernel_rfl),oO m1⟩ ?_
 rintro _ _ ⟨rfl,rfl⟩
 refine vs ?_
 have aX:(l++[x]).length=l.length+1:=by simp
 rw[show IntKind.i64.wrap (((l++[x]).length:Int) - 1)=((l.length:Nat):Int) by rw[aX,wrap64 (by omega) (by omega)];omega]
 have aff:mB (l++[x]) (at_.set x.toNat l.length):=fun i z hz=>by
  rcases aoU i l.length with h|h|h
  ·rw[anJ h]at hz
   obtain⟨a,b⟩:=u0 i z hz
   have aP:x.toNat≠z.toNat:=fun e=>my (by rw[show x=z by omega];exact anz hz)
   rw[anA aP]
   exact⟨a,b⟩
  ·subst h
   rw[anX (anG _),aoI]at hz
   simp only[anY,anE]at hz
   subst hz
   rw[anB hx.2]
   exact⟨hx.1,rfl⟩
  ·rw[anK (by omega)]at hz;cases hz
 have ht:(l++[x]).take (l++[x]).length=l++[x]:=an4
 have OP:∀k,k<l.length→(l++[x]).getD k 0=l.getD k 0:=fun k hk=>by rw[anx,anJ hk,anx]
 have NS:∀k:Nat,1≤k→k<l.length+1→pa 2 k≠l.length:=fun k h1 h2=>by have:=cG dH h1;omega
 refine(rZ m1 aff (j:=l.length) (mm:=(l++[x]).length) (by omega) (anG _) (fun z hz=>?_) (by
  rw[ht]
  refine⟨fun k h1 h2 h3 h4=>?_,fun k h1 h2 h3 h4=>absurd h3 (NS k h1 (by omega))⟩
  have:=cG dH h1
  rw[OP k (by omega),OP _ (by omega)]
  exact hh k h1 (by omega)) (fun k h1 h2 h3=>absurd h3 (NS k h1 (by rw[ht]at h2;omega)))).mono ?_
 ·rcases anH.1 hz with h|h
  ·exact bJ z h
  ·rw[anC]at h;rw[h];exact afe
 rintro _ H2 ⟨rfl,l',mf,q,g,iB,hq,Vb⟩
 have Ez:=g.len
 rw[←Ez,an4]at iB
 refine vs ?_
 refine⟨rfl,cO,l',mf,q,g.jx,g.ok,iB,fun z=>?_,by omega,by rw[g.Ly,anv],fun z hz h1 h2=>?_,hq,fun h=>Vb (by omega),(e1.mono fun z _ hz=>.inr hz).oJ g.ext (fun z hzl hz=>?_),jj⟩
 ·rw[g.mem z,anH,anC]
  exact Or.comm
 ·rw[g.off z hz (fun h=>by rcases anH.1 h with h|h;exact h2 h;exact h1 (anC.1 h)),anA (by omega)]
 ·rcases hz with hz|hz|hz
  ·exact .inl hz
  ·rcases jj with h| ⟨y,h,h5⟩
   ·exact .inr (.inl (h▸hz))
   ·rw[h]at hz;injection hz with hz;omega
  ·exact .inr (.inr (.inl hz))
theorem HB(m:gO H n c C rv r fp fa st w l at_)(u0:mB l at_){i:Nat}(hi:i<l.length)(bJ:∀z∈l,cT w.cs z)(hA:dB (aQ w) 2 l i):
  af Tryz.prog ud [pv r,i64 i] H fun v H'=>aw (v= .tuple [].toArray∧∃ (l' mf:List Int) (q:Nat),nH n c C rv r fp fa st w l at_ l.length H H' l' mf q∧eE (aQ w) 2 l'∧q≤2*kX 2 ((l.length:Int) - 1)):=by
 have oK:=m.ll
 have ht:l.take l.length=l:=an4
 refine bm uw ?_
 refine vs ?_
 refine gI.mono (K:=fun v H'=>v=i64 l.length∧H=H') ⟨_,_,gT,ptr r,rfl,bC (by kernel_rfl),oO m⟩ ?_
 rintro _ _ ⟨rfl,rfl⟩
 refine vs ?_
 refine(uM m u0 hi (anG _) bJ (by rw[ht];exact hA)).mono ?_
 rintro _ H1 ⟨b,l1,Hz,q1,rfl,g1,Qu,hT,hF⟩
 have sE:=g1.len
 cases b with
 |true=>
  have h:=hT rfl
  rw[←sE,an4]at h
  refine vs ?_
  exact⟨rfl,l1,Hz,q1,g1,h,by omega⟩
 |false=>
  obtain⟨e1,e2,hB⟩:=hF rfl
  subst e1 e2
  refine vs ?_
  have hm:=(kY dH ((l1.length:Int) - 1).toNat (i:Int) ((l1.length:Int) - 1) (anG _) (by omega))
  refine(rZ g1.jx g1.ok (j:=i) (mm:=l1.length) hi (anG _) bJ (by rw[ht];exact hA) hB).mono ?_
  rintro _ H2 ⟨rfl,l2,YN,q2,g2,iB,hq2,_⟩
  have rU:=g2.len
  rw[←rU,an4]at iB
  refine vs ?_
  refine⟨rfl,l2,YN,q1+q2,⟨?_,g2.ok,g2.mem,g2.len,g2.drop,g2.Ly,g2.off,g1.ext.trans g2.ext⟩,iB,by omega⟩
  rw[show min (st+((q1+q2:Nat):Int)) 4611686018427387904=min (min (st+(q1:Int)) 4611686018427387904+(q2:Int)) 4611686018427387904 by omega]
  exact g2.jx
end
end Go.Proofs.YtjlnnljohemifaaGreat

namespace Go.Proofs.YtjlnnljohemifaaGreat
open Go Go.Vc
theorem eE.Jv{lt lt':Int→Int→Bool}{l:List Int}(h:eE lt 2 l)(hfg:∀z∈l,∀y∈l,lt z y=lt' z y):eE lt' 2 l:=by
 intro j h1 h2
 have hp:=cG dH h1
 have e:∀k,k<l.length→l.getD k 0∈l:=fun k hk=>by
  rw[anx,ans hk];exact List.getElem_mem hk
 rw[←hfg _ (e j h2) _ (e _ (show pa 2 j<l.length by omega))]
 exact h j h1 h2
theorem Jw{l at_:List Int}(h:mB l at_){x:Int}(hx:l[l.length - 1]? =some x)(z:Int):z∈l.dropLast↔z∈l∧z≠x:=by
 have hl:=(anu.1 hx).1
 rw[ao0]
 constructor
 ·intro hz
  obtain⟨k,hk⟩:=an6 hz
  rw[an9]at hk
  split at hk
  ·refine⟨anz hk,fun e=>?_⟩
   subst e
   have:=h.FG hk hx
   omega
  ·cases hk
 ·rintro⟨hz,aP⟩
  obtain⟨k,hk⟩:=an6 hz
  have YO:=(anu.1 hk).1
  have:k≠l.length - 1:=fun e=>by rw[e,hx]at hk;injection hk with hk;exact aP hk.symm
  exact anz (i:=k) (by rw[an3 (by omega)];exact hk)
theorem mB.dropLast{l at_:List Int}(h:mB l at_):mB l.dropLast at_:=fun i x hx=>by
 rw[ao0,an9]at hx
 split at hx
 ·exact h i x hx
 ·cases hx
section
variable {H : Hp} {n c : Nat} {C : Nat → Prop} {rv : Value} {r : Nat} {fp fa : Option Nat} {st : Int} {w : Nw} {l at_ : List Int}
structure Out(n c:Nat)(C:Nat→Prop)(rv:Value)(r:Nat)(fp fa:Option Nat)(st:Int)(w:Nw)(l at_:List Int)(x:Int)(H H':Hp)(l' mf:List Int)(q:Nat):Prop where
 jx:gO H' n c C rv r fp fa (min (st+q) 4611686018427387904) w l' mf
 ok:mB l' mf
 heap:eE (aQ w) 2 l'
 mem:∀z,z∈l'↔z∈l∧z≠x
 len:l'.length+1=l.length
 Ly:mf.length=at_.length
 off:∀z:Int,0≤z→z∉l→mf[z.toNat]? =at_[z.toNat]?
 ext:ag (fun z=>C z∨fp=some z∨fa=some z∨z=r) H H'
theorem Oq{H1:Hp}{l1 Hz:List Int}{mm q:Nat}{x:Int}(h:nH n c C rv r fp fa st w l at_ mm H H1 l1 Hz q)(hl:0<l.length)(hx:l1[l1.length - 1]? =some x)(hh:eE (aQ w) 2 (l1.take (l.length - 1))):
  gI Tryz.prog (pv r) "Pop" [] H1 fun v H'=>∃l' mf,Out n c C rv r fp fa st w l at_ x H H' l' mf q:=by
 have aX:=h.len
 refine⟨_,_,sz,ptr r,rfl,bC (by kernel_rfl),(HA h.jx (by omega)).mono ?_⟩
 rintro v H2 ⟨_,m2,e2⟩
 refine⟨l1.dropLast,Hz,m2,h.ok.dropLast,?_,fun z=>by rw[Jw h.ok hx z,h.mem z],by rw[an7];omega,h.Ly,h.off,(h.ext.mono fun z _ hz=>?_).trans (e2.mono fun z _ hz=>.inr (.inr (.inr hz)))⟩
 ·rw[ao0,aX];exact hh
 ·rcases hz with hz|hz|hz
  ·exact .inl hz
  ·exact .inr (.inl hz)
  ·exact .inr (.inr (.inl hz))
theorem CE(m:gO H n c C rv r fp fa st w l at_)(u0:mB l at_){i:Nat}(hi:i<l.length)(bJ:∀z∈l,cT w.cs z)(hh:eE (aQ w) 2 l):
  af Tryz.prog pI [pv r,i64 i] H fun v H'=>aw (∃ (l' mf:List Int) (q:Nat),Out n c C rv r fp fa st w l at_ (l.getD i 0) H H' l' mf q∧q≤2*kX 2 ((l.length:Int) - 1)):=by
 have oK:=m.ll
 refine bm pW ?_
 refine vs ?_
 refine gI.mono (K:=fun v H'=>v=i64 l.length∧H=H') ⟨_,_,gT,ptr r,rfl,bC (by kernel_rfl),oO m⟩ ?_
 rintro _ _ ⟨rfl,rfl⟩
 refine vs ?_
 rw[show IntKind.i64.wrap ((l.length:Int) - 1)=((l.length - 1:Nat):Int) by rw[wrap64 (by omega) (by omega)];omega]
 have h0:=nH.refl m u0 l.length
 have hgi:l[i]? =some (l.getD i 0):=by rw[anx,ans hi];rfl
 refine am.dec (fun he=>?_) (fun he=>?_)
 ·refine vs ?_
  have oZ:i=l.length - 1:=by omega
  refine gI.mono (Oq h0 (by omega) (x:=l.getD i 0) (by rw[←oZ];exact hgi) (fun j h1 h2=>by
   rw[aoj]at h2
   have:=cG dH h1
   rw[getD_take (by omega),getD_take (by omega)]
   exact hh j h1 (by omega))) ?_
  rintro v H2 ⟨l',mf,o⟩
  refine vs ?_
  exact⟨l',mf,0,o,by omega⟩
 ·refine vs ?_
  have Eh:i<l.length - 1:=by omega
  refine gI.mono (h0.swap (anG _) (i:=i) (j:=l.length - 1) hi (by omega) (by omega)) ?_
  rintro _ H1 ⟨rfl,h1⟩
  refine vs ?_
  have hg:=AZ (l:=l) (i:=i) (j:=l.length - 1) hi (by omega)
  have sE:=h1.len
  have hA1:dB (aQ w) 2 ((swp l i (l.length - 1)).take (l.length - 1)) i:=by
   have hb:=hh.but (ar w) dH i
   refine⟨fun j h2 h3 h4 h5=>?_,fun j h2 h3 h4 h5=>?_⟩
   ·rw[aoj]at h3
    have:=cG dH h2
    rw[getD_take (by omega),getD_take (by omega),hg,hg,if_neg (by omega),if_neg h4,if_neg (by omega),if_neg h5]
    exact hb.1 j h2 (by omega) h4 h5
   ·rw[aoj]at h3
    have:=cG dH h2
    have:=cG dH h5
    rw[getD_take (by omega),getD_take (by omega),hg,hg,if_neg (by omega),if_neg (by omega),if_neg (by omega),if_neg (by omega)]
    exact hb.2 j h2 (by omega) h4 h5
  have Ng:∀z∈swp l i (l.length - 1),cT w.cs z:=fun z hz=>bJ z ((h1.mem z).1 hz)
  have kU:(swp l i (l.length - 1))[l.length - 1]? =some (l.getD i 0):=by rw[mA hi (by omega),if_pos rfl];exact hgi
  have fin:∀ {H2:Hp} {l2 YN:List Int} {q:Nat},nH n c C rv r fp fa (min (st+((0:Nat):Int)) 4611686018427387904) w (swp l i (l.length - 1)) (A5 l at_ i (l.length - 1)) (l.length - 1) H1 H2 l2 YN q→eE (aQ w) 2 (l2.take (l.length - 1))→
    gI Tryz.prog (pv r) "Pop" [] H2 fun v H'=>∃l' mf,Out n c C rv r fp fa st w l at_ (l.getD i 0) H H' l' mf q:=by
   intro H2 l2 YN q g iB
   have tK:=m.cells.st
   have g':nH n c C rv r fp fa st w l at_ l.length H H2 l2 YN q:=by
    refine⟨?_,g.ok,fun z=>by rw[g.mem z,h1.mem z],g.len.trans sE,?_,g.Ly.trans h1.Ly,fun z hz hm=>?_,h1.ext.trans g.ext⟩
    ·have:=g.jx
     rw[show min (min (st+((0:Nat):Int)) 4611686018427387904+(q:Int)) 4611686018427387904=min (st+(q:Int)) 4611686018427387904 by omega]at this
     exact this
    ·rw[apa (by rw[g.len];omega),apa (anG _)]
    ·rw[g.off z hz (fun h=>hm ((h1.mem z).1 h))];exact h1.off z hz hm
   refine Oq g' (by omega) ?_ iB
   have hd:=g.drop
   have h2:(l2.drop (l.length - 1))[0]? =((swp l i (l.length - 1)).drop (l.length - 1))[0]? :=by rw[hd]
   rw[aob,aob,Nat.add_zero,kU]at h2
   rw[g.len,sE]
   exact h2
  have FH:=kY dH ((l.length:Int) - 1).toNat (((l.length - 1:Nat):Int) - 1) ((l.length:Int) - 1) (anG _) (by omega)
  refine(uM h1.jx h1.ok (i0:=i) (mm:=l.length - 1) Eh (by rw[sE];omega) Ng hA1).mono ?_
  rintro _ H2 ⟨b,l2,YN,q1,rfl,g2,Qu,hT,hF⟩
  cases b with
  |true=>
   refine vs ?_
   refine gI.mono (fin g2 (hT rfl)) ?_
   rintro v H3 ⟨l',mf,o⟩
   refine vs ?_
   exact⟨l',mf,q1,o,by omega⟩
  |false=>
   obtain⟨e1,e2,hB⟩:=hF rfl
   subst e1 e2
   have hmi:=kY dH (((l.length - 1:Nat):Int) - 1).toNat (i:Int) (((l.length - 1:Nat):Int) - 1) (anG _) (by omega)
   refine vs ?_
   refine(rZ g2.jx g2.ok (j:=i) (mm:=l.length - 1) Eh (by rw[sE];omega) Ng hA1 hB).mono ?_
   rintro _ H3 ⟨rfl,l3,at3,q2,g3,iB,hq2,_⟩
   refine vs ?_
   have g23:nH n c C rv r fp fa (min (st+((0:Nat):Int)) 4611686018427387904) w (swp l i (l.length - 1)) (A5 l at_ i (l.length - 1)) (l.length - 1) H1 H3 l3 at3 (q1+q2):=by
    refine⟨?_,g3.ok,g3.mem,g3.len,g3.drop,g3.Ly,g3.off,g2.ext.trans g3.ext⟩
    have:=g3.jx
    rw[show min (min (min (st+((0:Nat):Int)) 4611686018427387904+(q1:Int)) 4611686018427387904+(q2:Int)) 4611686018427387904=min (min (st+((0:Nat):Int)) 4611686018427387904+((q1+q2:Nat):Int)) 4611686018427387904 by omega]at this
    exact this
   refine gI.mono (fin g23 iB) ?_
   rintro v H4 ⟨l',mf,o⟩
   refine vs ?_
   exact⟨l',mf,q1+q2,o,by omega⟩
end
end Go.Proofs.YtjlnnljohemifaaGreat
