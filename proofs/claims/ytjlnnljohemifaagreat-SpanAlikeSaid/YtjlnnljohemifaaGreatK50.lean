/- Texts put behind each other. -/
import Derived.Test.YtjlnnljohemifaaGreatK98
import Derived.Test.YtjlnnljohemifaaGreatK5
import Derived.Test.YtjlnnljohemifaaGreatK6
import Derived.Test.YtjlnnljohemifaaGreatK8
import Derived.Test.YtjlnnljohemifaaGreatK9
import Derived.Test.YtjlnnljohemifaaGreatK10
import Derived.Test.YtjlnnljohemifaaGreatK11
import Derived.Test.YtjlnnljohemifaaGreatK12
import Derived.Test.YtjlnnljohemifaaGreatK13
import Derived.Test.YtjlnnljohemifaaGreatK15
import Derived.Test.YtjlnnljohemifaaGreatK16
import Derived.Test.YtjlnnljohemifaaGreatK17
import Derived.Test.YtjlnnljohemifaaGreatK18
import Derived.Test.YtjlnnljohemifaaGreatK19
import Derived.Test.YtjlnnljohemifaaGreatK20
import Derived.Test.YtjlnnljohemifaaGreatK21
import Derived.Test.YtjlnnljohemifaaGreatK48
import Derived.Test.YtjlnnljohemifaaGreatK49
set_option maxRecDepth 100000
set_option maxHeartbeats 8000000
set_option linter.unusedVariables false
set_option linter.unusedSimpArgs false
namespace Go.Proofs.YtjlnnljohemifaaGreat
open Go Go.Vc
theorem rK.join{cB:List Int}{rt d:Nat→Nat}(h:rK cB rt d){a b:Nat}(ha:a<cB.length)(hb:b<cB.length)(ra:rt a=a)(rb:rt b=b)(zI:a≠b)(h0:b≠0)(TH:a≠0):
  rK (cB.set b (a:Int)) (fun i=>if rt i=b then a else rt i) (fun i=>if rt i=b then d i+d a+1 else d i):=by
 have hd:=h.step
 refine⟨by simpa using h.pos,fun i hi=>?_,fun i hi=>?_,fun i hi=>?_,?_,fun i hi hz=>?_⟩
 ·simp only[anv]at hi ⊢
  split
  ·exact ha
  ·exact h.low i hi
 ·simp only[anv]at hi
  by_cases e:rt i=b
  ·simp only[e,if_true,ra,if_neg zI]
  ·simp only[if_neg e,h.K6 i hi]
 ·simp only[anv]at hi
  obtain⟨j,h1,h2,h3,h4,h5⟩:=hd i hi
  by_cases e:i=b
  ·subst e
   refine⟨a,by simp[hi],by simpa using ha,?_,?_,?_⟩
   ·simp only[ra,rb,if_neg zI,if_true]
   ·simp only[rb,if_true]
   ·intro _;simp only[ra,rb,if_neg zI,if_true];omega
  ·refine⟨j,by rw[anA (Ne.symm e)];exact h1,by simpa using h2,?_,?_,?_⟩
   ·simp only[h3]
   ·by_cases e2:rt i=b
    ·simp only[e2,if_true]
     constructor
     ·intro Mh;have:=h4.1 Mh;omega
     ·intro YE;rw[←YE,ra]at e2;exact absurd e2 zI
    ·simp only[if_neg e2];exact h4
   ·intro Mh
    have:=h5 Mh
    simp only[h3]
    split<;>omega
 ·simp only[h.zero,if_neg (Ne.symm h0)]
 ·simp only[anv]at hi
  by_cases e:rt i=b
  ·simp only[e,if_true]at hz;exact absurd hz TH
  ·simp only[if_neg e]at hz;exact h.nz i hi hz
theorem aay{H:Hp}{b s len:Nat}{rt:Nat→Nat}{fJ:Int}(h:eJ H b s len rt fJ)(x y:Int):
  af Tryz.prog aau [ptr b,i64 x,i64 y] H fun v H'=>aw (
   let ok:=(0<x∧x<len∧rt x.toNat=x.toNat)∧(0<y∧y<len∧rt y.toNat=y.toNat)∧x≠y
   (¬ok∧v= .bool false∧H=H')∨
   (ok∧v= .bool true∧eJ H' b s len (fun i=>if rt i=y.toNat then x.toNat else rt i) fJ∧ag (fun z=>z=b∨z=s) H H')):=by
 have hx:=Fv h x
 have hy:=Fv h y
 obtain⟨⟨sv,cB,sj,a1,a2,⟨d,a4⟩,a5⟩,h1,h2,h3⟩:=h
 obtain⟨e0,l,c,rfl,a3,b1,b2,b3⟩:=a2
 refine bm aav ?_
 refine vs ?_
 refine hx.mono ?_
 rintro _ _ ⟨rfl,rfl⟩
 refine vs ?_
 refine am.dec (fun hx=>?_) (fun hx=>?_)<;>refine vs ?_
 ·refine hy.mono ?_
  rintro _ _ ⟨rfl,rfl⟩
  refine vs ?_
  refine am.dec (fun hy=>?_) (fun hy=>?_)<;>refine vs ?_
  ·refine am.dec (fun Mk=>?_) (fun Mk=>?_)<;>refine vs ?_
   ·exact .inl ⟨fun hc=>hc.2.2 Mk,rfl,rfl⟩
   ·have hs:Sl H 1 (.slice (some ⟨s,0,none⟩) len c) len (cB.map i64) (some s):=⟨e0,l,c,rfl,a3,b1,b2,b3⟩
    refine v1 (ae a1) ?_
    refine⟨by omega,?_⟩
    have aX:l.length=l.length:=rfl
    have oK:len*1≤l.length:=by omega
    refine v2 a3 anw ?_
    refine⟨by omega,?_⟩
    have rR:(H.wr s (l.set y.toNat (i64 x))).own b=some [.slice (some ⟨s,0,none⟩) len c,i64 fJ,i64 sj]:=(pY (Ne.symm h1)).trans a1
    refine v2 rR (ae rR) ?_
    have hj:=a4.join (a:=x.toNat) (b:=y.toNat) (by omega) (by omega) hx.2.2 hy.2.2 (by omega) (by omega) (by omega)
    rw[show((x.toNat:Nat):Int)=x by omega]at hj
    refine .inr ⟨⟨hx,hy,Mk⟩,rfl,⟨⟨_,cB.set y.toNat x,_,ah rR,?_,⟨_,hj⟩,by simpa using a5⟩,h1,h2,h3⟩,?_⟩
    ·rw[aoh]
     exact(hs.tQ a3 y.toNat (i64 x)).ext ((ag.refl (fun z=>z=b) _).wr (fun _=>rfl) _) (fun z e=>by injection e with e;omega)
    ·exact((ag.refl _ _).wr (fun _=>.inr rfl) _).wr (fun _=>.inl rfl) _
  ·exact .inl ⟨fun hc=>hy hc.2.1,rfl,rfl⟩
 ·exact .inl ⟨fun hc=>hx hc.1,rfl,rfl⟩
end Go.Proofs.YtjlnnljohemifaaGreat
