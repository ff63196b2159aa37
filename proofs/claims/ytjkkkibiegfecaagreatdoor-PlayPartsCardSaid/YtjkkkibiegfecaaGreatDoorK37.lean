/- Texts put behind each other. -/
import Derived.Test.YtjkkkibiegfecaaGreatDoorK98
import Derived.Test.YtjkkkibiegfecaaGreatDoorK3
import Derived.Test.YtjkkkibiegfecaaGreatDoorK35
set_option maxRecDepth 100000
set_option maxHeartbeats 8000000
set_option linter.unusedVariables false
set_option linter.unusedSimpArgs false
namespace Go.Proofs.YtjkkkibiegfecaaGreatDoor
open Go Go.Vc Go.Lib
theorem Al{H:Hp}(he:yk H)(c:UInt8)(l:List UInt8)(hl:l.length≤1000000):ag Tryz.prog tu [aW l,aW [c]] H fun v H'=>ap (
  v= .slice (some ⟨H.size,0,none⟩) (pieces c l).length (pieces c l).length∧H'=H.new 9 ((pieces c l).map aW)):=fun w hw=>by
 obtain⟨m,hm⟩:=he.lim w hw
 have hs:(⟨l.toArray⟩:ByteArray).size=l.length:=by simp[ByteArray.size]
 have h1:(⟨[c].toArray⟩:ByteArray).size=1:=by simp[ByteArray.size]
 have e1:(Lib.splitB ⟨[c].toArray⟩ 0 (Lib.countB ⟨l.toArray⟩ ⟨[c].toArray⟩) ⟨l.toArray⟩).map (·.data.toList)=pieces c l:=by
  rw[Lib.splitB_data]
  exact KW c l
 have e2:Lib.countB ⟨l.toArray⟩ ⟨[c].toArray⟩+1=(pieces c l).length:=by
  rw[←e1,aoJ]
  exact(Lib.splitB_all ⟨[c].toArray⟩ (by omega) 0 _ _ rfl).symm
 have e3:(Lib.splitB ⟨[c].toArray⟩ 0 (Lib.countB ⟨l.toArray⟩ ⟨[c].toArray⟩) ⟨l.toArray⟩).map Value.string=(pieces c l).map aW:=by
  rw[←e1,List.map_map]
  exact ao9 fun x _=>rfl
 refine(Tryz.strings_Split ⟨l.toArray⟩ ⟨[c].toArray⟩ m w (by rw[hs];omega) hm (by omega)).mono ?_
 rintro e w' ⟨rfl,rfl⟩
 rw[e2,e3,hw]
 refine⟨_,rfl,⟨rfl,rfl⟩,rfl,?_⟩
 show w.heap.push _=H.push _
 rw[hw]
theorem TC(c:UInt8)(l:List UInt8):(Lib.cut l [c]).1.length≤l.length∧(Lib.cut l [c]).2.1.length≤l.length:=by
 unfold Lib.cut
 split
 ·simp only[ao1,List.length_drop];omega
 ·simp
theorem Ct{H:Hp}(he:yk H)(c:UInt8)(l:List UInt8)(hl:l.length≤1000000):ag Tryz.prog Ik [aW l,aW [c]] H fun v H'=>ap (
  v= .tuple [aW (Lib.cut l [c]).1,aW (Lib.cut l [c]).2.1,.bool (Lib.cut l [c]).2.2].toArray∧ai H H'):=fun w hw=>by
 obtain⟨m,hm⟩:=he.lim w hw
 have hs:(⟨l.toArray⟩:ByteArray).size=l.length:=by simp[ByteArray.size]
 refine(Tryz.strings_Cut ⟨l.toArray⟩ ⟨[c].toArray⟩ m w (by rw[hs];omega) hm).mono ?_
 rintro e w' ⟨rfl,n,rfl⟩
 exact⟨_,rfl,⟨rfl,rfl⟩,rfl,by rw[←hw];exact ah.refl _ _⟩
end Go.Proofs.YtjkkkibiegfecaaGreatDoor
