/- Texts put behind each other. -/
import Derived.Test.YtjkkkibiegfecaaGreatDoorK3
import Derived.Test.YtjkkkibiegfecaaGreatDoorK37
set_option linter.unusedSimpArgs false
set_option linter.unusedVariables false
set_option maxRecDepth 100000
set_option maxHeartbeats 8000000
namespace Go.Proofs.YtjkkkibiegfecaaGreatDoor
open Go Go.Vc Go.Lib
theorem wZ{H:Hp}(g:uP H)(c:UInt8)(l:List UInt8)(t:l.length<=1000000):aF 28 [aL l,aL [c]] H fun v J=>ak (
  v= .slice (some ⟨H.size,0,none⟩) (pieces c l).length (pieces c l).length/\J=H.new 9 ((pieces c l).map aL)):=fun w h=>by
 obtain⟨m,hm⟩:=g.Zy w h;have r:(⟨l.toArray⟩:ByteArray).size=l.length:=by simp[ByteArray.size]
 have y:(⟨[c].toArray⟩:ByteArray).size=1:=by simp[ByteArray.size]
 have z:(Lib.splitB ⟨[c].toArray⟩ 0 (Lib.countB ⟨l.toArray⟩ ⟨[c].toArray⟩) ⟨l.toArray⟩).map (·.data.toList)=pieces c l:=by
  rw[Lib.splitB_data];exact Hn c l
 have a:Lib.countB ⟨l.toArray⟩ ⟨[c].toArray⟩+1=(pieces c l).length:=by
  rw[<-z,aka];exact(Lib.splitB_all ⟨[c].toArray⟩ O 0 _ _ rfl).symm
 have n:(Lib.splitB ⟨[c].toArray⟩ 0 (Lib.countB ⟨l.toArray⟩ ⟨[c].toArray⟩) ⟨l.toArray⟩).map Value.string=(pieces c l).map aL:=by
  rw[<-z,List.map_map];exact akG fun x _=>rfl
 refine(Tryz.strings_Split ⟨l.toArray⟩ ⟨[c].toArray⟩ m w O hm O).mono ?_;rintro e w' ⟨rfl,rfl⟩;rw[a,n,h];refine⟨_,rfl,⟨rfl,rfl⟩,rfl,?_⟩;show w.heap.push _=H.push _;rw[h]
theorem Pn(c:UInt8)(l:List UInt8):(Lib.cut l [c]).1.length<=l.length/\(Lib.cut l [c]).2.1.length<=l.length:=by
 unfold Lib.cut;grind
theorem yQ{H:Hp}(h:uP H)(c:UInt8)(l:List UInt8)(z:l.length<=1000000):aF 48 [aL l,aL [c]] H fun v J=>ak (
  v= .tuple [aL (Lib.cut l [c]).1,aL (Lib.cut l [c]).2.1,.bool (Lib.cut l [c]).2.2].toArray/\af H J):=fun w x=>by
 obtain⟨m,hm⟩:=h.Zy w x;have a:(⟨l.toArray⟩:ByteArray).size=l.length:=by simp[ByteArray.size]
 refine(Tryz.strings_Cut ⟨l.toArray⟩ ⟨[c].toArray⟩ m w O hm).mono ?_;rintro e w' ⟨rfl,n,rfl⟩;exact⟨_,rfl,⟨rfl,rfl⟩,rfl,by rw[<-x];exact aj.refl _ _⟩
end Go.Proofs.YtjkkkibiegfecaaGreatDoor
