/- Texts put behind each other. -/
import Derived.Test.YtjkkkibiegfecaaGreatDoorK98
import Derived.Test.YtjkkkibiegfecaaGreatDoorK4
import Derived.Test.YtjkkkibiegfecaaGreatDoorK5
import Derived.Test.YtjkkkibiegfecaaGreatDoorK7
import Derived.Test.YtjkkkibiegfecaaGreatDoorK8
import Derived.Test.YtjkkkibiegfecaaGreatDoorK10
import Derived.Test.YtjkkkibiegfecaaGreatDoorK11
import Derived.Test.YtjkkkibiegfecaaGreatDoorK12
import Derived.Test.YtjkkkibiegfecaaGreatDoorK13
import Derived.Test.YtjkkkibiegfecaaGreatDoorK15
import Derived.Test.YtjkkkibiegfecaaGreatDoorK16
import Derived.Test.YtjkkkibiegfecaaGreatDoorK17
import Derived.Test.YtjkkkibiegfecaaGreatDoorK18
import Derived.Test.YtjkkkibiegfecaaGreatDoorK19
import Derived.Test.YtjkkkibiegfecaaGreatDoorK20
import Derived.Test.YtjkkkibiegfecaaGreatDoorK21
import Derived.Test.YtjkkkibiegfecaaGreatDoorK22
import Derived.Test.YtjkkkibiegfecaaGreatDoorK24
import Derived.Test.YtjkkkibiegfecaaGreatDoorK43
import Derived.Test.YtjkkkibiegfecaaGreatDoorK44
import Derived.Test.YtjkkkibiegfecaaGreatDoorK46
set_option maxRecDepth 100000
set_option maxHeartbeats 8000000
set_option linter.unusedVariables false
set_option linter.unusedSimpArgs false
namespace Go.Proofs.YtjkkkibiegfecaaGreatDoor
open Go Go.Vc
theorem fh.aO{H H':Hp}{size n c:Nat}{a:Option Addr}{xs:List Value}{S:Nat→Prop}(h:fh H size (.slice a n c) n xs)(e:ah S H H')(hs:∀x,a=some x→¬S x.block):fh H' size (.slice a n c) n xs:=by
 obtain⟨hl,h| ⟨b,o,c',l,h1,h2,h3⟩⟩:=h
 ·exact⟨hl,.inl h⟩
 ·refine⟨hl,.inr ⟨b,o,c',l,h1,e.rd h2 ?_,h3⟩⟩
  injection h1 with h1 _ _
  exact hs _ h1
end Go.Proofs.YtjkkkibiegfecaaGreatDoor
