/- Texts put behind each other. -/
import Derived.Test.YtjkkkibiegfecaaGreatDoorK21
import Derived.Test.YtjkkkibiegfecaaGreatDoorK47
set_option linter.unusedSimpArgs false
set_option linter.unusedVariables false
set_option maxRecDepth 100000
set_option maxHeartbeats 8000000
namespace Go.Proofs.YtjkkkibiegfecaaGreatDoor
open Go Go.Vc
def u8s(ns:List Nat):List Value:=ns.map fun(n:Nat)=>Value.int .u8 (n:Int)
theorem sw(a:List Nat):(u8s a).length=a.length:=aka ..
theorem bX.byte{H:Hp}{a:Option Addr}{n c:Nat}{ns:List Nat}(h:bX H 1 (.slice a n c) n (u8s ns)){i x:Nat}(y:ns[i]? =some x):
  i<n/\∃b o z,a=some ⟨b,o,none⟩/\H.rd b=some z/\z[o+i]? =some (.int .u8 (x:Int)):=by
 obtain⟨w,g⟩:=h;rw[sw,ajM]at w;have hi:i<ns.length:=by
  rcases aky i ns.length with h|h
  ·exact h
  ·grind
 refine⟨O,?_⟩;rcases g with ⟨d,_⟩| ⟨b,o,t,l,v,m,j,f⟩
 ·omega
 ·injection v with e p q;refine⟨b,o,l,e,m,?_⟩;have r:(u8s ns)[i]? =some (.int .u8 (x:Int)):=by unfold u8s;rw[aj9,y];rfl
  grind
end Go.Proofs.YtjkkkibiegfecaaGreatDoor
