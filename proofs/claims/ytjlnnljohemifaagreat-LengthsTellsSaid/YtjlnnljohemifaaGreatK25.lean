/- Texts put behind each other. -/
import Derived.Test.YtjlnnljohemifaaGreatK98
import Derived.Test.YtjlnnljohemifaaGreatK19
import Derived.Test.YtjlnnljohemifaaGreatK20
import Derived.Test.YtjlnnljohemifaaGreatK23
import Derived.Shelf.Spec.BitsCarry
set_option linter.unusedVariables false
set_option linter.unusedSimpArgs false
namespace Go.Proofs.YtjlnnljohemifaaGreat
open Go Go.Vc
theorem Q4(x y c:Nat)(hc:c≤1)(hx:x<18446744073709551616)(hy:y<18446744073709551616)(w:World):
  (callFunc 58 [u64 (x:Int),u64 (y:Int),u64 (c:Int)].toArray).run Tryz.prog w=
   .ok (.value (.tuple [u64 (((x+y+c)%18446744073709551616:Nat):Int),u64 (((x+y+c) / 18446744073709551616:Nat):Int)].toArray)) w:=by
 show(callFunc 58 #[.int .u64 x,.int .u64 y,.int .u64 c]).run Tryz.prog w=_
 rw[run_callFunc_extern Tryz.func58 (by kernel_rfl) (by kernel_rfl) (by kernel_rfl) (e:=add64Entry) (by kernel_rfl),run_add64 x y c (by omega) (by omega) (by omega) (by omega)]
 simp only[Result.andThen]
 congr 5<;>omega
end Go.Proofs.YtjlnnljohemifaaGreat
