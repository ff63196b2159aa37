/-
  Texts put behind each other by a program: A2.
-/
import Derived.Test.YtbnaicgmnadkgaaK8
import Derived.Test.YtbnaicgmnadkgaaK10
import Derived.Test.YtbnaicgmnadkgaaProg
import Derived.Test.YtbnaicgmnadkgaaChecked
import Derived.Eval
import Derived.KernelRfl
/-
  The functions of the translation, read off: written by a program of ours; Lean's kernel checks each.
-/
set_option maxRecDepth 100000
namespace Go.Proofs.Ytbnaicgmnadkgaa
open Go Go.Vc
/-- slices.IndexFunc[[]byte,byte] -/
def s_slices_IndexFunc_byte_byte : Vc.Fn := ⟨2, [(.tmp 4)],
  (.seq (.reg [s1 4 (.mov (ki 0))] [0, 1]) (.seq (.seq (.reg [s1 6 (.mov (tt 0)), s1 7 (.lenS (tt 6)), s1 8 (.mov (ki 0))] [0, 1, 7, 8]) (.blk 0 (.loop [0, 1, 7, 8] (.seq (.reg [s1 9 (.bin .lss .int (tt 8) (tt 7))] [0, 1, 7, 8, 9]) (.seq (.cond (tt 9) .skip (.exit 0)) (.seq (.blk 1 (.seq (.reg [s1 10 (.mov (tt 8)), s1 5 (.mov (tt 10))] [0, 1, 5, 7, 8]) (.seq (.reg [s1 11 (.mov (tt 1)), s1 12 (.mov (tt 0)), s1 13 (.mov (tt 5)), s1 14 (.indexAddr 1 (tt 12) (tt 13)), s1 15 (.load1 (tt 14)), s1 16 (.dyn (tt 11) [(tt 15)])] [0, 1, 5, 7, 8, 16]) (.cond (tt 16) (.seq (.reg [s1 17 (.mov (tt 5)), s1 4 (.mov (tt 17))] [4]) .ret) .skip)))) (.reg [s1 18 (.bin .add .int (tt 8) (ki 1)), s1 8 (.mov (tt 18))] [0, 1, 7, 8]))))))) (.seq (.reg [s1 4 (.mov (ki (-1)))] [4]) .ret)))⟩
theorem d_slices_IndexFunc_byte_byte : decFn Try.prog 109 [([0, 1], [], []), ([0, 1, 7, 8], [], []), ([0, 1, 7, 8], [], []), ([0, 1, 7, 8, 9], [], []), ([0, 1, 5, 7, 8], [], []), ([0, 1, 5, 7, 8, 16], [], []), ([4], [], []), ([0, 1, 7, 8], [], []), ([4], [], [])] = some s_slices_IndexFunc_byte_byte := by kernel_rfl
theorem c_slices_IndexFunc_byte_byte {args : List Value} {H : Hp} {K : Value → Hp → Prop} (h : s_slices_IndexFunc_byte_byte.vc Try.prog args H K) : CallH Try.prog 109 args H K := callH_of mixed d_slices_IndexFunc_byte_byte h

end Go.Proofs.Ytbnaicgmnadkgaa
