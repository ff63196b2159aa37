/-
  Plain law: sums of 128 bits.
-/
import Derived.Test.YtbnaicgmnadkgaaBase
import Derived.Test.YtbnaicgmnadkgaaGet
import Derived.Test.YtbnaicgmnadkgaaArgs
set_option linter.unusedVariables false
set_option linter.unusedSimpArgs false
namespace Go.Proofs.Ytbnaicgmnadkgaa
open Go Go.Vc

/-- A number's low word. -/
def lowN (n : Int) : Nat := (n % 18446744073709551616).toNat
theorem wrap_low (n : Int) : IntKind.u64.wrap n = (lowN n : Int) := by
  have e : (2 ^ IntKind.u64.bits : Int) = 18446744073709551616 := rfl
  unfold IntKind.wrap lowN
  simp only [e, IntKind.signed, Bool.false_and]
  rw [if_neg (by simp)]; omega
theorem lowN_lt (n : Int) : lowN n < 18446744073709551616 := by unfold lowN; omega
theorem wrap_add (a b : Int) : IntKind.i64.wrap (IntKind.i64.wrap a + b) = IntKind.i64.wrap (a + b) := by
  have e : (2 ^ IntKind.i64.bits : Int) = 18446744073709551616 := rfl
  have e' : (2 ^ (IntKind.i64.bits - 1) : Int) = 9223372036854775808 := rfl
  unfold IntKind.wrap
  simp only [e, e', IntKind.signed, Bool.true_and, decide_eq_true_eq]
  split <;> split <;> split <;> omega
theorem shr63 {y : Int} (h0 : -9223372036854775808 ≤ y) (h1 : y ≤ 9223372036854775807) : Int.fdiv y (2 ^ (min (Int.toNat 63) 64)) = if y < 0 then -1 else 0 := by
  have e : (2 ^ (min (Int.toNat 63) 64) : Int) = 9223372036854775808 := rfl
  rw [e, Int.fdiv_eq_ediv_of_nonneg _ (by omega)]
  split <;> omega

/-- A sum and one number more. -/
def addS (s : Int × Nat) (n : Int) : Int × Nat :=
  (IntKind.i64.wrap (s.1 + (if n < 0 then -1 else 0) + ((s.2 + lowN n) / 18446744073709551616 : Nat)), (s.2 + lowN n) % 18446744073709551616)
def totS (l : List Int) : Int × Nat := l.foldl addS (0, 0)
def sumV (s : Int × Nat) : Value := .agg [i64 s.1, u64 s.2].toArray

theorem totS_snoc (l : List Int) (x : Int) : totS (l ++ [x]) = addS (totS l) x := by
  unfold totS
  rw [List.foldl_append]
  rfl

end Go.Proofs.Ytbnaicgmnadkgaa
