/-
  Sums of 128 bits are the sums.
-/
import Derived.Test.YtbnaicgmnadkgaaSumsP
set_option linter.unusedVariables false
set_option linter.unusedSimpArgs false
namespace Go.Proofs.Ytbnaicgmnadkgaa
open Go Go.Vc

def valS (S : Int) : Int × Nat := (S / 18446744073709551616, (S % 18446744073709551616).toNat)

theorem addS_val {S n : Int} (h0 : -9223372036854775808 ≤ n) (h1 : n ≤ 9223372036854775807) (hS : -9223372036854775808 * 1000000000000 ≤ S ∧ S ≤ 9223372036854775808 * 1000000000000) : addS (valS S) n = valS (S + n) := by
  unfold addS valS lowN
  have hw : ∀ z : Int, -9223372036854775808 ≤ z → z ≤ 9223372036854775807 → IntKind.i64.wrap z = z := fun z => wrap64
  simp only
  refine Prod.ext ?_ ?_
  · simp only
    rw [hw _ (by split <;> omega) (by split <;> omega)]
    split <;> omega
  · simp only
    omega

theorem foldS_val : ∀ (l : List Int) (S : Int), (∀ x ∈ l, -9223372036854775808 ≤ x ∧ x ≤ 9223372036854775807) → (-9223372036854775808 * (1000000000000 - (l.length : Int)) ≤ S ∧ S ≤ 9223372036854775808 * (1000000000000 - (l.length : Int))) →
    l.foldl addS (valS S) = valS (S + l.sum) := by
  intro l
  induction l with
  | nil => intro S _ _; simp
  | cons x l ih =>
    intro S h hS
    obtain ⟨h0, h1⟩ := h x (List.mem_cons_self ..)
    rw [List.length_cons] at hS
    rw [List.foldl_cons, addS_val h0 h1 (by omega), ih (S + x) (fun y hy => h y (List.mem_cons_of_mem _ hy)) (by omega), List.sum_cons, Int.add_assoc]

theorem totS_val {l : List Int} (h : ∀ x ∈ l, -9223372036854775808 ≤ x ∧ x ≤ 9223372036854775807) (hl : l.length ≤ 1000000000) : totS l = valS l.sum := by
  have := foldS_val l 0 h (by omega)
  rw [Int.zero_add] at this
  exact this

theorem valS_inj {S T : Int} (h : valS S = valS T) : S = T := by
  unfold valS at h
  injection h with h1 h2
  omega

end Go.Proofs.Ytbnaicgmnadkgaa
