/-
  How many binary digits a number has; that a place lies no deeper.
-/
import Derived.Test.YteicchpglnamcaaHeap
set_option linter.unusedVariables false
namespace Go.Proofs.Yteicchpglnamcaa
open Go Go.Vc

/-- How many binary digits. -/
def bitsN (n : Nat) : Nat := if n = 0 then 0 else n.log2 + 1

theorem bitsN_step {n : Nat} (h : 0 < n) : bitsN n = bitsN (n / 2) + 1 := by
  unfold bitsN
  rw [if_neg (by omega)]
  by_cases h1 : n = 1
  · subst h1
    decide
  · rw [if_neg (by omega), Nat.log2_def, if_pos (by omega)]

theorem bitsN_mono : ∀ (b a : Nat), a ≤ b → bitsN a ≤ bitsN b := by
  intro b
  induction b using Nat.strongRecOn with
  | _ b ih =>
    intro a h
    by_cases ha : a = 0
    · subst ha
      exact Nat.zero_le _
    · rw [bitsN_step (by omega : 0 < a), bitsN_step (by omega : 0 < b)]
      have := ih (b / 2) (by omega) (a / 2) (by omega)
      omega

theorem upN_bits {d : Int} (hf : FineD d) : ∀ (n : Nat) (i : Int), i.toNat ≤ n → upN d i ≤ bitsN i.toNat := by
  intro n
  induction n with
  | zero =>
    intro i h
    have : upN d i = 0 := by unfold upN; rw [show i.toNat = 0 by omega]; rfl
    omega
  | succ n ih =>
    intro i h
    by_cases h1 : 1 ≤ i
    · have hp : parentF d i = some ((i - 1) / d) := by unfold parentF; rw [if_pos ⟨hf, h1⟩]
      have h2 : (i - 1) / d ≤ (i - 1) / 2 := by
        have h3 := Int.ediv_mul_le (i - 1) (show d ≠ 0 by have := hf.1; omega)
        have h4 : 0 ≤ (i - 1) / d := Int.ediv_nonneg (by omega) (by have := hf.1; omega)
        have h5 : (i - 1) / d * 2 ≤ (i - 1) / d * d := Int.mul_le_mul_of_nonneg_left hf.1 h4
        omega
      have h4 : 0 ≤ (i - 1) / d := Int.ediv_nonneg (by omega) (by have := hf.1; omega)
      rw [upN_child hp, bitsN_step (by omega : 0 < i.toNat)]
      have h5 := ih ((i - 1) / d) (by omega)
      have h6 := bitsN_mono (i.toNat / 2) ((i - 1) / d).toNat (by omega)
      omega
    · have : upN d i = 0 := by unfold upN; rw [show i.toNat = 0 by omega]; rfl
      omega

theorem upN_bits' {d : Int} (hf : FineD d) (i : Int) : upN d i ≤ bitsN i.toNat := upN_bits hf i.toNat i (Nat.le_refl _)

end Go.Proofs.Yteicchpglnamcaa
