/-
  A cell of a slice that is read.
-/
import Derived.Test.YtbnaicgmnadkgaaBase
import Derived.Test.YtbnaicgmnadkgaaArgs
set_option linter.unusedVariables false
set_option linter.unusedSimpArgs false
namespace Go.Proofs.Ytbnaicgmnadkgaa
open Go Go.Vc

theorem RdS.get {H : Hp} {size n : Nat} {v : Value} {xs : List Value} (h : RdS H size v n xs) {i j : Nat} {x : Value} (hj : j < size) (hx : xs[i * size + j]? = some x) :
    ∃ b o c l, v = .slice (some ⟨b, o, none⟩) n c ∧ H.rd b = some l ∧ i < n ∧ l[o + i * size + j]? = some x := by
  obtain ⟨hl, ⟨rfl, a, c, rfl⟩ | ⟨b, o, c, l, rfl, h2, h3, h4⟩⟩ := h
  · rw [List.getElem?_eq_none (by omega)] at hx; cases hx
  · have hlt : i * size + j < n * size := by
      have := (List.getElem?_eq_some_iff.1 hx).1; omega
    refine ⟨b, o, c, l, rfl, h2, ?_, ?_⟩
    · rcases Nat.lt_or_ge i n with h | h
      · exact h
      · have := Nat.mul_le_mul_right size h; omega
    · rw [← h4, List.getElem?_take_of_lt hlt, List.getElem?_drop] at hx
      rw [← hx]; congr 1; omega

end Go.Proofs.Ytbnaicgmnadkgaa
