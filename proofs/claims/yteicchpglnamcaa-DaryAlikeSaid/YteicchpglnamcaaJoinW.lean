/-
  Two heaps of the document's nest that are joined: the slots, and how many.
-/
import Derived.Test.YteicchpglnamcaaLtw
set_option linter.unusedVariables false
set_option linter.unusedSimpArgs false
namespace Go.Proofs.Yteicchpglnamcaa
open Go Go.Vc

theorem join_get (w : Nw) (a b : Int) (i : Nat) : (w.join a b).cs[i]? = (w.cs[i]?).map fun c => if c.1 = b then (a, c.2) else c := by
  unfold Nw.join
  rw [List.getElem?_map]

theorem Nw.len_join (w : Nw) {a b : Int} (hab : a ≠ b) (ha : 0 < a) (hb : 0 < b) (h : Int) : (w.join a b).len h = if h = a then w.len a + w.len b else if h = b then 0 else w.len h := by
  unfold Nw.len Nw.join
  simp only [countP_join w.cs a b h hab]
  by_cases h1 : h = a
  · subst h1
    simp only [if_pos ha, if_pos hb, if_true]
    omega
  · by_cases h2 : h = b
    · subst h2
      simp [h1]
    · simp [h1, h2]

end Go.Proofs.Yteicchpglnamcaa
