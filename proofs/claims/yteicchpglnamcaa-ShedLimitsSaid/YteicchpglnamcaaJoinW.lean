/-
  Two heaps of the document's nest that are joined: the slots, and how many.
-/
import Derived.Test.YteicchpglnamcaaLtw
set_option linter.unusedVariables false
set_option linter.unusedSimpArgs false
namespace Go.Proofs.Yteicchpglnamcaa
open Go Go.Vc

theorem join_get (w : Nw) (a b : Int) (i : Nat) : (w.join a b).cs[i]? = (w.cs[i]?).map fun c => if c.1 = b then (a, c.2) else c := by
  unfold Nw.join
  rw [List.getElem?_map]

theorem Nw.len_join (w : Nw) {a b : Int} (hab : a ≠ b) (ha : 0 < a) (hb : 0 < b) (h : Int) : (w.join a b).len h = if h = a then w.len a + w.len b else if h = b then 0 else w.len h := by
  unfold Nw.len Nw.join
  simp only [countP_join w.cs a b h hab]
  by_cases h1 : h = a
  · subst h1
    simp only [if_pos ha, if_pos hb, if_true]
    omega
  · by_cases h2 : h = b
    · subst h2
      simp [h1]
    · simp [h1, h2]

theorem ltW_join (w : Nw) (a b x y : Int) : ltW (w.join a b) x y = ltW w x y := by
  have key : ∀ z : Int, (w.join a b).key z = w.key z ∧ (w.join a b).seq z = w.seq z := fun z => by
    unfold Nw.key Nw.seq
    simp only [List.getD_eq_getElem?_getD, join_get]
    cases w.cs[z.toNat]? with
    | none => exact ⟨rfl, rfl⟩
    | some c =>
      simp only [Option.map_some, Option.getD_some]
      split <;> exact ⟨rfl, rfl⟩
  unfold ltW
  rw [(key x).1, (key x).2, (key y).1, (key y).2]

theorem InC_join (w : Nw) {a b : Int} (ha : 0 < a) (hb : 0 < b) (x : Int) : InC (w.join a b).cs x ↔ InC w.cs x := by
  unfold InC
  rw [join_get]
  cases w.cs[x.toNat]? with
  | none => simp
  | some c =>
    simp only [Option.map_some, Option.some.injEq, exists_eq_left']
    split
    · rename_i h
      simp only [h]
      omega
    · exact Iff.rfl

end Go.Proofs.Yteicchpglnamcaa
