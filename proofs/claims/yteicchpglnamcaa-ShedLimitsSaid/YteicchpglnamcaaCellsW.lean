/-
  What holds of cells that tell a nest: how many heaps there are, and that each slot's home is one.
-/
import Derived.Test.YteicchpglnamcaaNest
set_option linter.unusedVariables false
set_option linter.unusedSimpArgs false
namespace Go.Proofs.Yteicchpglnamcaa
open Go Go.Vc

theorem CellsN.hsl {H : Hp} {c : Nat} {S : Nat → Prop} {st : Int} {w : Nw} (h : CellsN H c S st w) : w.hs.length ≤ 65537 := by
  obtain ⟨cs, len, rt, many, ⟨⟨fb, nb, ns, mb, _, _, g, _⟩, _⟩, h2⟩ := h
  have := g.le
  rw [h2.hl]
  omega
theorem CellsN.home {H : Hp} {c : Nat} {S : Nat → Prop} {st : Int} {w : Nw} (h : CellsN H c S st w) : ∀ x ∈ w.cs, 0 ≤ x.1 ∧ x.1 < w.hs.length := by
  obtain ⟨cs, len, rt, many, h1, h2⟩ := h
  intro x hx
  rw [h2.cl] at hx
  obtain ⟨y, hy, rfl⟩ := List.mem_map.1 hx
  have h3 := h2.lt y hy
  rw [h2.hl]
  have h4 := h2.low y.1.toNat (by omega)
  have h5 : 0 < len := by
    have := (List.getElem?_eq_some_iff.1 h2.h0).1
    rw [h2.hl] at this
    exact this
  simp only
  split <;> omega

theorem CellsN.live {H : Hp} {c : Nat} {S : Nat → Prop} {st : Int} {w : Nw} (h : CellsN H c S st w) : ∀ x ∈ w.cs, 0 < x.1 → w.hs[x.1.toNat]? = some true := by
  obtain ⟨cs, len, rt, many, h1, h2⟩ := h
  intro x hx
  rw [h2.cl] at hx
  obtain ⟨y, hy, rfl⟩ := List.mem_map.1 hx
  have h3 := h2.lt y hy
  simp only
  split
  · intro h0
    have h4 := h2.low y.1.toNat (by omega)
    have h5 := h2.idem y.1.toNat (by omega)
    rw [show ((rt y.1.toNat : Nat) : Int).toNat = rt y.1.toNat by omega, h2.hh _ (by omega) h4, h5]
    simp
  · intro h0; omega

end Go.Proofs.Yteicchpglnamcaa
