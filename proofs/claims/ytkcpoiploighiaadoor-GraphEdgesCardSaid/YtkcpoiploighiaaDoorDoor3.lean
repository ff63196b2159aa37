/-
  The frame of a law whose row lists tables that are held against constants as well.
-/
import Derived.Test.YtkcpoiploighiaaDoorDoor2
set_option linter.unusedVariables false
set_option linter.unusedSimpArgs false
namespace Go.Proofs.YtkcpoiploighiaaDoor
open Go Go.Vc Go.ChangeShapes Go.WideShapes Go.RowKit

theorem errs_of_laidP {W : World} {x y z u : String × DataW Unit} (h : laidMet Tryd.prog [x, y, ("internal/strconv.uint64pow10", Rows.laid_internal_strconv_uint64pow10), z, ("strconv.ErrRange", Rows.laid_strconv_ErrRange), ("strconv.ErrSyntax", Rows.laid_strconv_ErrSyntax), u] W) (hs : W.ShapedOpen Tryd.prog) : ErrH W.heap := by
  have ht := tab_of_laid h
  obtain ⟨a1, s1, hr, _⟩ := laid_sentinel h.tail.tail.tail.tail gRng tRng Tryd.underlying74 rowErr Tryd.underlying156 Tryd.underlying158 rfl rfl Tryd.underlying9 (by kernel_rfl) (by kernel_rfl)
  obtain ⟨a2, s2, hy, _⟩ := laid_sentinel h.tail.tail.tail.tail.tail gSyn tSyn Tryd.underlying74 rowErr Tryd.underlying156 Tryd.underlying158 rfl rfl Tryd.underlying9 (by kernel_rfl) (by kernel_rfl)
  obtain ⟨m, hm⟩ := cell_of_shapedOpen_int (zero := #[.int .i64 0]) (t := 3) (g := 0) hs (of_decide_eq_true (by kernel_rfl)) (by kernel_rfl) rfl (by kernel_rfl) (by kernel_rfl) Tryd.underlying3
  refine ⟨ht, fun w hw => ?_, fun w hw => ?_, fun w hw => ?_⟩
  · exact ⟨_, _, var_keep (w := W) (by rw [hw]; exact Ext.refl _ _) hy⟩
  · exact ⟨_, _, var_keep (w := W) (by rw [hw]; exact Ext.refl _ _) hr⟩
  · exact ⟨m, cell_keep (w := W) (by rw [hw]; exact Ext.refl _ _) hm⟩

end Go.Proofs.YtkcpoiploighiaaDoor
