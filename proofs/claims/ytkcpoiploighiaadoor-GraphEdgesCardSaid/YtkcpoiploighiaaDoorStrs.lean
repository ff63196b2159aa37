/-
  strings.Split and strings.Cut, told of the heap.
-/
import Derived.Test.YtkcpoiploighiaaDoorNumsI
import Derived.Test.YtkcpoiploighiaaDoorPieces
set_option linter.unusedVariables false
set_option linter.unusedSimpArgs false
namespace Go.Proofs.YtkcpoiploighiaaDoor
open Go Go.Vc Go.Lib

theorem strings_Split_spec {H : Hp} (he : ErrH H) (c : UInt8) (l : List UInt8) (hl : l.length ≤ 1000000) : CallH Tryd.prog n_strings_Split [strV l, strV [c]] H fun v H' => Post (
    v = .slice (some ⟨H.size, 0, none⟩) (pieces c l).length (pieces c l).length ∧ H' = H.new 9 ((pieces c l).map strV)) := fun w hw => by
  obtain ⟨m, hm⟩ := he.lim w hw
  have hs : (⟨l.toArray⟩ : ByteArray).size = l.length := by simp [ByteArray.size]
  have h1 : (⟨[c].toArray⟩ : ByteArray).size = 1 := by simp [ByteArray.size]
  have e1 : (Lib.splitB ⟨[c].toArray⟩ 0 (Lib.countB ⟨l.toArray⟩ ⟨[c].toArray⟩) ⟨l.toArray⟩).map (·.data.toList) = pieces c l := by
    rw [Lib.splitB_data]
    exact split_pieces c l
  have e2 : Lib.countB ⟨l.toArray⟩ ⟨[c].toArray⟩ + 1 = (pieces c l).length := by
    rw [← e1, List.length_map]
    exact (Lib.splitB_all ⟨[c].toArray⟩ (by omega) 0 _ _ rfl).symm
  have e3 : (Lib.splitB ⟨[c].toArray⟩ 0 (Lib.countB ⟨l.toArray⟩ ⟨[c].toArray⟩) ⟨l.toArray⟩).map Value.string = (pieces c l).map strV := by
    rw [← e1, List.map_map]
    exact List.map_congr_left fun x _ => rfl
  refine (Tryd.strings_Split ⟨l.toArray⟩ ⟨[c].toArray⟩ m w (by rw [hs]; omega) hm (by omega)).mono ?_
  rintro e w' ⟨rfl, rfl⟩
  rw [e2, e3, hw]
  refine ⟨_, rfl, ⟨rfl, rfl⟩, rfl, ?_⟩
  show w.heap.push _ = H.push _
  rw [hw]

theorem cutc_len (c : UInt8) (l : List UInt8) : (Lib.cut l [c]).1.length ≤ l.length ∧ (Lib.cut l [c]).2.1.length ≤ l.length := by
  unfold Lib.cut
  split
  · simp only [List.length_take, List.length_drop]; omega
  · simp

theorem strings_Cutc_spec {H : Hp} (he : ErrH H) (c : UInt8) (l : List UInt8) (hl : l.length ≤ 1000000) : CallH Tryd.prog n_strings_Cut [strV l, strV [c]] H fun v H' => Post (
    v = .tuple [strV (Lib.cut l [c]).1, strV (Lib.cut l [c]).2.1, .bool (Lib.cut l [c]).2.2].toArray ∧ Fresh H H') := fun w hw => by
  obtain ⟨m, hm⟩ := he.lim w hw
  have hs : (⟨l.toArray⟩ : ByteArray).size = l.length := by simp [ByteArray.size]
  refine (Tryd.strings_Cut ⟨l.toArray⟩ ⟨[c].toArray⟩ m w (by rw [hs]; omega) hm).mono ?_
  rintro e w' ⟨rfl, n, rfl⟩
  exact ⟨_, rfl, ⟨rfl, rfl⟩, rfl, by rw [← hw]; exact Ext.refl _ _⟩

end Go.Proofs.YtkcpoiploighiaaDoor
