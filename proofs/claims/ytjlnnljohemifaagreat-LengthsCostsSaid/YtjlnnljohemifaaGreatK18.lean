/-
  Texts put behind each other by a program: SortI.
-/
import Derived.Test.YtjlnnljohemifaaGreatK3
import Derived.Test.YtjlnnljohemifaaGreatK17
import Derived.Shelf.Sort.Plain
import Derived.Shelf.Slices.In.SortNone
set_option linter.unusedVariables false
set_option linter.unusedSimpArgs false
namespace Go.Proofs.YtjlnnljohemifaaGreat
open Go Go.Vc Go.Sort
def sortI (xs : List Int) : List Int := xs.mergeSort fun x y => decide (x ≤ y)
theorem sortI_len (xs : List Int) : (sortI xs).length = xs.length := List.length_mergeSort _
theorem own_parts {H : Hp} {b : Nat} {l : List Value} (h : H.own b = some l) : ∃ T fr, H[b]? = some (.cells l.toArray T fr) := by
  unfold Hp.own at h
  split at h
  · rename_i c t fr hb
    split at h
    · injection h with h
      exact ⟨t, fr, by rw [hb, ← h]⟩
    · cases h
  · cases h
theorem putCells_list (off : Nat) (d : List Int) (l : List Value) (h : off + d.length ≤ l.length) : (putCells (Value.int .i64) off d.toArray l.toArray).toList = l.take off ++ d.map i64 ++ l.drop (off + d.length) := by
  apply List.ext_getElem?
  intro k
  rw [Array.getElem?_toList]
  simp only [putCells, Array.getElem?_mapIdx, List.getElem?_toArray, List.size_toArray]
  by_cases h1 : k < off
  · rw [List.append_assoc, List.getElem?_append_left (by rw [List.length_take]; omega), List.getElem?_take, if_pos h1, List.getElem?_eq_getElem (by omega)]
    simp; omega
  · by_cases h2 : k < off + d.length
    · rw [List.getElem?_append_left (by simp; omega), List.getElem?_append_right (by rw [List.length_take]; omega), List.length_take, Nat.min_eq_left (by omega), List.getElem?_map, List.getElem?_eq_getElem (by omega), List.getElem?_eq_getElem (by omega)]
      simp only [Option.map_some]
      rw [if_pos ⟨by omega, h2⟩]
      congr 2
      simp [show k - off < d.length by omega]
    · rw [List.getElem?_append_right (by simp; omega), List.getElem?_drop]
      simp only [List.length_append, List.length_take, List.length_map, Nat.min_eq_left (show off ≤ l.length by omega)]
      rw [show off + d.length + (k - (off + d.length)) = k by omega]
      cases hk : l[k]? with
      | none => rfl
      | some x => simp; omega
set_option maxHeartbeats 1000000 in
theorem slices_Sort_spec {H : Hp} {sv : Value} {xs : List Int} {fp : Option Nat} (h : Sl H 1 sv xs.length (xs.map i64) fp) (hl : xs.length ≤ 1000000000) :
    CallH Tryz.prog n_slices_Sort_int_int [sv] H fun v H' => Post (v = .tuple [].toArray ∧ Sl H' 1 sv xs.length ((sortI xs).map i64) fp ∧ Ext (fun z => fp = some z) H H') := fun w hw => by
  obtain ⟨hx, h⟩ := h
  cases fp with
  | none =>
    obtain ⟨h0, rfl⟩ := h
    have hx0 : xs = [] := List.length_eq_zero_iff.1 h0
    subst hx0
    refine (Tryz.slices_Sort_int_none none 0 w).mono ?_
    rintro e w' ⟨rfl, rfl⟩
    exact ⟨_, rfl, Same.refl _, rfl, ⟨by simp [sortI], h0, rfl⟩, by rw [← hw]; exact Ext.refl _ _⟩
  | some b =>
    obtain ⟨l, c, rfl, ho, hc, hle, ht⟩ := h
    obtain ⟨T, fr, hb⟩ := own_parts ho
    rw [Nat.mul_one] at ht
    have hcell : ∀ j, j < xs.length → l[j]? = some (i64 xs[j]!) := fun j hj => by
      have : (xs.map i64)[j]? = some (i64 xs[j]!) := by rw [List.getElem?_map, List.getElem?_eq_getElem hj]; simp [hj]
      rw [← ht, List.getElem?_take, if_pos hj] at this
      exact this
    have hH : Holds (Value.int .i64) w b 0 xs.toArray := fun j hj => by
      rw [List.size_toArray] at hj
      refine ⟨?_, frozen_of_own (by rw [hw]; exact ho) _⟩
      rw [cell_of_rd (l := l) rfl (rd_of_own (by rw [hw]; exact ho))]
      simp only [Nat.zero_add]
      rw [hcell j hj]
      simp [hj]
    refine (Tryz.slices_Sort_int b 0 c xs w hH (by rw [hw]; exact own_lt ho) (by omega)).mono ?_
    rintro e w' ⟨rfl, n, os, rfl⟩
    have hput := putCells_list 0 (sortI xs) l (by rw [sortI_len]; omega)
    have hlt := own_lt ho
    have hheap : (grow (putRow (Value.int .i64) (Sort.ahead w n) b 0 (sortI xs).toArray) os).heap = (H.modify b (onCells (putCells (Value.int .i64) 0 (sortI xs).toArray))) ++ os := by
      rw [← hw]; rfl
    have hget : ((H.modify b (onCells (putCells (Value.int .i64) 0 (sortI xs).toArray))) ++ os)[b]? = some (.cells (putCells (Value.int .i64) 0 (sortI xs).toArray l.toArray) T fr) := by
      rw [Array.getElem?_append_left (by simpa using hlt), Array.getElem?_modify, if_pos rfl, hb]
      rfl
    refine ⟨_, rfl, ⟨rfl, rfl⟩, rfl, ⟨by simp [sortI_len], l.take 0 ++ (sortI xs).map i64 ++ l.drop (0 + (sortI xs).length), c, rfl, ?_, hc, ?_, ?_⟩, ?_⟩
    · show Hp.own (grow (putRow (Value.int .i64) (Sort.ahead w n) b 0 (sortI xs).toArray) os).heap b = _
      rw [hheap, ← hput]
      unfold Hp.own at ho ⊢
      rw [hb] at ho
      rw [hget]
      simp only at ho ⊢
      split at ho
      · rename_i hf
        simp only [hf, if_true]
      · cases ho
    · simp only [List.take_zero, List.nil_append, List.length_append, List.length_map, List.length_drop, sortI_len]
      omega
    · rw [Nat.mul_one, List.take_zero, List.nil_append]
      exact List.take_left' (by simp [sortI_len])
    · refine ⟨?_, fun k hk hn => ?_⟩
      · show _ ≤ (grow (putRow (Value.int .i64) (Sort.ahead w n) b 0 (sortI xs).toArray) os).heap.size
        rw [hheap]; simp
      · show (grow (putRow (Value.int .i64) (Sort.ahead w n) b 0 (sortI xs).toArray) os).heap[k]? = _
        rw [hheap, Array.getElem?_append_left (by simpa using hk), Array.getElem?_modify, if_neg (fun e => hn (by rw [e]))]
end Go.Proofs.YtjlnnljohemifaaGreat
