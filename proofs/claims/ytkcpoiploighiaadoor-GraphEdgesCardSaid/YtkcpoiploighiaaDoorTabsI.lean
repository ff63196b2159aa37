/-
  What the library's function on a number's text does, told of the heap; the table that it reads.
-/
import Derived.Test.YtkcpoiploighiaaDoorShelf
import Derived.Test.YtkcpoiploighiaaDoorBase
set_option linter.unusedVariables false
set_option linter.unusedSimpArgs false
namespace Go.Proofs.YtkcpoiploighiaaDoor
open Go Go.Vc Go.RowKit Go.Sort

/-- The table of the powers of ten is in memory. -/
def TabH (H : Hp) : Prop := ∀ w : World, w.heap = H → Lib.TabIs Tryd.prog w "internal/strconv.uint64pow10" .u64 Lib.pow10Tab

theorem var_keep {w w' : World} (e : Fresh w.heap w'.heap) {name : String} {cs : Array Value} (h : w.var? Tryd.prog name = some cs) : w'.var? Tryd.prog name = some cs := by
  unfold World.var? at *
  cases hg : Program.globalNamed Tryd.prog name with
  | none => rw [hg] at h; cases h
  | some g =>
    rw [hg] at h
    simp only [Option.bind_some] at h ⊢
    have hlt : g < w.heap.size := by
      rcases Nat.lt_or_ge g w.heap.size with h' | h'
      · exact h'
      · rw [Array.getElem?_eq_none h'] at h; cases h
    rw [show w'.heap[g]? = w.heap[g]? from e.keep g hlt (fun h => h)]
    exact h

theorem TabH.fresh {H H' : Hp} (h : TabH H) (e : Fresh H H') : TabH H' := fun w hw => by
  have h0 := h { w with heap := H } rfl
  exact var_keep (w := { w with heap := H }) (w' := w) (by rw [hw]; exact e) h0

theorem fresh_grow (w : World) (k : Nat) (os : Array Obj) : Same w (grow (w.drewN k) os) ∧ Fresh w.heap (grow (w.drewN k) os).heap := by
  refine ⟨⟨rfl, rfl⟩, ⟨?_, fun b hb _ => ?_⟩⟩
  · show w.heap.size ≤ (w.heap ++ os).size
    rw [Array.size_append]; omega
  · show (w.heap ++ os)[b]? = w.heap[b]?
    rw [Array.getElem?_append_left hb]

theorem callH_grow {f : FuncId} {args : List Value} {H : Hp} {v : Value} (h : ∀ w : World, w.heap = H → Calls Tryd.prog f args.toArray w fun e w' => e = .returned v ∧ ∃ k os, w' = grow (w.drewN k) os) :
    CallH Tryd.prog f args H fun v' H' => Post (v' = v ∧ Fresh H H') := fun w hw => by
  refine (h w hw).mono ?_
  rintro e w' ⟨rfl, k, os, rfl⟩
  obtain ⟨h1, h2⟩ := fresh_grow w k os
  exact ⟨v, rfl, h1, rfl, by rw [← hw]; exact h2⟩

abbrev strV (l : List UInt8) : Value := .string ⟨l.toArray⟩

theorem strconv_FormatInt_spec {H : Hp} (ht : TabH H) {n : Int} (h0 : -9223372036854775808 ≤ n) (h1 : n ≤ 9223372036854775807) : CallH Tryd.prog n_strconv_FormatInt [i64 n, i64 10] H fun v H' => Post (v = strV (Lib.itoa n) ∧ Fresh H H') :=
  callH_grow fun w hw => Tryd.strconv_FormatInt_10 n h0 h1 w (ht w hw)

theorem cat_bytes (a b : List UInt8) : (⟨a.toArray⟩ : ByteArray) ++ ⟨b.toArray⟩ = ⟨(a ++ b).toArray⟩ := by
  apply ByteArray.ext
  rw [ByteArray.data_append]
  simp

theorem cat_if (a b : List UInt8) (h : a.length + b.length ≤ 1000000) : (if ((a.toArray.size + b.toArray.size : Nat) : Int) > IntKind.i64.max then none else some (Value.string ((⟨a.toArray⟩ : ByteArray) ++ ⟨b.toArray⟩))) = some (strV (a ++ b)) := by
  have e1 : IntKind.i64.max = 9223372036854775807 := rfl
  rw [if_neg (by rw [e1]; simp only [List.size_toArray]; omega), cat_bytes]

theorem decDigits_len {u : Nat} (h : u < 18446744073709551616) : (Lib.decDigits u).length ≤ 20 := by
  rw [Lib.decDigits_length]
  rcases Nat.eq_zero_or_pos u with h0 | h0
  · subst h0; rw [Lib.nDigits_small (by omega)]; omega
  · have := Lib.numDigits_eq u h0 h
    split at this <;> omega

theorem itoa_len {n : Int} (h0 : -9223372036854775808 ≤ n) (h1 : n ≤ 9223372036854775807) : (Lib.itoa n).length ≤ 21 := by
  unfold Lib.itoa
  split
  · have := decDigits_len (u := n.natAbs) (by omega)
    simp only [List.length_cons]; omega
  · have := decDigits_len (u := n.toNat) (by omega)
    omega

theorem entry_Digits_spec {H : Hp} (ht : TabH H) {n : Int} (h0 : -9223372036854775808 ≤ n) (h1 : n ≤ 9223372036854775807) : CallH Tryd.prog n_entry_Digits [i64 n] H fun v H' => Post (v = strV (Lib.itoa n) ∧ Fresh H H') := by
  refine c_entry_Digits ⟨rfl, ?_⟩
  simp (disch := (first | omega | (simp only [size_new, size_newm, size_wr, size_wrm] <;> omega) | fail)) only [go_sem, Nat.reduceBEq, Nat.reduceAdd, Nat.reduceMul, Nat.reduceLeDiff, ↓reduceIte, rd_new_lt, own_new_lt, mp_new_lt, rd_newm_lt, own_newm_lt, mp_newm_lt, rd_wr_ne, own_wr_ne, mp_wr_ne, rd_wrm_ne, own_wrm_ne, mp_wrm_ne, rd_new_eq, own_new_eq, mp_newm_eq, s_entry_Digits]
  refine (strconv_FormatInt_spec ht h0 h1).mono ?_
  rintro _ H1 ⟨rfl, f1⟩
  simp (disch := (first | omega | (simp only [size_new, size_newm, size_wr, size_wrm] <;> omega) | fail)) only [go_sem, Nat.reduceBEq, Nat.reduceAdd, Nat.reduceMul, Nat.reduceLeDiff, ↓reduceIte, rd_new_lt, own_new_lt, mp_new_lt, rd_newm_lt, own_newm_lt, mp_newm_lt, rd_wr_ne, own_wr_ne, mp_wr_ne, rd_wrm_ne, own_wrm_ne, mp_wrm_ne, rd_new_eq, own_new_eq, mp_newm_eq]
  exact ⟨rfl, f1⟩

end Go.Proofs.YtkcpoiploighiaaDoor
