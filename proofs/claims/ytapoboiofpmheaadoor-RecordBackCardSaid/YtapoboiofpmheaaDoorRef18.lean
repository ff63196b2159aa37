/-
  The document's records: words, what can be, lines.
-/
import Derived.Test.YtapoboiofpmheaaDoorRecText
import Derived.Test.YtapoboiofpmheaaDoorRef01b
set_option linter.unusedVariables false
set_option linter.unusedSimpArgs false
namespace Go.Proofs.YtapoboiofpmheaaDoor
open Go Go.Vc

def wordsL : List (List UInt8) := (List.range 11).map wordOf
theorem words_at {i : Nat} (h : i ≤ 10) : (wordsL.map strV)[i]? = some (strV (wordOf i)) := by
  rcases ops i h with rfl | rfl | rfl | rfl | rfl | rfl | rfl | rfl | rfl | rfl | rfl <;> rfl

theorem ref18_Word_spec (H : Hp) (op : Int) : CallH Tryd.prog n_ref18_Word [i64 op] H fun v H' => Post (v = strV (if 0 ≤ op ∧ op ≤ 10 then wordOf op.toNat else []) ∧ Fresh H H') := by
  refine c_ref18_Word ⟨rfl, ?_⟩
  simp (disch := (first | omega | (simp only [size_new, size_newm, size_wr, size_wrm] <;> omega) | fail)) only [go_sem, Nat.reduceBEq, Nat.reduceAdd, Nat.reduceMul, Nat.reduceLeDiff, ↓reduceIte, rd_new_lt, own_new_lt, mp_new_lt, rd_newm_lt, own_newm_lt, mp_newm_lt, rd_wr_ne, own_wr_ne, mp_wr_ne, rd_wrm_ne, own_wrm_ne, mp_wrm_ne, rd_new_eq, own_new_eq, mp_newm_eq, s_ref18_Word]
  refine Both.dec (fun h1 => ?_) (fun h1 => ?_) <;> simp (disch := (first | omega | (simp only [size_new, size_newm, size_wr, size_wrm] <;> omega) | fail)) only [go_sem, Nat.reduceBEq, Nat.reduceAdd, Nat.reduceMul, Nat.reduceLeDiff, ↓reduceIte, rd_new_lt, own_new_lt, mp_new_lt, rd_newm_lt, own_newm_lt, mp_newm_lt, rd_wr_ne, own_wr_ne, mp_wr_ne, rd_wrm_ne, own_wrm_ne, mp_wrm_ne, rd_new_eq, own_new_eq, mp_newm_eq]
  · exact ⟨by rw [if_neg (by omega)]; rfl, Ext.refl _ _⟩
  refine Both.dec (fun h2 => ?_) (fun h2 => ?_) <;> simp (disch := (first | omega | (simp only [size_new, size_newm, size_wr, size_wrm] <;> omega) | fail)) only [go_sem, Nat.reduceBEq, Nat.reduceAdd, Nat.reduceMul, Nat.reduceLeDiff, ↓reduceIte, rd_new_lt, own_new_lt, mp_new_lt, rd_newm_lt, own_newm_lt, mp_newm_lt, rd_wr_ne, own_wr_ne, mp_wr_ne, rd_wrm_ne, own_wrm_ne, mp_wrm_ne, rd_new_eq, own_new_eq, mp_newm_eq]
  · exact ⟨by rw [if_neg (by omega)]; rfl, Ext.refl _ _⟩
  have f1 : Fresh H (H.new 9 (wordsL.map strV)) := (Ext.refl _ _).new _ _
  have o1 := own_new H 9 (wordsL.map strV)
  refine ⟨⟨by omega, by omega⟩, ?_⟩
  obtain ⟨i, rfl⟩ : ∃ i : Nat, op = i := ⟨op.toNat, by omega⟩
  simp (disch := (first | omega | (simp only [size_new, size_newm, size_wr, size_wrm] <;> omega) | fail)) only [go_sem, Nat.reduceBEq, Nat.reduceAdd, Nat.reduceMul, Nat.reduceLeDiff, ↓reduceIte, rd_new_lt, own_new_lt, mp_new_lt, rd_newm_lt, own_newm_lt, mp_newm_lt, rd_wr_ne, own_wr_ne, mp_wr_ne, rd_wrm_ne, own_wrm_ne, mp_wrm_ne, rd_new_eq, own_new_eq, mp_newm_eq, Int.toNat_natCast, Nat.mul_one, Nat.zero_add]
  refine withO_mk (v := strV (wordOf i)) (words_at (by omega)) ?_
  simp (disch := (first | omega | (simp only [size_new, size_newm, size_wr, size_wrm] <;> omega) | fail)) only [go_sem, Nat.reduceBEq, Nat.reduceAdd, Nat.reduceMul, Nat.reduceLeDiff, ↓reduceIte, rd_new_lt, own_new_lt, mp_new_lt, rd_newm_lt, own_newm_lt, mp_newm_lt, rd_wr_ne, own_wr_ne, mp_wr_ne, rd_wrm_ne, own_wrm_ne, mp_wrm_ne, rd_new_eq, own_new_eq, mp_newm_eq]
  exact ⟨by rw [if_pos (by omega)]; rfl, f1⟩

theorem ref18_A_spec (H : Hp) {i : Nat} (hi : i ≤ 10) : CallH Tryd.prog n_ref18_A [i64 i] H fun v H' => Post (v = .bool (hasA i) ∧ H' = H) := by
  refine c_ref18_A ⟨rfl, ?_⟩
  simp (disch := (first | omega | (simp only [size_new, size_newm, size_wr, size_wrm] <;> omega) | fail)) only [go_sem, Nat.reduceBEq, Nat.reduceAdd, Nat.reduceMul, Nat.reduceLeDiff, ↓reduceIte, rd_new_lt, own_new_lt, mp_new_lt, rd_newm_lt, own_newm_lt, mp_newm_lt, rd_wr_ne, own_wr_ne, mp_wr_ne, rd_wrm_ne, own_wrm_ne, mp_wrm_ne, rd_new_eq, own_new_eq, mp_newm_eq, s_ref18_A]
  unfold hasA
  refine Both.dec (fun h1 => ?_) (fun h1 => ?_) <;> simp (disch := (first | omega | (simp only [size_new, size_newm, size_wr, size_wrm] <;> omega) | fail)) only [go_sem, Nat.reduceBEq, Nat.reduceAdd, Nat.reduceMul, Nat.reduceLeDiff, ↓reduceIte, rd_new_lt, own_new_lt, mp_new_lt, rd_newm_lt, own_newm_lt, mp_newm_lt, rd_wr_ne, own_wr_ne, mp_wr_ne, rd_wrm_ne, own_wrm_ne, mp_wrm_ne, rd_new_eq, own_new_eq, mp_newm_eq]
  · exact ⟨congrArg Value.bool (decide_eq_decide.2 (by omega)), by trivial⟩
  · exact ⟨congrArg Value.bool (decide_eq_false (by omega)).symm, by trivial⟩

theorem ref18_B_spec (H : Hp) {i : Nat} (hi : i ≤ 10) : CallH Tryd.prog n_ref18_B [i64 i] H fun v H' => Post (v = .bool (hasB i) ∧ H' = H) := by
  refine c_ref18_B ⟨rfl, ?_⟩
  simp (disch := (first | omega | (simp only [size_new, size_newm, size_wr, size_wrm] <;> omega) | fail)) only [go_sem, Nat.reduceBEq, Nat.reduceAdd, Nat.reduceMul, Nat.reduceLeDiff, ↓reduceIte, rd_new_lt, own_new_lt, mp_new_lt, rd_newm_lt, own_newm_lt, mp_newm_lt, rd_wr_ne, own_wr_ne, mp_wr_ne, rd_wrm_ne, own_wrm_ne, mp_wrm_ne, rd_new_eq, own_new_eq, mp_newm_eq, s_ref18_B]
  have key : ∀ b, b = hasB i → tup [Value.bool b] = .bool (hasB i) ∧ H = H := fun b h => ⟨by rw [h]; rfl, rfl⟩
  refine Both.dec (fun h => ?_) (fun h5 => ?_) <;> simp (disch := (first | omega | (simp only [size_new, size_newm, size_wr, size_wrm] <;> omega) | fail)) only [go_sem, Nat.reduceBEq, Nat.reduceAdd, Nat.reduceMul, Nat.reduceLeDiff, ↓reduceIte, rd_new_lt, own_new_lt, mp_new_lt, rd_newm_lt, own_newm_lt, mp_newm_lt, rd_wr_ne, own_wr_ne, mp_wr_ne, rd_wrm_ne, own_wrm_ne, mp_wrm_ne, rd_new_eq, own_new_eq, mp_newm_eq]
  · exact key _ (by have e : i = 5 := by omega
                    subst e; rfl)
  refine Both.dec (fun h => ?_) (fun h6 => ?_) <;> simp (disch := (first | omega | (simp only [size_new, size_newm, size_wr, size_wrm] <;> omega) | fail)) only [go_sem, Nat.reduceBEq, Nat.reduceAdd, Nat.reduceMul, Nat.reduceLeDiff, ↓reduceIte, rd_new_lt, own_new_lt, mp_new_lt, rd_newm_lt, own_newm_lt, mp_newm_lt, rd_wr_ne, own_wr_ne, mp_wr_ne, rd_wrm_ne, own_wrm_ne, mp_wrm_ne, rd_new_eq, own_new_eq, mp_newm_eq]
  · exact key _ (by have e : i = 6 := by omega
                    subst e; rfl)
  refine Both.dec (fun h => ?_) (fun h7 => ?_) <;> simp (disch := (first | omega | (simp only [size_new, size_newm, size_wr, size_wrm] <;> omega) | fail)) only [go_sem, Nat.reduceBEq, Nat.reduceAdd, Nat.reduceMul, Nat.reduceLeDiff, ↓reduceIte, rd_new_lt, own_new_lt, mp_new_lt, rd_newm_lt, own_newm_lt, mp_newm_lt, rd_wr_ne, own_wr_ne, mp_wr_ne, rd_wrm_ne, own_wrm_ne, mp_wrm_ne, rd_new_eq, own_new_eq, mp_newm_eq]
  · exact key _ (by have e : i = 7 := by omega
                    subst e; rfl)
  refine Both.dec (fun h => ?_) (fun h9 => ?_) <;> simp (disch := (first | omega | (simp only [size_new, size_newm, size_wr, size_wrm] <;> omega) | fail)) only [go_sem, Nat.reduceBEq, Nat.reduceAdd, Nat.reduceMul, Nat.reduceLeDiff, ↓reduceIte, rd_new_lt, own_new_lt, mp_new_lt, rd_newm_lt, own_newm_lt, mp_newm_lt, rd_wr_ne, own_wr_ne, mp_wr_ne, rd_wrm_ne, own_wrm_ne, mp_wrm_ne, rd_new_eq, own_new_eq, mp_newm_eq]
  · exact key _ (by have e : i = 9 := by omega
                    subst e; rfl)
  refine key _ ?_
  have e : hasB i = (i == 10) := by
    rcases ops i hi with rfl | rfl | rfl | rfl | rfl | rfl | rfl | rfl | rfl | rfl | rfl <;> first | rfl | omega
  rw [e]
  by_cases h : i = 10
  · subst h; rfl
  · rw [decide_eq_false (by omega)]; simp [h]

theorem ref18_Key_spec (H : Hp) {i : Nat} (hi : i ≤ 10) : CallH Tryd.prog n_ref18_Key [i64 i] H fun v H' => Post (v = .bool (keyOf i) ∧ H' = H) := by
  refine c_ref18_Key ⟨rfl, ?_⟩
  simp (disch := (first | omega | (simp only [size_new, size_newm, size_wr, size_wrm] <;> omega) | fail)) only [go_sem, Nat.reduceBEq, Nat.reduceAdd, Nat.reduceMul, Nat.reduceLeDiff, ↓reduceIte, rd_new_lt, own_new_lt, mp_new_lt, rd_newm_lt, own_newm_lt, mp_newm_lt, rd_wr_ne, own_wr_ne, mp_wr_ne, rd_wrm_ne, own_wrm_ne, mp_wrm_ne, rd_new_eq, own_new_eq, mp_newm_eq, s_ref18_Key]
  refine Both.dec (fun h => ?_) (fun h2 => ?_) <;> simp (disch := (first | omega | (simp only [size_new, size_newm, size_wr, size_wrm] <;> omega) | fail)) only [go_sem, Nat.reduceBEq, Nat.reduceAdd, Nat.reduceMul, Nat.reduceLeDiff, ↓reduceIte, rd_new_lt, own_new_lt, mp_new_lt, rd_newm_lt, own_newm_lt, mp_newm_lt, rd_wr_ne, own_wr_ne, mp_wr_ne, rd_wrm_ne, own_wrm_ne, mp_wrm_ne, rd_new_eq, own_new_eq, mp_newm_eq]
  · exact ⟨by have e : i = 2 := by omega
              subst e; rfl, by trivial⟩
  refine ⟨congrArg Value.bool ?_, by trivial⟩
  have e : keyOf i = (i == 5) := by
    rcases ops i hi with rfl | rfl | rfl | rfl | rfl | rfl | rfl | rfl | rfl | rfl | rfl <;> first | rfl | omega
  rw [e]
  by_cases h : i = 5
  · subst h; rfl
  · rw [decide_eq_false (by omega)]; simp [h]

theorem ref18_Handle_spec (H : Hp) {i : Nat} (hi : i ≤ 10) : CallH Tryd.prog n_ref18_Handle [i64 i] H fun v H' => Post (v = .bool (handleOf i) ∧ H' = H) := by
  refine c_ref18_Handle ⟨rfl, ?_⟩
  simp (disch := (first | omega | (simp only [size_new, size_newm, size_wr, size_wrm] <;> omega) | fail)) only [go_sem, Nat.reduceBEq, Nat.reduceAdd, Nat.reduceMul, Nat.reduceLeDiff, ↓reduceIte, rd_new_lt, own_new_lt, mp_new_lt, rd_newm_lt, own_newm_lt, mp_newm_lt, rd_wr_ne, own_wr_ne, mp_wr_ne, rd_wrm_ne, own_wrm_ne, mp_wrm_ne, rd_new_eq, own_new_eq, mp_newm_eq, s_ref18_Handle]
  refine (ref18_B_spec H hi).mono ?_
  rintro _ _ ⟨rfl, rfl⟩
  simp (disch := (first | omega | (simp only [size_new, size_newm, size_wr, size_wrm] <;> omega) | fail)) only [go_sem, Nat.reduceBEq, Nat.reduceAdd, Nat.reduceMul, Nat.reduceLeDiff, ↓reduceIte, rd_new_lt, own_new_lt, mp_new_lt, rd_newm_lt, own_newm_lt, mp_newm_lt, rd_wr_ne, own_wr_ne, mp_wr_ne, rd_wrm_ne, own_wrm_ne, mp_wrm_ne, rd_new_eq, own_new_eq, mp_newm_eq]
  have e : handleOf i = (hasB i && !(i == 7)) := by
    rcases ops i hi with rfl | rfl | rfl | rfl | rfl | rfl | rfl | rfl | rfl | rfl | rfl <;> rfl
  cases hb : hasB i <;> simp (disch := (first | omega | (simp only [size_new, size_newm, size_wr, size_wrm] <;> omega) | fail)) only [go_sem, Nat.reduceBEq, Nat.reduceAdd, Nat.reduceMul, Nat.reduceLeDiff, ↓reduceIte, rd_new_lt, own_new_lt, mp_new_lt, rd_newm_lt, own_newm_lt, mp_newm_lt, rd_wr_ne, own_wr_ne, mp_wr_ne, rd_wrm_ne, own_wrm_ne, mp_wrm_ne, rd_new_eq, own_new_eq, mp_newm_eq]
  · exact ⟨by rw [e, hb]; rfl, by trivial⟩
  · refine ⟨?_, by trivial⟩
    rw [e, hb]
    by_cases h : i = 7
    · subst h; rfl
    · rw [decide_eq_false (by omega)]; simp [h, tup]

theorem word_ne {i : Nat} (hi : i ≤ 10) : wordOf i ≠ [] := by
  rcases ops i hi with rfl | rfl | rfl | rfl | rfl | rfl | rfl | rfl | rfl | rfl | rfl <;> simp [wordOf]

theorem ref18_Clean_spec (H : Hp) (op : Int) (a b : Nat) (k : Int) : CallH Tryd.prog n_ref18_Clean [recV op a b k] H fun v H' => Post (v = cleanV op a b k ∧ Fresh H H') := by
  refine c_ref18_Clean ⟨rfl, ?_⟩
  have f0 : Fresh H ((H.new 40 [i64 op, u32 a, u32 b, i64 k]).new 40 [i64 0, u32 0, u32 0, i64 0]) := ((Ext.refl _ _).new _ _).new _ _
  have b1 : ((H.new 40 [i64 op, u32 a, u32 b, i64 k]).new 40 [i64 0, u32 0, u32 0, i64 0]).own H.size = some [i64 op, u32 a, u32 b, i64 k] := by rw [own_new_lt (by rw [size_new]; omega)]; exact own_new _ _ _
  have b2 : ((H.new 40 [i64 op, u32 a, u32 b, i64 k]).new 40 [i64 0, u32 0, u32 0, i64 0]).own (H.size + 1) = some [i64 0, u32 0, u32 0, i64 0] := own_new_eq (by rw [size_new])
  have hz : ((H.new 40 [i64 op, u32 a, u32 b, i64 k]).new 40 [i64 0, u32 0, u32 0, i64 0]).size = H.size + 2 := by rw [size_new, size_new]
  simp (disch := (first | omega | (simp only [size_new, size_newm, size_wr, size_wrm] <;> omega) | fail)) only [go_sem, Nat.reduceBEq, Nat.reduceAdd, Nat.reduceMul, Nat.reduceLeDiff, ↓reduceIte, rd_new_lt, own_new_lt, mp_new_lt, rd_newm_lt, own_newm_lt, mp_newm_lt, rd_wr_ne, own_wr_ne, mp_wr_ne, rd_wrm_ne, own_wrm_ne, mp_wrm_ne, rd_new_eq, own_new_eq, mp_newm_eq, s_ref18_Clean]
  generalize (H.new 40 [i64 op, u32 a, u32 b, i64 k]).new 40 [i64 0, u32 0, u32 0, i64 0] = H0 at *
  have b3 := own_wr_same (l := [i64 0, u32 0, u32 0, i64 0]) (own_new H0 40 [i64 0, u32 0, u32 0, i64 0])
  have f1 : Fresh H0 ((H0.new 40 [i64 0, u32 0, u32 0, i64 0]).wr H0.size [i64 0, u32 0, u32 0, i64 0]) := ((Ext.refl _ _).new _ _).wr (fun h => absurd h (Nat.lt_irrefl _)) _
  rw [hz] at b3 f1
  rw [show H.size + 1 + 1 = H.size + 2 by omega]
  generalize (H0.new 40 [i64 0, u32 0, u32 0, i64 0]).wr (H.size + 2) [i64 0, u32 0, u32 0, i64 0] = H1 at *
  have c1 := f1.own b1 (fun h => h)
  have c2 := f1.own b2 (fun h => h)
  refine (ref18_Word_spec H1 op).mono ?_
  rintro _ H2 ⟨rfl, f2⟩
  have d1 := f2.own c1 (fun h => h)
  have d2 := f2.own c2 (fun h => h)
  have d3 := f2.own b3 (fun h => h)
  have f02 := f0.trans (f1.trans f2)
  simp (disch := (first | omega | (simp only [size_new, size_newm, size_wr, size_wrm] <;> omega) | fail)) only [go_sem, Nat.reduceBEq, Nat.reduceAdd, Nat.reduceMul, Nat.reduceLeDiff, ↓reduceIte, rd_new_lt, own_new_lt, mp_new_lt, rd_newm_lt, own_newm_lt, mp_newm_lt, rd_wr_ne, own_wr_ne, mp_wr_ne, rd_wrm_ne, own_wrm_ne, mp_wrm_ne, rd_new_eq, own_new_eq, mp_newm_eq, eq_none]
  by_cases hop : 0 ≤ op ∧ op ≤ 10
  rotate_left
  · rw [if_neg hop]
    refine Both.of_true (by simp) ?_
    simp (disch := (first | omega | (simp only [size_new, size_newm, size_wr, size_wrm] <;> omega) | fail)) only [go_sem, Nat.reduceBEq, Nat.reduceAdd, Nat.reduceMul, Nat.reduceLeDiff, ↓reduceIte, rd_new_lt, own_new_lt, mp_new_lt, rd_newm_lt, own_newm_lt, mp_newm_lt, rd_wr_ne, own_wr_ne, mp_wr_ne, rd_wrm_ne, own_wrm_ne, mp_wrm_ne, rd_new_eq, own_new_eq, mp_newm_eq, rd_of_own d3, d2]
    simp (disch := (first | omega | (simp only [size_new, size_newm, size_wr, size_wrm] <;> omega) | fail)) only [go_sem, Nat.reduceBEq, Nat.reduceAdd, Nat.reduceMul, Nat.reduceLeDiff, ↓reduceIte, rd_new_lt, own_new_lt, mp_new_lt, rd_newm_lt, own_newm_lt, mp_newm_lt, rd_wr_ne, own_wr_ne, mp_wr_ne, rd_wrm_ne, own_wrm_ne, mp_wrm_ne, rd_new_eq, own_new_eq, mp_newm_eq, rd_of_own (own_wr_same d2)]
    exact ⟨by rw [clean_out hop]; rfl, f02.then ((Ext.refl (fun z => z = H.size + 1) _).wr (fun _ => rfl) _) (fun z hz => by omega)⟩
  obtain ⟨i, rfl⟩ : ∃ i : Nat, op = i := ⟨op.toNat, by omega⟩
  have hi : i ≤ 10 := by omega
  rw [if_pos hop, Int.toNat_natCast]
  refine Both.of_false (by simp [word_ne hi]) ?_
  simp (disch := (first | omega | (simp only [size_new, size_newm, size_wr, size_wrm] <;> omega) | fail)) only [go_sem, Nat.reduceBEq, Nat.reduceAdd, Nat.reduceMul, Nat.reduceLeDiff, ↓reduceIte, rd_new_lt, own_new_lt, mp_new_lt, rd_newm_lt, own_newm_lt, mp_newm_lt, rd_wr_ne, own_wr_ne, mp_wr_ne, rd_wrm_ne, own_wrm_ne, mp_wrm_ne, rd_new_eq, own_new_eq, mp_newm_eq, rd_of_own d1, d3]
  have fw : ∀ {A : Hp} (l : List Value), Ext (fun z => z = H.size + 2) H2 A → Ext (fun z => z = H.size + 2) H2 (A.wr (H.size + 2) l) := fun l h => h.wr (fun _ => rfl) _
  have f3 : Ext (fun z => z = H.size + 2) H2 (H2.wr (H.size + 2) [i64 i, u32 0, u32 0, i64 0]) := fw _ (Ext.refl _ _)
  have s3 := own_wr_same (l := [i64 i, u32 0, u32 0, i64 0]) d3
  generalize H2.wr (H.size + 2) [i64 i, u32 0, u32 0, i64 0] = H3 at *
  have k1 := fun {A : Hp} (f : Ext (fun z => z = H.size + 2) H2 A) => f.own d1 (fun h => by omega)
  refine vc_cut (fun e H' => e.find 1 = some (ptr H.size) ∧ e.find 2 = some (ptr (H.size + 1)) ∧ e.find 3 = some (ptr (H.size + 2)) ∧ Ext (fun z => z = H.size + 2) H2 H' ∧ H'.own (H.size + 2) = some [i64 i, u32 (clA i a), u32 0, i64 0]) ?_ ?_
  · simp (disch := (first | omega | (simp only [size_new, size_newm, size_wr, size_wrm] <;> omega) | fail)) only [go_sem, Nat.reduceBEq, Nat.reduceAdd, Nat.reduceMul, Nat.reduceLeDiff, ↓reduceIte, rd_new_lt, own_new_lt, mp_new_lt, rd_newm_lt, own_newm_lt, mp_newm_lt, rd_wr_ne, own_wr_ne, mp_wr_ne, rd_wrm_ne, own_wrm_ne, mp_wrm_ne, rd_new_eq, own_new_eq, mp_newm_eq, rd_of_own (k1 f3)]
    refine (ref18_A_spec H3 hi).mono ?_
    rintro _ _ ⟨rfl, rfl⟩
    unfold clA
    cases hasA i <;> simp (disch := (first | omega | (simp only [size_new, size_newm, size_wr, size_wrm] <;> omega) | fail)) only [go_sem, Nat.reduceBEq, Nat.reduceAdd, Nat.reduceMul, Nat.reduceLeDiff, ↓reduceIte, rd_new_lt, own_new_lt, mp_new_lt, rd_newm_lt, own_newm_lt, mp_newm_lt, rd_wr_ne, own_wr_ne, mp_wr_ne, rd_wrm_ne, own_wrm_ne, mp_wrm_ne, rd_new_eq, own_new_eq, mp_newm_eq, rd_of_own (k1 f3), s3]
    · exact ⟨trivial, trivial, trivial, f3, rfl⟩
    · exact ⟨trivial, trivial, trivial, fw _ f3, own_wr_same s3⟩
  rintro e H4 ⟨v1, v2, v3, f4, s4⟩
  refine vc_cut (fun e H' => e.find 1 = some (ptr H.size) ∧ e.find 2 = some (ptr (H.size + 1)) ∧ e.find 3 = some (ptr (H.size + 2)) ∧ Ext (fun z => z = H.size + 2) H2 H' ∧ H'.own (H.size + 2) = some [i64 i, u32 (clA i a), u32 (clB i b), i64 0]) ?_ ?_
  · simp (disch := (first | omega | (simp only [size_new, size_newm, size_wr, size_wrm] <;> omega) | fail)) only [go_sem, Nat.reduceBEq, Nat.reduceAdd, Nat.reduceMul, Nat.reduceLeDiff, ↓reduceIte, rd_new_lt, own_new_lt, mp_new_lt, rd_newm_lt, own_newm_lt, mp_newm_lt, rd_wr_ne, own_wr_ne, mp_wr_ne, rd_wrm_ne, own_wrm_ne, mp_wrm_ne, rd_new_eq, own_new_eq, mp_newm_eq, v1, v2, v3, rd_of_own (k1 f4)]
    refine (ref18_B_spec H4 hi).mono ?_
    rintro _ _ ⟨rfl, rfl⟩
    unfold clB
    cases hasB i <;> simp (disch := (first | omega | (simp only [size_new, size_newm, size_wr, size_wrm] <;> omega) | fail)) only [go_sem, Nat.reduceBEq, Nat.reduceAdd, Nat.reduceMul, Nat.reduceLeDiff, ↓reduceIte, rd_new_lt, own_new_lt, mp_new_lt, rd_newm_lt, own_newm_lt, mp_newm_lt, rd_wr_ne, own_wr_ne, mp_wr_ne, rd_wrm_ne, own_wrm_ne, mp_wrm_ne, rd_new_eq, own_new_eq, mp_newm_eq, v1, v2, v3, rd_of_own (k1 f4), s4]
    · exact ⟨trivial, trivial, trivial, f4, rfl⟩
    · exact ⟨trivial, trivial, trivial, fw _ f4, own_wr_same s4⟩
  rintro e H5 ⟨v1, v2, v3, f5, s5⟩
  refine vc_cut (fun e H' => e.find 2 = some (ptr (H.size + 1)) ∧ e.find 3 = some (ptr (H.size + 2)) ∧ Ext (fun z => z = H.size + 2) H2 H' ∧ H'.own (H.size + 2) = some [i64 i, u32 (clA i a), u32 (clB i b), i64 (clK i k)]) ?_ ?_
  · simp (disch := (first | omega | (simp only [size_new, size_newm, size_wr, size_wrm] <;> omega) | fail)) only [go_sem, Nat.reduceBEq, Nat.reduceAdd, Nat.reduceMul, Nat.reduceLeDiff, ↓reduceIte, rd_new_lt, own_new_lt, mp_new_lt, rd_newm_lt, own_newm_lt, mp_newm_lt, rd_wr_ne, own_wr_ne, mp_wr_ne, rd_wrm_ne, own_wrm_ne, mp_wrm_ne, rd_new_eq, own_new_eq, mp_newm_eq, v1, v2, v3, rd_of_own (k1 f5)]
    refine (ref18_Key_spec H5 hi).mono ?_
    rintro _ _ ⟨rfl, rfl⟩
    unfold clK
    cases keyOf i <;> simp (disch := (first | omega | (simp only [size_new, size_newm, size_wr, size_wrm] <;> omega) | fail)) only [go_sem, Nat.reduceBEq, Nat.reduceAdd, Nat.reduceMul, Nat.reduceLeDiff, ↓reduceIte, rd_new_lt, own_new_lt, mp_new_lt, rd_newm_lt, own_newm_lt, mp_newm_lt, rd_wr_ne, own_wr_ne, mp_wr_ne, rd_wrm_ne, own_wrm_ne, mp_wrm_ne, rd_new_eq, own_new_eq, mp_newm_eq, v1, v2, v3, rd_of_own (k1 f5), s5]
    · exact ⟨trivial, trivial, f5, rfl⟩
    · exact ⟨trivial, trivial, fw _ f5, own_wr_same s5⟩
  rintro e H6 ⟨v2, v3, f6, s6⟩
  have d6 := f6.own d2 (fun h => by omega)
  simp (disch := (first | omega | (simp only [size_new, size_newm, size_wr, size_wrm] <;> omega) | fail)) only [go_sem, Nat.reduceBEq, Nat.reduceAdd, Nat.reduceMul, Nat.reduceLeDiff, ↓reduceIte, rd_new_lt, own_new_lt, mp_new_lt, rd_newm_lt, own_newm_lt, mp_newm_lt, rd_wr_ne, own_wr_ne, mp_wr_ne, rd_wrm_ne, own_wrm_ne, mp_wrm_ne, rd_new_eq, own_new_eq, mp_newm_eq, v2, v3, rd_of_own s6, d6]
  simp (disch := (first | omega | (simp only [size_new, size_newm, size_wr, size_wrm] <;> omega) | fail)) only [go_sem, Nat.reduceBEq, Nat.reduceAdd, Nat.reduceMul, Nat.reduceLeDiff, ↓reduceIte, rd_new_lt, own_new_lt, mp_new_lt, rd_newm_lt, own_newm_lt, mp_newm_lt, rd_wr_ne, own_wr_ne, mp_wr_ne, rd_wrm_ne, own_wrm_ne, mp_wrm_ne, rd_new_eq, own_new_eq, mp_newm_eq, rd_of_own (own_wr_same d6)]
  refine ⟨by rw [clean_in hi]; rfl, f02.then (((f6.mono fun z _ (h : z = H.size + 2) => (Or.inl h : z = H.size + 2 ∨ z = H.size + 1))).wr (fun _ => .inr rfl) _) (fun z hz => by omega)⟩

theorem ref18_Right_spec (H : Hp) (op : Int) (a b : Nat) (k : Int) : CallH Tryd.prog n_ref18_Right [recV op a b k] H fun v H' => Post (v = .bool (rightB op a b k) ∧ Fresh H H') := by
  refine c_ref18_Right ⟨rfl, ?_⟩
  have f0 : Fresh H (H.new 40 [i64 op, u32 a, u32 b, i64 k]) := (Ext.refl _ _).new _ _
  have b1 := own_new H 40 [i64 op, u32 a, u32 b, i64 k]
  obtain ⟨l, hl, hl4, hq⟩ := clean_eq op a b k
  simp (disch := (first | omega | (simp only [size_new, size_newm, size_wr, size_wrm] <;> omega) | fail)) only [go_sem, Nat.reduceBEq, Nat.reduceAdd, Nat.reduceMul, Nat.reduceLeDiff, ↓reduceIte, rd_new_lt, own_new_lt, mp_new_lt, rd_newm_lt, own_newm_lt, mp_newm_lt, rd_wr_ne, own_wr_ne, mp_wr_ne, rd_wrm_ne, own_wrm_ne, mp_wrm_ne, rd_new_eq, own_new_eq, mp_newm_eq, s_ref18_Right]
  generalize H.new 40 [i64 op, u32 a, u32 b, i64 k] = H0 at *
  refine InvV.intro (fun H' => H'.own H.size = some [i64 op, u32 a, u32 b, i64 k]) b1 ?_
  simp (disch := (first | omega | (simp only [size_new, size_newm, size_wr, size_wrm] <;> omega) | fail)) only [go_sem, Nat.reduceBEq, Nat.reduceAdd, Nat.reduceMul, Nat.reduceLeDiff, ↓reduceIte, rd_new_lt, own_new_lt, mp_new_lt, rd_newm_lt, own_newm_lt, mp_newm_lt, rd_wr_ne, own_wr_ne, mp_wr_ne, rd_wrm_ne, own_wrm_ne, mp_wrm_ne, rd_new_eq, own_new_eq, mp_newm_eq]
  refine StbV.intro (recV op a b k) (fun H' hI => ?_) ?_
  · simp (disch := (first | omega | (simp only [size_new, size_newm, size_wr, size_wrm] <;> omega) | fail)) only [go_sem, Nat.reduceBEq, Nat.reduceAdd, Nat.reduceMul, Nat.reduceLeDiff, ↓reduceIte, rd_new_lt, own_new_lt, mp_new_lt, rd_newm_lt, own_newm_lt, mp_newm_lt, rd_wr_ne, own_wr_ne, mp_wr_ne, rd_wrm_ne, own_wrm_ne, mp_wrm_ne, rd_new_eq, own_new_eq, mp_newm_eq, rd_of_own hI]
    exact ⟨trivial, trivial⟩
  simp (disch := (first | omega | (simp only [size_new, size_newm, size_wr, size_wrm] <;> omega) | fail)) only [go_sem, Nat.reduceBEq, Nat.reduceAdd, Nat.reduceMul, Nat.reduceLeDiff, ↓reduceIte, rd_new_lt, own_new_lt, mp_new_lt, rd_newm_lt, own_newm_lt, mp_newm_lt, rd_wr_ne, own_wr_ne, mp_wr_ne, rd_wrm_ne, own_wrm_ne, mp_wrm_ne, rd_new_eq, own_new_eq, mp_newm_eq, rd_of_own b1]
  refine And.intro b1 ?_
  simp (disch := (first | omega | (simp only [size_new, size_newm, size_wr, size_wrm] <;> omega) | fail)) only [go_sem, Nat.reduceBEq, Nat.reduceAdd, Nat.reduceMul, Nat.reduceLeDiff, ↓reduceIte, rd_new_lt, own_new_lt, mp_new_lt, rd_newm_lt, own_newm_lt, mp_newm_lt, rd_wr_ne, own_wr_ne, mp_wr_ne, rd_wrm_ne, own_wrm_ne, mp_wrm_ne, rd_new_eq, own_new_eq, mp_newm_eq]
  refine (ref18_Clean_spec H0 op a b k).mono ?_
  rintro _ H1 ⟨rfl, f1⟩
  refine And.intro (f1.own b1 (fun h => h)) ?_
  simp (disch := (first | omega | (simp only [size_new, size_newm, size_wr, size_wrm] <;> omega) | fail)) only [go_sem, Nat.reduceBEq, Nat.reduceAdd, Nat.reduceMul, Nat.reduceLeDiff, ↓reduceIte, rd_new_lt, own_new_lt, mp_new_lt, rd_newm_lt, own_newm_lt, mp_newm_lt, rd_wr_ne, own_wr_ne, mp_wr_ne, rd_wrm_ne, own_wrm_ne, mp_wrm_ne, rd_new_eq, own_new_eq, mp_newm_eq, hl, hq, Option.map_some]
  exact ⟨rfl, f0.trans f1⟩

theorem textR_cat {op a b : Nat} {k : Int} (h : op ≤ 10) : textR op a b k = ((wordOf op ++ (if hasA op then [32] ++ Lib.decDigits a else [])) ++ (if handleOf op then [46] ++ Lib.decDigits b else if hasB op then [32] ++ Lib.decDigits b else [])) ++ (if keyOf op then [32] ++ Lib.itoa k else []) := by
  unfold textR wordsR
  rcases ops op h with rfl | rfl | rfl | rfl | rfl | rfl | rfl | rfl | rfl | rfl | rfl <;> simp [wordOf, hasA, hasB, handleOf, heapsOf, keyOf, join_two, Lib.join_one]

theorem ref18_Text_spec (H : Hp) {op : Int} {a b : Nat} {k : Int} (hr : RecOk a b k) : CallH Tryd.prog n_ref18_Text [recV op a b k] H fun v H' => Post (v = strV (if rightB op a b k then textR op.toNat a b k else []) ∧ Fresh H H') := by
  refine c_ref18_Text ⟨rfl, ?_⟩
  have f0 : Fresh H (H.new 40 [i64 op, u32 a, u32 b, i64 k]) := (Ext.refl _ _).new _ _
  have b1 := own_new H 40 [i64 op, u32 a, u32 b, i64 k]
  simp (disch := (first | omega | (simp only [size_new, size_newm, size_wr, size_wrm] <;> omega) | fail)) only [go_sem, Nat.reduceBEq, Nat.reduceAdd, Nat.reduceMul, Nat.reduceLeDiff, ↓reduceIte, rd_new_lt, own_new_lt, mp_new_lt, rd_newm_lt, own_newm_lt, mp_newm_lt, rd_wr_ne, own_wr_ne, mp_wr_ne, rd_wrm_ne, own_wrm_ne, mp_wrm_ne, rd_new_eq, own_new_eq, mp_newm_eq, s_ref18_Text]
  generalize H.new 40 [i64 op, u32 a, u32 b, i64 k] = H0 at *
  refine (ref18_Right_spec H0 op a b k).mono ?_
  rintro _ H1 ⟨rfl, f1⟩
  have c1 := f1.own b1 (fun h => h)
  cases hr0 : rightB op a b k
  · simp (disch := (first | omega | (simp only [size_new, size_newm, size_wr, size_wrm] <;> omega) | fail)) only [go_sem, Nat.reduceBEq, Nat.reduceAdd, Nat.reduceMul, Nat.reduceLeDiff, ↓reduceIte, rd_new_lt, own_new_lt, mp_new_lt, rd_newm_lt, own_newm_lt, mp_newm_lt, rd_wr_ne, own_wr_ne, mp_wr_ne, rd_wrm_ne, own_wrm_ne, mp_wrm_ne, rd_new_eq, own_new_eq, mp_newm_eq, Bool.not_false]
    exact ⟨rfl, f0.trans f1⟩
  obtain ⟨i, rfl, hrr⟩ := rightB_right hr hr0
  have hi := hrr.le
  simp (disch := (first | omega | (simp only [size_new, size_newm, size_wr, size_wrm] <;> omega) | fail)) only [go_sem, Nat.reduceBEq, Nat.reduceAdd, Nat.reduceMul, Nat.reduceLeDiff, ↓reduceIte, rd_new_lt, own_new_lt, mp_new_lt, rd_newm_lt, own_newm_lt, mp_newm_lt, rd_wr_ne, own_wr_ne, mp_wr_ne, rd_wrm_ne, own_wrm_ne, mp_wrm_ne, rd_new_eq, own_new_eq, mp_newm_eq, Bool.not_true, rd_of_own c1]
  refine (ref18_Word_spec H1 i).mono ?_
  rintro _ H2 ⟨rfl, f2⟩
  rw [if_pos (c := 0 ≤ (i : Int) ∧ (i : Int) ≤ 10) (by omega), Int.toNat_natCast, if_pos rfl, textR_cat hi]
  have k1 := fun {A : Hp} (f : Fresh H1 A) => f.own c1 (fun h => h)
  have la := decDigits_len (u := a) (by have := hr.la; omega)
  have lb := decDigits_len (u := b) (by have := hr.lb; omega)
  have lk := itoa_len hr.k0 hr.k1
  have lw : (wordOf i).length ≤ 8 := by rcases ops i hi with rfl | rfl | rfl | rfl | rfl | rfl | rfl | rfl | rfl | rfl | rfl <;> simp [wordOf]
  simp (disch := (first | omega | (simp only [size_new, size_newm, size_wr, size_wrm] <;> omega) | fail)) only [go_sem, Nat.reduceBEq, Nat.reduceAdd, Nat.reduceMul, Nat.reduceLeDiff, ↓reduceIte, rd_new_lt, own_new_lt, mp_new_lt, rd_newm_lt, own_newm_lt, mp_newm_lt, rd_wr_ne, own_wr_ne, mp_wr_ne, rd_wrm_ne, own_wrm_ne, mp_wrm_ne, rd_new_eq, own_new_eq, mp_newm_eq]
  refine vc_cut (fun e H' => e.find 1 = some (ptr H.size) ∧ e.find 3 = some (strV (wordOf i ++ (if hasA i then [32] ++ Lib.decDigits a else []))) ∧ Fresh H1 H') ?_ ?_
  · simp (disch := (first | omega | (simp only [size_new, size_newm, size_wr, size_wrm] <;> omega) | fail)) only [go_sem, Nat.reduceBEq, Nat.reduceAdd, Nat.reduceMul, Nat.reduceLeDiff, ↓reduceIte, rd_new_lt, own_new_lt, mp_new_lt, rd_newm_lt, own_newm_lt, mp_newm_lt, rd_wr_ne, own_wr_ne, mp_wr_ne, rd_wrm_ne, own_wrm_ne, mp_wrm_ne, rd_new_eq, own_new_eq, mp_newm_eq, rd_of_own (k1 f2)]
    refine (ref18_A_spec H2 hi).mono ?_
    rintro _ _ ⟨rfl, rfl⟩
    cases hasA i <;> simp (disch := (first | omega | (simp only [size_new, size_newm, size_wr, size_wrm] <;> omega) | fail)) only [go_sem, Nat.reduceBEq, Nat.reduceAdd, Nat.reduceMul, Nat.reduceLeDiff, ↓reduceIte, rd_new_lt, own_new_lt, mp_new_lt, rd_newm_lt, own_newm_lt, mp_newm_lt, rd_wr_ne, own_wr_ne, mp_wr_ne, rd_wrm_ne, own_wrm_ne, mp_wrm_ne, rd_new_eq, own_new_eq, mp_newm_eq, rd_of_own (k1 f2), if_pos rfl]
    · exact ⟨trivial, by simp, f2⟩
    · rw [wrapU64 (n := (a : Int)) (by omega) (by have := hr.la; omega)]
      refine (ref01_Unsigned_spec _ (u := a) (by have := hr.la; omega)).mono ?_
      rintro _ H3 ⟨rfl, f3⟩
      simp (disch := (first | omega | (simp only [size_new, size_newm, size_wr, size_wrm] <;> omega) | fail)) only [go_sem, Nat.reduceBEq, Nat.reduceAdd, Nat.reduceMul, Nat.reduceLeDiff, ↓reduceIte, rd_new_lt, own_new_lt, mp_new_lt, rd_newm_lt, own_newm_lt, mp_newm_lt, rd_wr_ne, own_wr_ne, mp_wr_ne, rd_wrm_ne, own_wrm_ne, mp_wrm_ne, rd_new_eq, own_new_eq, mp_newm_eq]
      rw [cat_if [32] _ (by simp only [List.length_singleton]; omega)]
      simp (disch := (first | omega | (simp only [size_new, size_newm, size_wr, size_wrm] <;> omega) | fail)) only [go_sem, Nat.reduceBEq, Nat.reduceAdd, Nat.reduceMul, Nat.reduceLeDiff, ↓reduceIte, rd_new_lt, own_new_lt, mp_new_lt, rd_newm_lt, own_newm_lt, mp_newm_lt, rd_wr_ne, own_wr_ne, mp_wr_ne, rd_wrm_ne, own_wrm_ne, mp_wrm_ne, rd_new_eq, own_new_eq, mp_newm_eq]
      rw [cat_if _ ([32] ++ Lib.decDigits a) (by simp only [List.length_append, List.length_singleton]; omega)]
      simp (disch := (first | omega | (simp only [size_new, size_newm, size_wr, size_wrm] <;> omega) | fail)) only [go_sem, Nat.reduceBEq, Nat.reduceAdd, Nat.reduceMul, Nat.reduceLeDiff, ↓reduceIte, rd_new_lt, own_new_lt, mp_new_lt, rd_newm_lt, own_newm_lt, mp_newm_lt, rd_wr_ne, own_wr_ne, mp_wr_ne, rd_wrm_ne, own_wrm_ne, mp_wrm_ne, rd_new_eq, own_new_eq, mp_newm_eq]
      exact ⟨trivial, trivial, f2.trans f3⟩
  rintro e H3 ⟨v1, v3, f3⟩
  have hl1 : (wordOf i ++ (if hasA i then [32] ++ Lib.decDigits a else [])).length ≤ 40 := by
    rw [List.length_append]
    split
    · rw [List.length_append, List.length_singleton]; omega
    · rw [List.length_nil]; omega
  generalize wordOf i ++ (if hasA i then [32] ++ Lib.decDigits a else []) = t1 at *
  refine vc_cut (fun e H' => e.find 1 = some (ptr H.size) ∧ e.find 3 = some (strV (t1 ++ (if handleOf i then [46] ++ Lib.decDigits b else if hasB i then [32] ++ Lib.decDigits b else []))) ∧ Fresh H1 H') ?_ ?_
  · simp (disch := (first | omega | (simp only [size_new, size_newm, size_wr, size_wrm] <;> omega) | fail)) only [go_sem, Nat.reduceBEq, Nat.reduceAdd, Nat.reduceMul, Nat.reduceLeDiff, ↓reduceIte, rd_new_lt, own_new_lt, mp_new_lt, rd_newm_lt, own_newm_lt, mp_newm_lt, rd_wr_ne, own_wr_ne, mp_wr_ne, rd_wrm_ne, own_wrm_ne, mp_wrm_ne, rd_new_eq, own_new_eq, mp_newm_eq, v1, v3, rd_of_own (k1 f3)]
    refine (ref18_Handle_spec H3 hi).mono ?_
    rintro _ _ ⟨rfl, rfl⟩
    cases handleOf i <;> simp (disch := (first | omega | (simp only [size_new, size_newm, size_wr, size_wrm] <;> omega) | fail)) only [go_sem, Nat.reduceBEq, Nat.reduceAdd, Nat.reduceMul, Nat.reduceLeDiff, ↓reduceIte, rd_new_lt, own_new_lt, mp_new_lt, rd_newm_lt, own_newm_lt, mp_newm_lt, rd_wr_ne, own_wr_ne, mp_wr_ne, rd_wrm_ne, own_wrm_ne, mp_wrm_ne, rd_new_eq, own_new_eq, mp_newm_eq, v1, v3, rd_of_own (k1 f3), if_pos rfl]
    · refine (ref18_B_spec _ hi).mono ?_
      rintro _ _ ⟨rfl, rfl⟩
      cases hasB i <;> simp (disch := (first | omega | (simp only [size_new, size_newm, size_wr, size_wrm] <;> omega) | fail)) only [go_sem, Nat.reduceBEq, Nat.reduceAdd, Nat.reduceMul, Nat.reduceLeDiff, ↓reduceIte, rd_new_lt, own_new_lt, mp_new_lt, rd_newm_lt, own_newm_lt, mp_newm_lt, rd_wr_ne, own_wr_ne, mp_wr_ne, rd_wrm_ne, own_wrm_ne, mp_wrm_ne, rd_new_eq, own_new_eq, mp_newm_eq, v1, v3, rd_of_own (k1 f3), if_pos rfl]
      · exact ⟨trivial, by simp, f3⟩
      · rw [wrapU64 (n := (b : Int)) (by omega) (by have := hr.lb; omega)]
        refine (ref01_Unsigned_spec _ (u := b) (by have := hr.lb; omega)).mono ?_
        rintro _ H4 ⟨rfl, f4⟩
        simp (disch := (first | omega | (simp only [size_new, size_newm, size_wr, size_wrm] <;> omega) | fail)) only [go_sem, Nat.reduceBEq, Nat.reduceAdd, Nat.reduceMul, Nat.reduceLeDiff, ↓reduceIte, rd_new_lt, own_new_lt, mp_new_lt, rd_newm_lt, own_newm_lt, mp_newm_lt, rd_wr_ne, own_wr_ne, mp_wr_ne, rd_wrm_ne, own_wrm_ne, mp_wrm_ne, rd_new_eq, own_new_eq, mp_newm_eq]
        rw [cat_if [32] _ (by simp only [List.length_singleton]; omega)]
        simp (disch := (first | omega | (simp only [size_new, size_newm, size_wr, size_wrm] <;> omega) | fail)) only [go_sem, Nat.reduceBEq, Nat.reduceAdd, Nat.reduceMul, Nat.reduceLeDiff, ↓reduceIte, rd_new_lt, own_new_lt, mp_new_lt, rd_newm_lt, own_newm_lt, mp_newm_lt, rd_wr_ne, own_wr_ne, mp_wr_ne, rd_wrm_ne, own_wrm_ne, mp_wrm_ne, rd_new_eq, own_new_eq, mp_newm_eq]
        rw [cat_if _ ([32] ++ Lib.decDigits b) (by simp only [List.length_append, List.length_singleton]; omega)]
        simp (disch := (first | omega | (simp only [size_new, size_newm, size_wr, size_wrm] <;> omega) | fail)) only [go_sem, Nat.reduceBEq, Nat.reduceAdd, Nat.reduceMul, Nat.reduceLeDiff, ↓reduceIte, rd_new_lt, own_new_lt, mp_new_lt, rd_newm_lt, own_newm_lt, mp_newm_lt, rd_wr_ne, own_wr_ne, mp_wr_ne, rd_wrm_ne, own_wrm_ne, mp_wrm_ne, rd_new_eq, own_new_eq, mp_newm_eq]
        exact ⟨trivial, by simp, f3.trans f4⟩
    · rw [wrapU64 (n := (b : Int)) (by omega) (by have := hr.lb; omega)]
      refine (ref01_Unsigned_spec _ (u := b) (by have := hr.lb; omega)).mono ?_
      rintro _ H4 ⟨rfl, f4⟩
      simp (disch := (first | omega | (simp only [size_new, size_newm, size_wr, size_wrm] <;> omega) | fail)) only [go_sem, Nat.reduceBEq, Nat.reduceAdd, Nat.reduceMul, Nat.reduceLeDiff, ↓reduceIte, rd_new_lt, own_new_lt, mp_new_lt, rd_newm_lt, own_newm_lt, mp_newm_lt, rd_wr_ne, own_wr_ne, mp_wr_ne, rd_wrm_ne, own_wrm_ne, mp_wrm_ne, rd_new_eq, own_new_eq, mp_newm_eq]
      rw [cat_if [46] _ (by simp only [List.length_singleton]; omega)]
      simp (disch := (first | omega | (simp only [size_new, size_newm, size_wr, size_wrm] <;> omega) | fail)) only [go_sem, Nat.reduceBEq, Nat.reduceAdd, Nat.reduceMul, Nat.reduceLeDiff, ↓reduceIte, rd_new_lt, own_new_lt, mp_new_lt, rd_newm_lt, own_newm_lt, mp_newm_lt, rd_wr_ne, own_wr_ne, mp_wr_ne, rd_wrm_ne, own_wrm_ne, mp_wrm_ne, rd_new_eq, own_new_eq, mp_newm_eq]
      rw [cat_if _ ([46] ++ Lib.decDigits b) (by simp only [List.length_append, List.length_singleton]; omega)]
      simp (disch := (first | omega | (simp only [size_new, size_newm, size_wr, size_wrm] <;> omega) | fail)) only [go_sem, Nat.reduceBEq, Nat.reduceAdd, Nat.reduceMul, Nat.reduceLeDiff, ↓reduceIte, rd_new_lt, own_new_lt, mp_new_lt, rd_newm_lt, own_newm_lt, mp_newm_lt, rd_wr_ne, own_wr_ne, mp_wr_ne, rd_wrm_ne, own_wrm_ne, mp_wrm_ne, rd_new_eq, own_new_eq, mp_newm_eq]
      exact ⟨trivial, trivial, f3.trans f4⟩
  rintro e H4 ⟨v1, v3, f4⟩
  have hl2 : (t1 ++ (if handleOf i then [46] ++ Lib.decDigits b else if hasB i then [32] ++ Lib.decDigits b else [])).length ≤ 80 := by
    rw [List.length_append]
    split
    · rw [List.length_append, List.length_singleton]; omega
    · split
      · rw [List.length_append, List.length_singleton]; omega
      · rw [List.length_nil]; omega
  generalize t1 ++ (if handleOf i then [46] ++ Lib.decDigits b else if hasB i then [32] ++ Lib.decDigits b else []) = t2 at *
  refine vc_cut (fun e H' => e.find 3 = some (strV (t2 ++ (if keyOf i then [32] ++ Lib.itoa k else []))) ∧ Fresh H1 H') ?_ ?_
  · simp (disch := (first | omega | (simp only [size_new, size_newm, size_wr, size_wrm] <;> omega) | fail)) only [go_sem, Nat.reduceBEq, Nat.reduceAdd, Nat.reduceMul, Nat.reduceLeDiff, ↓reduceIte, rd_new_lt, own_new_lt, mp_new_lt, rd_newm_lt, own_newm_lt, mp_newm_lt, rd_wr_ne, own_wr_ne, mp_wr_ne, rd_wrm_ne, own_wrm_ne, mp_wrm_ne, rd_new_eq, own_new_eq, mp_newm_eq, v1, v3, rd_of_own (k1 f4)]
    refine (ref18_Key_spec H4 hi).mono ?_
    rintro _ _ ⟨rfl, rfl⟩
    cases keyOf i <;> simp (disch := (first | omega | (simp only [size_new, size_newm, size_wr, size_wrm] <;> omega) | fail)) only [go_sem, Nat.reduceBEq, Nat.reduceAdd, Nat.reduceMul, Nat.reduceLeDiff, ↓reduceIte, rd_new_lt, own_new_lt, mp_new_lt, rd_newm_lt, own_newm_lt, mp_newm_lt, rd_wr_ne, own_wr_ne, mp_wr_ne, rd_wrm_ne, own_wrm_ne, mp_wrm_ne, rd_new_eq, own_new_eq, mp_newm_eq, v1, v3, rd_of_own (k1 f4), if_pos rfl]
    · exact ⟨by simp, f4⟩
    · refine (ref01_Digits_spec _ hr.k0 hr.k1).mono ?_
      rintro _ H5 ⟨rfl, f5⟩
      simp (disch := (first | omega | (simp only [size_new, size_newm, size_wr, size_wrm] <;> omega) | fail)) only [go_sem, Nat.reduceBEq, Nat.reduceAdd, Nat.reduceMul, Nat.reduceLeDiff, ↓reduceIte, rd_new_lt, own_new_lt, mp_new_lt, rd_newm_lt, own_newm_lt, mp_newm_lt, rd_wr_ne, own_wr_ne, mp_wr_ne, rd_wrm_ne, own_wrm_ne, mp_wrm_ne, rd_new_eq, own_new_eq, mp_newm_eq]
      rw [cat_if [32] _ (by simp only [List.length_singleton]; omega)]
      simp (disch := (first | omega | (simp only [size_new, size_newm, size_wr, size_wrm] <;> omega) | fail)) only [go_sem, Nat.reduceBEq, Nat.reduceAdd, Nat.reduceMul, Nat.reduceLeDiff, ↓reduceIte, rd_new_lt, own_new_lt, mp_new_lt, rd_newm_lt, own_newm_lt, mp_newm_lt, rd_wr_ne, own_wr_ne, mp_wr_ne, rd_wrm_ne, own_wrm_ne, mp_wrm_ne, rd_new_eq, own_new_eq, mp_newm_eq]
      rw [cat_if _ ([32] ++ Lib.itoa k) (by simp only [List.length_append, List.length_singleton]; omega)]
      simp (disch := (first | omega | (simp only [size_new, size_newm, size_wr, size_wrm] <;> omega) | fail)) only [go_sem, Nat.reduceBEq, Nat.reduceAdd, Nat.reduceMul, Nat.reduceLeDiff, ↓reduceIte, rd_new_lt, own_new_lt, mp_new_lt, rd_newm_lt, own_newm_lt, mp_newm_lt, rd_wr_ne, own_wr_ne, mp_wr_ne, rd_wrm_ne, own_wrm_ne, mp_wrm_ne, rd_new_eq, own_new_eq, mp_newm_eq]
      exact ⟨trivial, f4.trans f5⟩
  rintro e H5 ⟨v3, f5⟩
  simp (disch := (first | omega | (simp only [size_new, size_newm, size_wr, size_wrm] <;> omega) | fail)) only [go_sem, Nat.reduceBEq, Nat.reduceAdd, Nat.reduceMul, Nat.reduceLeDiff, ↓reduceIte, rd_new_lt, own_new_lt, mp_new_lt, rd_newm_lt, own_newm_lt, mp_newm_lt, rd_wr_ne, own_wr_ne, mp_wr_ne, rd_wrm_ne, own_wrm_ne, mp_wrm_ne, rd_new_eq, own_new_eq, mp_newm_eq, v3]
  exact ⟨rfl, f0.trans (f1.trans f5)⟩

end Go.Proofs.YtapoboiofpmheaaDoor
