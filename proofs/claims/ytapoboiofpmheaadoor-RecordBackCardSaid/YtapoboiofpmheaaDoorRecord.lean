/-
  Records as values; the forms of operations; what the program makes of a record.
-/
import Derived.Test.YtapoboiofpmheaaDoorNums
import Derived.Test.YtapoboiofpmheaaDoorRecs
set_option linter.unusedVariables false
set_option linter.unusedSimpArgs false
namespace Go.Proofs.YtapoboiofpmheaaDoor
open Go Go.Vc

abbrev u32 (n : Int) : Value := .int .u32 n
/-- A record as a value. -/
abbrev recV (op : Int) (a b : Nat) (k : Int) : Value := .agg [i64 op, u32 a, u32 b, i64 k].toArray
def formRow (i : Nat) : List Value := [strV (wordOf i), i64 (heapsOf i), .bool (handleOf i), .bool (keyOf i)]
def formCells : List Value := (List.range 11).flatMap formRow

theorem form_at {i : Nat} (h : i ≤ 10) : (formCells.drop (i * 4)).take 4 = [strV (wordOf i), i64 (heapsOf i), .bool (handleOf i), .bool (keyOf i)] := by
  rcases ops i h with rfl | rfl | rfl | rfl | rfl | rfl | rfl | rfl | rfl | rfl | rfl <;> rfl
theorem form_len : formCells.length = 44 := rfl

theorem record_forms_spec (H : Hp) : CallH Tryd.prog n_record_forms [] H fun v H' => Post (v = .slice (some ⟨H.size, 0, none⟩) 11 11 ∧ H' = H.new 73 formCells) := by
  refine c_record_forms ⟨rfl, ?_⟩
  simp (disch := (first | omega | (simp only [size_new, size_newm, size_wr, size_wrm] <;> omega) | fail)) only [go_sem, Nat.reduceBEq, Nat.reduceAdd, Nat.reduceMul, Nat.reduceLeDiff, ↓reduceIte, rd_new_lt, own_new_lt, mp_new_lt, rd_newm_lt, own_newm_lt, mp_newm_lt, rd_wr_ne, own_wr_ne, mp_wr_ne, rd_wrm_ne, own_wrm_ne, mp_wrm_ne, rd_new_eq, own_new_eq, mp_newm_eq, s_record_forms]
  exact ⟨rfl, rfl⟩

/-- What can be of a record. -/
def cleanV (op : Int) (a b : Nat) (k : Int) : Value := if 0 ≤ op ∧ op ≤ 10 then recV op (clA op.toNat a) (clB op.toNat b) (clK op.toNat k) else recV 0 0 0 0
theorem clean_in {i : Nat} (h : i ≤ 10) (a b : Nat) (k : Int) : cleanV i a b k = recV i (clA i a) (clB i b) (clK i k) := by
  unfold cleanV
  rw [if_pos (by omega), Int.toNat_natCast]
theorem clean_out {op : Int} (h : ¬ (0 ≤ op ∧ op ≤ 10)) (a b : Nat) (k : Int) : cleanV op a b k = recV 0 0 0 0 := by
  unfold cleanV
  rw [if_neg h]

theorem record_Clean_spec (H : Hp) (op : Int) (a b : Nat) (k : Int) : CallH Tryd.prog n_record_Clean [recV op a b k] H fun v H' => Post (v = cleanV op a b k ∧ Fresh H H') := by
  refine c_record_Clean ⟨rfl, ?_⟩
  have f0 : Fresh H ((H.new 40 [i64 op, u32 a, u32 b, i64 k]).new 40 [i64 0, u32 0, u32 0, i64 0]) := ((Ext.refl _ _).new _ _).new _ _
  have b1 : ((H.new 40 [i64 op, u32 a, u32 b, i64 k]).new 40 [i64 0, u32 0, u32 0, i64 0]).own H.size = some [i64 op, u32 a, u32 b, i64 k] := by rw [own_new_lt (by rw [size_new]; omega)]; exact own_new _ _ _
  have b2 : ((H.new 40 [i64 op, u32 a, u32 b, i64 k]).new 40 [i64 0, u32 0, u32 0, i64 0]).own (H.size + 1) = some [i64 0, u32 0, u32 0, i64 0] := own_new_eq (by rw [size_new])
  simp (disch := (first | omega | (simp only [size_new, size_newm, size_wr, size_wrm] <;> omega) | fail)) only [go_sem, Nat.reduceBEq, Nat.reduceAdd, Nat.reduceMul, Nat.reduceLeDiff, ↓reduceIte, rd_new_lt, own_new_lt, mp_new_lt, rd_newm_lt, own_newm_lt, mp_newm_lt, rd_wr_ne, own_wr_ne, mp_wr_ne, rd_wrm_ne, own_wrm_ne, mp_wrm_ne, rd_new_eq, own_new_eq, mp_newm_eq, s_record_Clean]
  generalize (H.new 40 [i64 op, u32 a, u32 b, i64 k]).new 40 [i64 0, u32 0, u32 0, i64 0] = H0 at *
  have bad : ¬ (0 ≤ op ∧ op ≤ 10) → _ := fun h => h
  refine Both.dec (fun h1 => ?_) (fun h1 => ?_) <;> simp (disch := (first | omega | (simp only [size_new, size_newm, size_wr, size_wrm] <;> omega) | fail)) only [go_sem, Nat.reduceBEq, Nat.reduceAdd, Nat.reduceMul, Nat.reduceLeDiff, ↓reduceIte, rd_new_lt, own_new_lt, mp_new_lt, rd_newm_lt, own_newm_lt, mp_newm_lt, rd_wr_ne, own_wr_ne, mp_wr_ne, rd_wrm_ne, own_wrm_ne, mp_wrm_ne, rd_new_eq, own_new_eq, mp_newm_eq, rd_of_own b1]
  · simp (disch := (first | omega | (simp only [size_new, size_newm, size_wr, size_wrm] <;> omega) | fail)) only [go_sem, Nat.reduceBEq, Nat.reduceAdd, Nat.reduceMul, Nat.reduceLeDiff, ↓reduceIte, rd_new_lt, own_new_lt, mp_new_lt, rd_newm_lt, own_newm_lt, mp_newm_lt, rd_wr_ne, own_wr_ne, mp_wr_ne, rd_wrm_ne, own_wrm_ne, mp_wrm_ne, rd_new_eq, own_new_eq, mp_newm_eq, b2]
    simp (disch := (first | omega | (simp only [size_new, size_newm, size_wr, size_wrm] <;> omega) | fail)) only [go_sem, Nat.reduceBEq, Nat.reduceAdd, Nat.reduceMul, Nat.reduceLeDiff, ↓reduceIte, rd_new_lt, own_new_lt, mp_new_lt, rd_newm_lt, own_newm_lt, mp_newm_lt, rd_wr_ne, own_wr_ne, mp_wr_ne, rd_wrm_ne, own_wrm_ne, mp_wrm_ne, rd_new_eq, own_new_eq, mp_newm_eq, rd_of_own (own_wr_same b2)]
    exact ⟨by rw [clean_out (by omega)]; rfl, f0.then ((Ext.refl (fun z => z = H.size + 1) _).wr (fun _ => rfl) _) (fun z hz => by omega)⟩
  refine Both.dec (fun h2 => ?_) (fun h2 => ?_) <;> simp (disch := (first | omega | (simp only [size_new, size_newm, size_wr, size_wrm] <;> omega) | fail)) only [go_sem, Nat.reduceBEq, Nat.reduceAdd, Nat.reduceMul, Nat.reduceLeDiff, ↓reduceIte, rd_new_lt, own_new_lt, mp_new_lt, rd_newm_lt, own_newm_lt, mp_newm_lt, rd_wr_ne, own_wr_ne, mp_wr_ne, rd_wrm_ne, own_wrm_ne, mp_wrm_ne, rd_new_eq, own_new_eq, mp_newm_eq, rd_of_own b1]
  · simp (disch := (first | omega | (simp only [size_new, size_newm, size_wr, size_wrm] <;> omega) | fail)) only [go_sem, Nat.reduceBEq, Nat.reduceAdd, Nat.reduceMul, Nat.reduceLeDiff, ↓reduceIte, rd_new_lt, own_new_lt, mp_new_lt, rd_newm_lt, own_newm_lt, mp_newm_lt, rd_wr_ne, own_wr_ne, mp_wr_ne, rd_wrm_ne, own_wrm_ne, mp_wrm_ne, rd_new_eq, own_new_eq, mp_newm_eq, b2]
    simp (disch := (first | omega | (simp only [size_new, size_newm, size_wr, size_wrm] <;> omega) | fail)) only [go_sem, Nat.reduceBEq, Nat.reduceAdd, Nat.reduceMul, Nat.reduceLeDiff, ↓reduceIte, rd_new_lt, own_new_lt, mp_new_lt, rd_newm_lt, own_newm_lt, mp_newm_lt, rd_wr_ne, own_wr_ne, mp_wr_ne, rd_wrm_ne, own_wrm_ne, mp_wrm_ne, rd_new_eq, own_new_eq, mp_newm_eq, rd_of_own (own_wr_same b2)]
    exact ⟨by rw [clean_out (by omega)]; rfl, f0.then ((Ext.refl (fun z => z = H.size + 1) _).wr (fun _ => rfl) _) (fun z hz => by omega)⟩
  obtain ⟨i, rfl⟩ : ∃ i : Nat, op = i := ⟨op.toNat, by omega⟩
  have hi : i ≤ 10 := by omega
  refine vc_cut (fun e H' => ∃ x, e = [(1, ptr H.size), (2, ptr (H.size + 1)), (3, ptr x)] ∧ H0.size ≤ x ∧ Fresh H0 H' ∧ H'.own x = some (formRow i)) ?_ ?_
  · refine InvV.intro (fun H' => H'.own H.size = some [i64 i, u32 a, u32 b, i64 k]) b1 ?_
    simp (disch := (first | omega | (simp only [size_new, size_newm, size_wr, size_wrm] <;> omega) | fail)) only [go_sem, Nat.reduceBEq, Nat.reduceAdd, Nat.reduceMul, Nat.reduceLeDiff, ↓reduceIte, rd_new_lt, own_new_lt, mp_new_lt, rd_newm_lt, own_newm_lt, mp_newm_lt, rd_wr_ne, own_wr_ne, mp_wr_ne, rd_wrm_ne, own_wrm_ne, mp_wrm_ne, rd_new_eq, own_new_eq, mp_newm_eq]
    refine StbV.intro (i64 i) (fun H' hI => ?_) ?_
    · simp (disch := (first | omega | (simp only [size_new, size_newm, size_wr, size_wrm] <;> omega) | fail)) only [go_sem, Nat.reduceBEq, Nat.reduceAdd, Nat.reduceMul, Nat.reduceLeDiff, ↓reduceIte, rd_new_lt, own_new_lt, mp_new_lt, rd_newm_lt, own_newm_lt, mp_newm_lt, rd_wr_ne, own_wr_ne, mp_wr_ne, rd_wrm_ne, own_wrm_ne, mp_wrm_ne, rd_new_eq, own_new_eq, mp_newm_eq, rd_of_own hI]
      exact ⟨trivial, trivial⟩
    simp (disch := (first | omega | (simp only [size_new, size_newm, size_wr, size_wrm] <;> omega) | fail)) only [go_sem, Nat.reduceBEq, Nat.reduceAdd, Nat.reduceMul, Nat.reduceLeDiff, ↓reduceIte, rd_new_lt, own_new_lt, mp_new_lt, rd_newm_lt, own_newm_lt, mp_newm_lt, rd_wr_ne, own_wr_ne, mp_wr_ne, rd_wrm_ne, own_wrm_ne, mp_wrm_ne, rd_new_eq, own_new_eq, mp_newm_eq]
    have hb1 : H.size < H0.size := own_lt b1
    have p1 := own_new H0 73 formCells
    have q1 : Fresh H0 (H0.new 73 formCells) := (Ext.refl _ _).new _ _
    have i1 := q1.own b1 (fun h => h)
    have z1 : (H0.new 73 formCells).size = H0.size + 1 := by rw [size_new]
    refine Two.intro ?_ ?_
    · simp (disch := (first | omega | (simp only [size_new, size_newm, size_wr, size_wrm] <;> omega) | fail)) only [go_sem, Nat.reduceBEq, Nat.reduceAdd, Nat.reduceMul, Nat.reduceLeDiff, ↓reduceIte, rd_new_lt, own_new_lt, mp_new_lt, rd_newm_lt, own_newm_lt, mp_newm_lt, rd_wr_ne, own_wr_ne, mp_wr_ne, rd_wrm_ne, own_wrm_ne, mp_wrm_ne, rd_new_eq, own_new_eq, mp_newm_eq]
      refine (record_forms_spec H0).mono ?_
      rintro _ _ ⟨rfl, rfl⟩
      refine And.intro i1 ?_
      simp (disch := (first | omega | (simp only [size_new, size_newm, size_wr, size_wrm] <;> omega) | fail)) only [go_sem, Nat.reduceBEq, Nat.reduceAdd, Nat.reduceMul, Nat.reduceLeDiff, ↓reduceIte, rd_new_lt, own_new_lt, mp_new_lt, rd_newm_lt, own_newm_lt, mp_newm_lt, rd_wr_ne, own_wr_ne, mp_wr_ne, rd_wrm_ne, own_wrm_ne, mp_wrm_ne, rd_new_eq, own_new_eq, mp_newm_eq]
      generalize H0.new 73 formCells = H1 at *
      refine ⟨⟨by omega, by omega⟩, ?_⟩
      have p2 := own_new H1 73 [.string ⟨#[]⟩, i64 0, .bool false, .bool false]
      have q2 : Fresh H1 (H1.new 73 [.string ⟨#[]⟩, i64 0, .bool false, .bool false]) := (Ext.refl _ _).new _ _
      have i2 := q2.own i1 (fun h => h)
      have p12 := q2.own p1 (fun h => h)
      have fin : ∀ l', l' = [strV (wordOf i), i64 (heapsOf i), .bool (handleOf i), .bool (keyOf i)] → ((H1.new 73 [.string ⟨#[]⟩, i64 0, .bool false, .bool false]).wr H1.size l').own H.size = some [i64 i, u32 a, u32 b, i64 k] ∧ Fresh H0 ((H1.new 73 [.string ⟨#[]⟩, i64 0, .bool false, .bool false]).wr H1.size l') ∧ ((H1.new 73 [.string ⟨#[]⟩, i64 0, .bool false, .bool false]).wr H1.size l').own H1.size = some (formRow i) := fun l' e => by
        subst e
        refine ⟨by rw [own_wr_ne (by omega)]; exact i2, (q1.trans q2).then ((Ext.refl (fun z => z = H1.size) _).wr (fun _ => rfl) _) (fun z hz => by omega), own_wr_same p2⟩
      refine Two.intro ?_ ?_
      · simp (disch := (first | omega | (simp only [size_new, size_newm, size_wr, size_wrm] <;> omega) | fail)) only [go_sem, Nat.reduceBEq, Nat.reduceAdd, Nat.reduceMul, Nat.reduceLeDiff, ↓reduceIte, rd_new_lt, own_new_lt, mp_new_lt, rd_newm_lt, own_newm_lt, mp_newm_lt, rd_wr_ne, own_wr_ne, mp_wr_ne, rd_wrm_ne, own_wrm_ne, mp_wrm_ne, rd_new_eq, own_new_eq, mp_newm_eq, rd_of_own p1, Int.toNat_natCast, Nat.zero_add, form_at hi]
        refine ⟨by rw [form_len]; omega, i1, ?_⟩
        simp (disch := (first | omega | (simp only [size_new, size_newm, size_wr, size_wrm] <;> omega) | fail)) only [go_sem, Nat.reduceBEq, Nat.reduceAdd, Nat.reduceMul, Nat.reduceLeDiff, ↓reduceIte, rd_new_lt, own_new_lt, mp_new_lt, rd_newm_lt, own_newm_lt, mp_newm_lt, rd_wr_ne, own_wr_ne, mp_wr_ne, rd_wrm_ne, own_wrm_ne, mp_wrm_ne, rd_new_eq, own_new_eq, mp_newm_eq]
        refine And.intro (by first | exact i1 | exact i2) ?_
        simp (disch := (first | omega | (simp only [size_new, size_newm, size_wr, size_wrm] <;> omega) | fail)) only [go_sem, Nat.reduceBEq, Nat.reduceAdd, Nat.reduceMul, Nat.reduceLeDiff, ↓reduceIte, rd_new_lt, own_new_lt, mp_new_lt, rd_newm_lt, own_newm_lt, mp_newm_lt, rd_wr_ne, own_wr_ne, mp_wr_ne, rd_wrm_ne, own_wrm_ne, mp_wrm_ne, rd_new_eq, own_new_eq, mp_newm_eq, form_at hi, p2]
        obtain ⟨g1, g2, g3⟩ := fin _ rfl
        refine And.intro (by first | exact g1 | exact i2 | exact i1) ?_
        simp (disch := (first | omega | (simp only [size_new, size_newm, size_wr, size_wrm] <;> omega) | fail)) only [go_sem, Nat.reduceBEq, Nat.reduceAdd, Nat.reduceMul, Nat.reduceLeDiff, ↓reduceIte, rd_new_lt, own_new_lt, mp_new_lt, rd_newm_lt, own_newm_lt, mp_newm_lt, rd_wr_ne, own_wr_ne, mp_wr_ne, rd_wrm_ne, own_wrm_ne, mp_wrm_ne, rd_new_eq, own_new_eq, mp_newm_eq]
        exact ⟨_, rfl, by omega, g2, g3⟩
      · simp (disch := (first | omega | (simp only [size_new, size_newm, size_wr, size_wrm] <;> omega) | fail)) only [go_sem, Nat.reduceBEq, Nat.reduceAdd, Nat.reduceMul, Nat.reduceLeDiff, ↓reduceIte, rd_new_lt, own_new_lt, mp_new_lt, rd_newm_lt, own_newm_lt, mp_newm_lt, rd_wr_ne, own_wr_ne, mp_wr_ne, rd_wrm_ne, own_wrm_ne, mp_wrm_ne, rd_new_eq, own_new_eq, mp_newm_eq]
        refine And.intro (by first | exact i1 | exact i2) ?_
        simp (disch := (first | omega | (simp only [size_new, size_newm, size_wr, size_wrm] <;> omega) | fail)) only [go_sem, Nat.reduceBEq, Nat.reduceAdd, Nat.reduceMul, Nat.reduceLeDiff, ↓reduceIte, rd_new_lt, own_new_lt, mp_new_lt, rd_newm_lt, own_newm_lt, mp_newm_lt, rd_wr_ne, own_wr_ne, mp_wr_ne, rd_wrm_ne, own_wrm_ne, mp_wrm_ne, rd_new_eq, own_new_eq, mp_newm_eq, rd_of_own p12, Int.toNat_natCast, Nat.zero_add, form_at hi]
        refine ⟨by rw [form_len]; omega, (by first | exact i1 | exact i2), ?_⟩
        simp (disch := (first | omega | (simp only [size_new, size_newm, size_wr, size_wrm] <;> omega) | fail)) only [go_sem, Nat.reduceBEq, Nat.reduceAdd, Nat.reduceMul, Nat.reduceLeDiff, ↓reduceIte, rd_new_lt, own_new_lt, mp_new_lt, rd_newm_lt, own_newm_lt, mp_newm_lt, rd_wr_ne, own_wr_ne, mp_wr_ne, rd_wrm_ne, own_wrm_ne, mp_wrm_ne, rd_new_eq, own_new_eq, mp_newm_eq, form_at hi, p2]
        obtain ⟨g1, g2, g3⟩ := fin _ rfl
        refine And.intro (by first | exact g1 | exact i2 | exact i1) ?_
        simp (disch := (first | omega | (simp only [size_new, size_newm, size_wr, size_wrm] <;> omega) | fail)) only [go_sem, Nat.reduceBEq, Nat.reduceAdd, Nat.reduceMul, Nat.reduceLeDiff, ↓reduceIte, rd_new_lt, own_new_lt, mp_new_lt, rd_newm_lt, own_newm_lt, mp_newm_lt, rd_wr_ne, own_wr_ne, mp_wr_ne, rd_wrm_ne, own_wrm_ne, mp_wrm_ne, rd_new_eq, own_new_eq, mp_newm_eq]
        exact ⟨_, rfl, by omega, g2, g3⟩
    · have p3 := own_new H0 73 [.string ⟨#[]⟩, i64 0, .bool false, .bool false]
      have q3 : Fresh H0 (H0.new 73 [.string ⟨#[]⟩, i64 0, .bool false, .bool false]) := (Ext.refl _ _).new _ _
      have i3 := q3.own b1 (fun h => h)
      have z3 : (H0.new 73 [.string ⟨#[]⟩, i64 0, .bool false, .bool false]).size = H0.size + 1 := by rw [size_new]
      simp (disch := (first | omega | (simp only [size_new, size_newm, size_wr, size_wrm] <;> omega) | fail)) only [go_sem, Nat.reduceBEq, Nat.reduceAdd, Nat.reduceMul, Nat.reduceLeDiff, ↓reduceIte, rd_new_lt, own_new_lt, mp_new_lt, rd_newm_lt, own_newm_lt, mp_newm_lt, rd_wr_ne, own_wr_ne, mp_wr_ne, rd_wrm_ne, own_wrm_ne, mp_wrm_ne, rd_new_eq, own_new_eq, mp_newm_eq]
      refine And.intro (by first | exact b1 | exact i3) ?_
      simp (disch := (first | omega | (simp only [size_new, size_newm, size_wr, size_wrm] <;> omega) | fail)) only [go_sem, Nat.reduceBEq, Nat.reduceAdd, Nat.reduceMul, Nat.reduceLeDiff, ↓reduceIte, rd_new_lt, own_new_lt, mp_new_lt, rd_newm_lt, own_newm_lt, mp_newm_lt, rd_wr_ne, own_wr_ne, mp_wr_ne, rd_wrm_ne, own_wrm_ne, mp_wrm_ne, rd_new_eq, own_new_eq, mp_newm_eq]
      generalize H0.new 73 [.string ⟨#[]⟩, i64 0, .bool false, .bool false] = H1 at *
      refine (record_forms_spec H1).mono ?_
      rintro _ _ ⟨rfl, rfl⟩
      have p4 := own_new H1 73 formCells
      have q4 : Fresh H1 (H1.new 73 formCells) := (Ext.refl _ _).new _ _
      have i4 := q4.own i3 (fun h => h)
      have p34 := q4.own p3 (fun h => h)
      refine And.intro i4 ?_
      simp (disch := (first | omega | (simp only [size_new, size_newm, size_wr, size_wrm] <;> omega) | fail)) only [go_sem, Nat.reduceBEq, Nat.reduceAdd, Nat.reduceMul, Nat.reduceLeDiff, ↓reduceIte, rd_new_lt, own_new_lt, mp_new_lt, rd_newm_lt, own_newm_lt, mp_newm_lt, rd_wr_ne, own_wr_ne, mp_wr_ne, rd_wrm_ne, own_wrm_ne, mp_wrm_ne, rd_new_eq, own_new_eq, mp_newm_eq]
      generalize H1.new 73 formCells = H2 at *
      refine ⟨⟨by omega, by omega⟩, ?_⟩
      simp (disch := (first | omega | (simp only [size_new, size_newm, size_wr, size_wrm] <;> omega) | fail)) only [go_sem, Nat.reduceBEq, Nat.reduceAdd, Nat.reduceMul, Nat.reduceLeDiff, ↓reduceIte, rd_new_lt, own_new_lt, mp_new_lt, rd_newm_lt, own_newm_lt, mp_newm_lt, rd_wr_ne, own_wr_ne, mp_wr_ne, rd_wrm_ne, own_wrm_ne, mp_wrm_ne, rd_new_eq, own_new_eq, mp_newm_eq, rd_of_own p4, Int.toNat_natCast, Nat.zero_add, form_at hi]
      refine ⟨by rw [form_len]; omega, i4, ?_⟩
      simp (disch := (first | omega | (simp only [size_new, size_newm, size_wr, size_wrm] <;> omega) | fail)) only [go_sem, Nat.reduceBEq, Nat.reduceAdd, Nat.reduceMul, Nat.reduceLeDiff, ↓reduceIte, rd_new_lt, own_new_lt, mp_new_lt, rd_newm_lt, own_newm_lt, mp_newm_lt, rd_wr_ne, own_wr_ne, mp_wr_ne, rd_wrm_ne, own_wrm_ne, mp_wrm_ne, rd_new_eq, own_new_eq, mp_newm_eq, form_at hi, p34]
      refine And.intro (by first | exact i4 | (rw [own_wr_ne (by omega)]; exact i4)) ?_
      simp (disch := (first | omega | (simp only [size_new, size_newm, size_wr, size_wrm] <;> omega) | fail)) only [go_sem, Nat.reduceBEq, Nat.reduceAdd, Nat.reduceMul, Nat.reduceLeDiff, ↓reduceIte, rd_new_lt, own_new_lt, mp_new_lt, rd_newm_lt, own_newm_lt, mp_newm_lt, rd_wr_ne, own_wr_ne, mp_wr_ne, rd_wrm_ne, own_wrm_ne, mp_wrm_ne, rd_new_eq, own_new_eq, mp_newm_eq]
      exact ⟨_, rfl, by omega, (q3.trans q4).then ((Ext.refl (fun z => z = H0.size) _).wr (fun _ => rfl) _) (fun z hz => by omega), own_wr_same p34⟩
  · rintro e H1 ⟨x, rfl, hx, f1, o1⟩
    have o2 := f1.own b1 (fun h => h)
    have o3 := f1.own b2 (fun h => h)
    have hb2 := own_lt b2
    have wr : ∀ {A : Hp} (l : List Value), Ext (fun z => z = H.size) H0 A → Ext (fun z => z = H.size) H0 (A.wr H.size l) := fun l h => h.wr (fun _ => rfl) _
    have hr1 : formRow i = [strV (wordOf i), i64 (heapsOf i), .bool (handleOf i), .bool (keyOf i)] := rfl
    have hne : x ≠ H.size := by omega
    refine vc_cut (fun e H' => e.find 1 = some (ptr H.size) ∧ e.find 2 = some (ptr (H.size + 1)) ∧ e.find 3 = some (ptr x) ∧ Ext (fun z => z = H.size) H0 H' ∧ H'.own x = some (formRow i) ∧ H'.own H.size = some [i64 i, u32 (clA i a), u32 b, i64 k]) ?_ ?_
    · have e1 : clA i a = if heapsOf i = 0 ∧ handleOf i = false then 0 else a := by
        rcases ops i hi with rfl | rfl | rfl | rfl | rfl | rfl | rfl | rfl | rfl | rfl | rfl <;> simp [clA, hasA, heapsOf, handleOf]
      have f1' : Ext (fun z => z = H.size) H0 H1 := f1.mono fun _ _ h => h.elim
      rw [e1]
      rw [hr1] at o1 ⊢
      simp (disch := (first | omega | (simp only [size_new, size_newm, size_wr, size_wrm] <;> omega) | fail)) only [go_sem, Nat.reduceBEq, Nat.reduceAdd, Nat.reduceMul, Nat.reduceLeDiff, ↓reduceIte, rd_new_lt, own_new_lt, mp_new_lt, rd_newm_lt, own_newm_lt, mp_newm_lt, rd_wr_ne, own_wr_ne, mp_wr_ne, rd_wrm_ne, own_wrm_ne, mp_wrm_ne, rd_new_eq, own_new_eq, mp_newm_eq, rd_of_own o1]
      cases hh : handleOf i <;> rw [hh] at o1 <;> refine Both.dec (fun h3 => ?_) (fun h3 => ?_) <;> simp (disch := (first | omega | (simp only [size_new, size_newm, size_wr, size_wrm] <;> omega) | fail)) only [go_sem, Nat.reduceBEq, Nat.reduceAdd, Nat.reduceMul, Nat.reduceLeDiff, ↓reduceIte, rd_new_lt, own_new_lt, mp_new_lt, rd_newm_lt, own_newm_lt, mp_newm_lt, rd_wr_ne, own_wr_ne, mp_wr_ne, rd_wrm_ne, own_wrm_ne, mp_wrm_ne, rd_new_eq, own_new_eq, mp_newm_eq, rd_of_own o1, Bool.not_false, Bool.not_true, o2]
      · refine ⟨trivial, trivial, trivial, wr _ f1', o1, ?_⟩
        rw [if_pos ⟨by omega, trivial⟩]
        exact own_wr_same o2
      all_goals
        refine ⟨trivial, trivial, trivial, f1', o1, ?_⟩
        rw [if_neg (by simp; try omega)]
    rintro e H2 ⟨v1, v2, v3, f2, o4, o5⟩
    have o6 := f2.own b2 (fun h => by omega)
    refine vc_cut (fun e H' => e.find 1 = some (ptr H.size) ∧ e.find 2 = some (ptr (H.size + 1)) ∧ e.find 3 = some (ptr x) ∧ Ext (fun z => z = H.size) H0 H' ∧ H'.own x = some (formRow i) ∧ H'.own H.size = some [i64 i, u32 (clA i a), u32 (clB i b), i64 k]) ?_ ?_
    · have e1 : clB i b = if heapsOf i < 2 ∧ handleOf i = false then 0 else b := by
        rcases ops i hi with rfl | rfl | rfl | rfl | rfl | rfl | rfl | rfl | rfl | rfl | rfl <;> simp [clB, hasB, heapsOf, handleOf]
      rw [e1]
      rw [hr1] at o4 ⊢
      simp (disch := (first | omega | (simp only [size_new, size_newm, size_wr, size_wrm] <;> omega) | fail)) only [go_sem, Nat.reduceBEq, Nat.reduceAdd, Nat.reduceMul, Nat.reduceLeDiff, ↓reduceIte, rd_new_lt, own_new_lt, mp_new_lt, rd_newm_lt, own_newm_lt, mp_newm_lt, rd_wr_ne, own_wr_ne, mp_wr_ne, rd_wrm_ne, own_wrm_ne, mp_wrm_ne, rd_new_eq, own_new_eq, mp_newm_eq, rd_of_own o4, v1, v2, v3]
      cases hh : handleOf i <;> rw [hh] at o4 <;> refine Both.dec (fun h3 => ?_) (fun h3 => ?_) <;> simp (disch := (first | omega | (simp only [size_new, size_newm, size_wr, size_wrm] <;> omega) | fail)) only [go_sem, Nat.reduceBEq, Nat.reduceAdd, Nat.reduceMul, Nat.reduceLeDiff, ↓reduceIte, rd_new_lt, own_new_lt, mp_new_lt, rd_newm_lt, own_newm_lt, mp_newm_lt, rd_wr_ne, own_wr_ne, mp_wr_ne, rd_wrm_ne, own_wrm_ne, mp_wrm_ne, rd_new_eq, own_new_eq, mp_newm_eq, rd_of_own o4, Bool.not_false, Bool.not_true, o5, v1, v2, v3]
      · refine ⟨trivial, trivial, trivial, wr _ f2, o4, ?_⟩
        rw [if_pos ⟨by omega, trivial⟩]
        exact own_wr_same o5
      all_goals
        refine ⟨trivial, trivial, trivial, f2, o4, ?_⟩
        rw [if_neg (by simp; try omega)]
    rintro e H3 ⟨w1, w2, w3, f3, o7, o8⟩
    refine vc_cut (fun e H' => e.find 1 = some (ptr H.size) ∧ e.find 2 = some (ptr (H.size + 1)) ∧ Ext (fun z => z = H.size) H0 H' ∧ H'.own H.size = some [i64 i, u32 (clA i a), u32 (clB i b), i64 (clK i k)]) ?_ ?_
    · rw [hr1] at o7
      simp (disch := (first | omega | (simp only [size_new, size_newm, size_wr, size_wrm] <;> omega) | fail)) only [go_sem, Nat.reduceBEq, Nat.reduceAdd, Nat.reduceMul, Nat.reduceLeDiff, ↓reduceIte, rd_new_lt, own_new_lt, mp_new_lt, rd_newm_lt, own_newm_lt, mp_newm_lt, rd_wr_ne, own_wr_ne, mp_wr_ne, rd_wrm_ne, own_wrm_ne, mp_wrm_ne, rd_new_eq, own_new_eq, mp_newm_eq, rd_of_own o7, w1, w2, w3]
      unfold clK
      cases hh : keyOf i <;> rw [hh] at o7 <;> simp (disch := (first | omega | (simp only [size_new, size_newm, size_wr, size_wrm] <;> omega) | fail)) only [go_sem, Nat.reduceBEq, Nat.reduceAdd, Nat.reduceMul, Nat.reduceLeDiff, ↓reduceIte, rd_new_lt, own_new_lt, mp_new_lt, rd_newm_lt, own_newm_lt, mp_newm_lt, rd_wr_ne, own_wr_ne, mp_wr_ne, rd_wrm_ne, own_wrm_ne, mp_wrm_ne, rd_new_eq, own_new_eq, mp_newm_eq, Bool.not_false, Bool.not_true, o8, w1, w2, w3]
      · exact ⟨trivial, trivial, wr _ f3, own_wr_same o8⟩
      · exact ⟨trivial, trivial, f3, trivial⟩
    rintro e H4 ⟨x1, x2, f4, o9⟩
    have o10 := f4.own b2 (fun h => by omega)
    simp (disch := (first | omega | (simp only [size_new, size_newm, size_wr, size_wrm] <;> omega) | fail)) only [go_sem, Nat.reduceBEq, Nat.reduceAdd, Nat.reduceMul, Nat.reduceLeDiff, ↓reduceIte, rd_new_lt, own_new_lt, mp_new_lt, rd_newm_lt, own_newm_lt, mp_newm_lt, rd_wr_ne, own_wr_ne, mp_wr_ne, rd_wrm_ne, own_wrm_ne, mp_wrm_ne, rd_new_eq, own_new_eq, mp_newm_eq, rd_of_own o9, o10, x1, x2]
    simp (disch := (first | omega | (simp only [size_new, size_newm, size_wr, size_wrm] <;> omega) | fail)) only [go_sem, Nat.reduceBEq, Nat.reduceAdd, Nat.reduceMul, Nat.reduceLeDiff, ↓reduceIte, rd_new_lt, own_new_lt, mp_new_lt, rd_newm_lt, own_newm_lt, mp_newm_lt, rd_wr_ne, own_wr_ne, mp_wr_ne, rd_wrm_ne, own_wrm_ne, mp_wrm_ne, rd_new_eq, own_new_eq, mp_newm_eq, rd_of_own (own_wr_same o10)]
    refine ⟨by rw [clean_in hi]; rfl, f0.then ((f4.mono fun z _ (h : z = H.size) => (Or.inl h : z = H.size ∨ z = H.size + 1)).wr (fun _ => .inr rfl) _) (fun z hz => by omega)⟩

theorem rec_eq (op a b k op' a' b' k' : Int) : eqVs [(0, (none, .int)), (1, (none, .int)), (2, (none, .int)), (3, (none, .int))] [i64 op, u32 a, u32 b, i64 k] [i64 op', u32 a', u32 b', i64 k'] = some (decide (op = op') && (decide (a = a') && (decide (b = b') && decide (k = k')))) := by
  by_cases h1 : op = op' <;> by_cases h2 : a = a' <;> by_cases h3 : b = b' <;> by_cases h4 : k = k' <;> simp [eqVs, partL, eqV, simpleEq, h1, h2, h3, h4]

/-- Can a record be? -/
def rightB (op : Int) (a b : Nat) (k : Int) : Bool := decide (0 ≤ op ∧ op ≤ 10 ∧ clA op.toNat a = a ∧ clB op.toNat b = b ∧ clK op.toNat k = k)

theorem clean_eq (op : Int) (a b : Nat) (k : Int) : ∃ l, cleanV op a b k = .agg l.toArray ∧ l.length = 4 ∧ eqVs [(0, (none, .int)), (1, (none, .int)), (2, (none, .int)), (3, (none, .int))] l [i64 op, u32 a, u32 b, i64 k] = some (rightB op a b k) := by
  by_cases h : 0 ≤ op ∧ op ≤ 10
  · obtain ⟨i, rfl⟩ : ∃ i : Nat, op = i := ⟨op.toNat, by omega⟩
    rw [clean_in (by omega)]
    refine ⟨_, rfl, rfl, ?_⟩
    rw [rec_eq]
    unfold rightB
    simp only [Option.some.injEq, Int.toNat_natCast]
    by_cases h1 : clA i a = a <;> by_cases h2 : clB i b = b <;> by_cases h3 : clK i k = k <;> simp [h1, h2, h3] <;> omega
  · rw [clean_out h]
    refine ⟨_, rfl, rfl, ?_⟩
    rw [rec_eq]
    unfold rightB
    have : ¬ ((0 : Int) = op) := by omega
    have h2 : ¬ (0 ≤ op ∧ op ≤ 10 ∧ clA op.toNat a = a ∧ clB op.toNat b = b ∧ clK op.toNat k = k) := fun h' => h ⟨h'.1, h'.2.1⟩
    simp [this, h2]

theorem record_Right_spec (H : Hp) (op : Int) (a b : Nat) (k : Int) : CallH Tryd.prog n_record_Right [recV op a b k] H fun v H' => Post (v = .bool (rightB op a b k) ∧ Fresh H H') := by
  refine c_record_Right ⟨rfl, ?_⟩
  have f0 : Fresh H (H.new 40 [i64 op, u32 a, u32 b, i64 k]) := (Ext.refl _ _).new _ _
  have b1 := own_new H 40 [i64 op, u32 a, u32 b, i64 k]
  obtain ⟨l, hl, hl4, hq⟩ := clean_eq op a b k
  simp (disch := (first | omega | (simp only [size_new, size_newm, size_wr, size_wrm] <;> omega) | fail)) only [go_sem, Nat.reduceBEq, Nat.reduceAdd, Nat.reduceMul, Nat.reduceLeDiff, ↓reduceIte, rd_new_lt, own_new_lt, mp_new_lt, rd_newm_lt, own_newm_lt, mp_newm_lt, rd_wr_ne, own_wr_ne, mp_wr_ne, rd_wrm_ne, own_wrm_ne, mp_wrm_ne, rd_new_eq, own_new_eq, mp_newm_eq, s_record_Right]
  generalize H.new 40 [i64 op, u32 a, u32 b, i64 k] = H0 at *
  refine InvV.intro (fun H' => H'.own H.size = some [i64 op, u32 a, u32 b, i64 k]) b1 ?_
  simp (disch := (first | omega | (simp only [size_new, size_newm, size_wr, size_wrm] <;> omega) | fail)) only [go_sem, Nat.reduceBEq, Nat.reduceAdd, Nat.reduceMul, Nat.reduceLeDiff, ↓reduceIte, rd_new_lt, own_new_lt, mp_new_lt, rd_newm_lt, own_newm_lt, mp_newm_lt, rd_wr_ne, own_wr_ne, mp_wr_ne, rd_wrm_ne, own_wrm_ne, mp_wrm_ne, rd_new_eq, own_new_eq, mp_newm_eq]
  refine StbV.intro (recV op a b k) (fun H' hI => ?_) ?_
  · simp (disch := (first | omega | (simp only [size_new, size_newm, size_wr, size_wrm] <;> omega) | fail)) only [go_sem, Nat.reduceBEq, Nat.reduceAdd, Nat.reduceMul, Nat.reduceLeDiff, ↓reduceIte, rd_new_lt, own_new_lt, mp_new_lt, rd_newm_lt, own_newm_lt, mp_newm_lt, rd_wr_ne, own_wr_ne, mp_wr_ne, rd_wrm_ne, own_wrm_ne, mp_wrm_ne, rd_new_eq, own_new_eq, mp_newm_eq, rd_of_own hI]
    exact ⟨trivial, trivial⟩
  simp (disch := (first | omega | (simp only [size_new, size_newm, size_wr, size_wrm] <;> omega) | fail)) only [go_sem, Nat.reduceBEq, Nat.reduceAdd, Nat.reduceMul, Nat.reduceLeDiff, ↓reduceIte, rd_new_lt, own_new_lt, mp_new_lt, rd_newm_lt, own_newm_lt, mp_newm_lt, rd_wr_ne, own_wr_ne, mp_wr_ne, rd_wrm_ne, own_wrm_ne, mp_wrm_ne, rd_new_eq, own_new_eq, mp_newm_eq, rd_of_own b1]
  refine And.intro b1 ?_
  simp (disch := (first | omega | (simp only [size_new, size_newm, size_wr, size_wrm] <;> omega) | fail)) only [go_sem, Nat.reduceBEq, Nat.reduceAdd, Nat.reduceMul, Nat.reduceLeDiff, ↓reduceIte, rd_new_lt, own_new_lt, mp_new_lt, rd_newm_lt, own_newm_lt, mp_newm_lt, rd_wr_ne, own_wr_ne, mp_wr_ne, rd_wrm_ne, own_wrm_ne, mp_wrm_ne, rd_new_eq, own_new_eq, mp_newm_eq]
  refine (record_Clean_spec H0 op a b k).mono ?_
  rintro _ H1 ⟨rfl, f1⟩
  refine And.intro (f1.own b1 (fun h => h)) ?_
  simp (disch := (first | omega | (simp only [size_new, size_newm, size_wr, size_wrm] <;> omega) | fail)) only [go_sem, Nat.reduceBEq, Nat.reduceAdd, Nat.reduceMul, Nat.reduceLeDiff, ↓reduceIte, rd_new_lt, own_new_lt, mp_new_lt, rd_newm_lt, own_newm_lt, mp_newm_lt, rd_wr_ne, own_wr_ne, mp_wr_ne, rd_wrm_ne, own_wrm_ne, mp_wrm_ne, rd_new_eq, own_new_eq, mp_newm_eq, hl, hq, Option.map_some]
  exact ⟨rfl, f0.trans f1⟩

end Go.Proofs.YtapoboiofpmheaaDoor
