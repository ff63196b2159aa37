/-
  The law DaryRuns answers true.
-/
import Derived.Test.YteicchpglnamcaaRuns
import Derived.Test.YteicchpglnamcaaDaryNest
import Derived.Test.YteicchpglnamcaaDaryNew
set_option linter.unusedVariables false
set_option linter.unusedSimpArgs false
namespace Go.Proofs.Yteicchpglnamcaa
open Go Go.Vc

theorem law08_DaryRuns_args {Hh : Hp} {v0 v1 v2 : Value} (h0 : fitA Hh (false, [.k (.i .i64)]) v0) (h1 : fitA Hh (false, [.k (.i .u8)]) v1) (h2 : fitA Hh (false, [.sl [.i .i64, .i .i64, .i .i64, .i .i64, .i .u64]]) v2) :
    CallH Try.prog n_law08_DaryRuns [v0, v1, v2] Hh fun v H' => Post (v = .bool true ∧ Fresh Hh H') := by
  obtain ⟨d, rfl, hd0, hd1⟩ := fitA_i64 h0
  obtain ⟨cap, rfl, hc0, hc1⟩ := fitA_u8 h1
  obtain ⟨rows, hrd, hrows, hmax⟩ := fitA_sl h2
  generalize hn : rows.length = n at *
  have hrd : RdS Hh 5 v2 n rows.flatten := hrd
  obtain ⟨a, c, rfl⟩ := RdS.val2 hrd
  refine c_law08_DaryRuns ⟨rfl, ?_⟩
  simp (disch := (first | omega | (simp only [size_new, size_newm, size_wr, size_wrm] <;> omega) | fail)) only [go_sem, Nat.reduceBEq, Nat.reduceAdd, Nat.reduceMul, Nat.reduceLeDiff, ↓reduceIte, rd_new_lt, own_new_lt, mp_new_lt, rd_newm_lt, own_newm_lt, mp_newm_lt, rd_wr_ne, own_wr_ne, mp_wr_ne, rd_wrm_ne, own_wrm_ne, mp_wrm_ne, rd_new_eq, own_new_eq, mp_newm_eq, s_law08_DaryRuns]
  refine (law08_daryAlive_spec Hh).mono ?_
  rintro _ H1 ⟨rfl, f1⟩
  simp (disch := (first | omega | (simp only [size_new, size_newm, size_wr, size_wrm] <;> omega) | fail)) only [go_sem, Nat.reduceBEq, Nat.reduceAdd, Nat.reduceMul, Nat.reduceLeDiff, ↓reduceIte, rd_new_lt, own_new_lt, mp_new_lt, rd_newm_lt, own_newm_lt, mp_newm_lt, rd_wr_ne, own_wr_ne, mp_wr_ne, rd_wrm_ne, own_wrm_ne, mp_wrm_ne, rd_new_eq, own_new_eq, mp_newm_eq]
  have hwc : IntKind.i64.wrap cap = cap := wrap64 (by omega) (by omega)
  have hkr : cap.tmod 30 = cap % 30 := Int.tmod_eq_emod_of_nonneg hc0
  have hk : 0 ≤ cap % 30 ∧ cap % 30 ≤ 29 := by omega
  simp (disch := (first | omega | (simp only [size_new, size_newm, size_wr, size_wrm] <;> omega) | fail)) only [go_sem, Nat.reduceBEq, Nat.reduceAdd, Nat.reduceMul, Nat.reduceLeDiff, ↓reduceIte, rd_new_lt, own_new_lt, mp_new_lt, rd_newm_lt, own_newm_lt, mp_newm_lt, rd_wr_ne, own_wr_ne, mp_wr_ne, rd_wrm_ne, own_wrm_ne, mp_wrm_ne, rd_new_eq, own_new_eq, mp_newm_eq, hwc, hkr, if_neg (show ¬ ((30 : Int) = 0) by decide)]
  generalize cap % 30 = k at *
  refine Both.dec (fun hl => ?_) (fun hl => ?_) <;> simp (disch := (first | omega | (simp only [size_new, size_newm, size_wr, size_wrm] <;> omega) | fail)) only [go_sem, Nat.reduceBEq, Nat.reduceAdd, Nat.reduceMul, Nat.reduceLeDiff, ↓reduceIte, rd_new_lt, own_new_lt, mp_new_lt, rd_newm_lt, own_newm_lt, mp_newm_lt, rd_wr_ne, own_wr_ne, mp_wr_ne, rd_wrm_ne, own_wrm_ne, mp_wrm_ne, rd_new_eq, own_new_eq, mp_newm_eq]
  · exact ⟨rfl, f1⟩
  refine (ref08_Right_spec _ d H1).mono ?_
  rintro _ _ ⟨rfl, rfl⟩
  rw [if_pos ⟨by omega, by omega⟩]
  by_cases hd : ¬ FineD d
  · rw [if_neg hd]
    simp (disch := (first | omega | (simp only [size_new, size_newm, size_wr, size_wrm] <;> omega) | fail)) only [go_sem, Nat.reduceBEq, Nat.reduceAdd, Nat.reduceMul, Nat.reduceLeDiff, ↓reduceIte, rd_new_lt, own_new_lt, mp_new_lt, rd_newm_lt, own_newm_lt, mp_newm_lt, rd_wr_ne, own_wr_ne, mp_wr_ne, rd_wrm_ne, own_wrm_ne, mp_wrm_ne, rd_new_eq, own_new_eq, mp_newm_eq]
    exact ⟨rfl, f1⟩
  have hd := Decidable.not_not.1 hd
  rw [if_pos hd]
  simp (disch := (first | omega | (simp only [size_new, size_newm, size_wr, size_wrm] <;> omega) | fail)) only [go_sem, Nat.reduceBEq, Nat.reduceAdd, Nat.reduceMul, Nat.reduceLeDiff, ↓reduceIte, rd_new_lt, own_new_lt, mp_new_lt, rd_newm_lt, own_newm_lt, mp_newm_lt, rd_wr_ne, own_wr_ne, mp_wr_ne, rd_wrm_ne, own_wrm_ne, mp_wrm_ne, rd_new_eq, own_new_eq, mp_newm_eq]
  refine (law08_open_spec ⟨by omega, by omega⟩ hd H1).mono ?_
  rintro _ H2 ⟨n', S, rfl, d2, f2, hS⟩
  simp (disch := (first | omega | (simp only [size_new, size_newm, size_wr, size_wrm] <;> omega) | fail)) only [go_sem, Nat.reduceBEq, Nat.reduceAdd, Nat.reduceMul, Nat.reduceLeDiff, ↓reduceIte, rd_new_lt, own_new_lt, mp_new_lt, rd_newm_lt, own_newm_lt, mp_newm_lt, rd_wr_ne, own_wr_ne, mp_wr_ne, rd_wrm_ne, own_wrm_ne, mp_wrm_ne, rd_new_eq, own_new_eq, mp_newm_eq]
  refine (law05_Runs_spec (dary_nest n' hd) ⟨by omega, by omega⟩ hrd hn (by omega) hrows ⟨S, _, d2, f1.trans f2, fun z hz => by have := hS z hz; have := f1.size; omega⟩).mono ?_
  rintro _ H6 ⟨rfl, f6⟩
  simp (disch := (first | omega | (simp only [size_new, size_newm, size_wr, size_wrm] <;> omega) | fail)) only [go_sem, Nat.reduceBEq, Nat.reduceAdd, Nat.reduceMul, Nat.reduceLeDiff, ↓reduceIte, rd_new_lt, own_new_lt, mp_new_lt, rd_newm_lt, own_newm_lt, mp_newm_lt, rd_wr_ne, own_wr_ne, mp_wr_ne, rd_wrm_ne, own_wrm_ne, mp_wrm_ne, rd_new_eq, own_new_eq, mp_newm_eq]
  first | exact ⟨rfl, f6⟩ | (refine Both.of_true (by simp) ?_; simp (disch := (first | omega | (simp only [size_new, size_newm, size_wr, size_wrm] <;> omega) | fail)) only [go_sem, Nat.reduceBEq, Nat.reduceAdd, Nat.reduceMul, Nat.reduceLeDiff, ↓reduceIte, rd_new_lt, own_new_lt, mp_new_lt, rd_newm_lt, own_newm_lt, mp_newm_lt, rd_wr_ne, own_wr_ne, mp_wr_ne, rd_wrm_ne, own_wrm_ne, mp_wrm_ne, rd_new_eq, own_new_eq, mp_newm_eq]; exact ⟨rfl, f6⟩)

end Go.Proofs.Yteicchpglnamcaa
