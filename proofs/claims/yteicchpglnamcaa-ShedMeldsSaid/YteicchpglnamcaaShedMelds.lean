/-
  The law ShedMelds answers true.
-/
import Derived.Test.YteicchpglnamcaaHalves
import Derived.Test.YteicchpglnamcaaShedNest
import Derived.Test.YteicchpglnamcaaShedNew
set_option linter.unusedVariables false
set_option linter.unusedSimpArgs false
namespace Go.Proofs.Yteicchpglnamcaa
open Go Go.Vc

theorem law06_ShedMelds_args {Hh : Hp} {v0 v1 : Value} (h0 : fitA Hh (false, [.sl [.i .i64]]) v0) (h1 : fitA Hh (true, [.sl [.b], .k (.i .i64), .k (.i .i64)]) v1) :
    CallH Try.prog n_law06_ShedMelds [v0, v1] Hh fun v H' => Post (v = .bool true ∧ Fresh Hh H') := by
  obtain ⟨rows, hrd, hrows, hmax⟩ := fitA_sl h0
  obtain ⟨keys, hks, hkl, hkw⟩ := rows_ints hrows
  rw [hks] at hrd
  rw [← hkl] at hrd
  have hrd : RdS Hh 1 v0 keys.length (keys.map i64) := hrd
  obtain ⟨a, c, rfl⟩ := RdS.val2 hrd
  obtain ⟨cs, rfl, lv, _, rfl, ⟨rowsb, hrdb, hrowsb, _⟩, _, _, rfl, ⟨low, rfl, _⟩, _, _, rfl, ⟨gone, rfl, _⟩, rfl⟩ := h1
  obtain ⟨left, hlb, hll⟩ := rows_bools hrowsb
  rw [hlb] at hrdb
  rw [← hll] at hrdb
  have hld : RdS Hh 1 lv left.length (left.map .bool) := hrdb
  refine c_law06_ShedMelds ⟨rfl, ?_⟩
  simp (disch := (first | omega | (simp only [size_new, size_newm, size_wr, size_wrm] <;> omega) | fail)) only [go_sem, Nat.reduceBEq, Nat.reduceAdd, Nat.reduceMul, Nat.reduceLeDiff, ↓reduceIte, rd_new_lt, own_new_lt, mp_new_lt, rd_newm_lt, own_newm_lt, mp_newm_lt, rd_wr_ne, own_wr_ne, mp_wr_ne, rd_wrm_ne, own_wrm_ne, mp_wrm_ne, rd_new_eq, own_new_eq, mp_newm_eq, s_law06_ShedMelds]
  have f0 : Fresh Hh (Hh.new 46 [lv, i64 low, i64 gone]) := (Ext.refl _ _).new _ _
  have o0 : (Hh.new 46 [lv, i64 low, i64 gone]).own Hh.size = some [lv, i64 low, i64 gone] := own_new _ _ _
  generalize Hh.new 46 [lv, i64 low, i64 gone] = H0 at *
  refine (law06_shedAlive_spec H0).mono ?_
  rintro _ H1 ⟨rfl, f1⟩
  simp (disch := (first | omega | (simp only [size_new, size_newm, size_wr, size_wrm] <;> omega) | fail)) only [go_sem, Nat.reduceBEq, Nat.reduceAdd, Nat.reduceMul, Nat.reduceLeDiff, ↓reduceIte, rd_new_lt, own_new_lt, mp_new_lt, rd_newm_lt, own_newm_lt, mp_newm_lt, rd_wr_ne, own_wr_ne, mp_wr_ne, rd_wrm_ne, own_wrm_ne, mp_wrm_ne, rd_new_eq, own_new_eq, mp_newm_eq]
  refine (shed_New_spec keys.length H1).mono ?_
  rintro _ H2 ⟨f2, ⟨hb, rfl⟩ | ⟨hb, n', S, rfl, d2, hS⟩⟩
  · simp (disch := (first | omega | (simp only [size_new, size_newm, size_wr, size_wrm] <;> omega) | fail)) only [go_sem, Nat.reduceBEq, Nat.reduceAdd, Nat.reduceMul, Nat.reduceLeDiff, ↓reduceIte, rd_new_lt, own_new_lt, mp_new_lt, rd_newm_lt, own_newm_lt, mp_newm_lt, rd_wr_ne, own_wr_ne, mp_wr_ne, rd_wrm_ne, own_wrm_ne, mp_wrm_ne, rd_new_eq, own_new_eq, mp_newm_eq]
    refine Both.of_true (decide_eq_true (by omega)) ?_
    simp (disch := (first | omega | (simp only [size_new, size_newm, size_wr, size_wrm] <;> omega) | fail)) only [go_sem, Nat.reduceBEq, Nat.reduceAdd, Nat.reduceMul, Nat.reduceLeDiff, ↓reduceIte, rd_new_lt, own_new_lt, mp_new_lt, rd_newm_lt, own_newm_lt, mp_newm_lt, rd_wr_ne, own_wr_ne, mp_wr_ne, rd_wrm_ne, own_wrm_ne, mp_wrm_ne, rd_new_eq, own_new_eq, mp_newm_eq, Option.isNone_none, decide_true]
    first | exact ⟨congrArg Value.bool (decide_eq_true (by omega)), (f0.trans f1).trans f2⟩ | exact ⟨rfl, (f0.trans f1).trans f2⟩ | (refine Both.of_true (decide_eq_true (by omega)) ?_; simp (disch := (first | omega | (simp only [size_new, size_newm, size_wr, size_wrm] <;> omega) | fail)) only [go_sem, Nat.reduceBEq, Nat.reduceAdd, Nat.reduceMul, Nat.reduceLeDiff, ↓reduceIte, rd_new_lt, own_new_lt, mp_new_lt, rd_newm_lt, own_newm_lt, mp_newm_lt, rd_wr_ne, own_wr_ne, mp_wr_ne, rd_wrm_ne, own_wrm_ne, mp_wrm_ne, rd_new_eq, own_new_eq, mp_newm_eq]; exact ⟨rfl, (f0.trans f1).trans f2⟩)
  simp (disch := (first | omega | (simp only [size_new, size_newm, size_wr, size_wrm] <;> omega) | fail)) only [go_sem, Nat.reduceBEq, Nat.reduceAdd, Nat.reduceMul, Nat.reduceLeDiff, ↓reduceIte, rd_new_lt, own_new_lt, mp_new_lt, rd_newm_lt, own_newm_lt, mp_newm_lt, rd_wr_ne, own_wr_ne, mp_wr_ne, rd_wrm_ne, own_wrm_ne, mp_wrm_ne, rd_new_eq, own_new_eq, mp_newm_eq]
  refine Both.dec (fun hl => ?_) (fun hl => ?_) <;> simp (disch := (first | omega | (simp only [size_new, size_newm, size_wr, size_wrm] <;> omega) | fail)) only [go_sem, Nat.reduceBEq, Nat.reduceAdd, Nat.reduceMul, Nat.reduceLeDiff, ↓reduceIte, rd_new_lt, own_new_lt, mp_new_lt, rd_newm_lt, own_newm_lt, mp_newm_lt, rd_wr_ne, own_wr_ne, mp_wr_ne, rd_wrm_ne, own_wrm_ne, mp_wrm_ne, rd_new_eq, own_new_eq, mp_newm_eq, Option.isNone_some, decide_true]
  · first | exact ⟨congrArg Value.bool (decide_eq_true (by omega)), (f0.trans f1).trans f2⟩ | exact ⟨rfl, (f0.trans f1).trans f2⟩ | (refine Both.of_true (decide_eq_true (by omega)) ?_; simp (disch := (first | omega | (simp only [size_new, size_newm, size_wr, size_wrm] <;> omega) | fail)) only [go_sem, Nat.reduceBEq, Nat.reduceAdd, Nat.reduceMul, Nat.reduceLeDiff, ↓reduceIte, rd_new_lt, own_new_lt, mp_new_lt, rd_newm_lt, own_newm_lt, mp_newm_lt, rd_wr_ne, own_wr_ne, mp_wr_ne, rd_wrm_ne, own_wrm_ne, mp_wrm_ne, rd_new_eq, own_new_eq, mp_newm_eq]; exact ⟨rfl, (f0.trans f1).trans f2⟩)
  have o2 := (f1.trans f2).own o0 (fun h => h)
  simp (disch := (first | omega | (simp only [size_new, size_newm, size_wr, size_wrm] <;> omega) | fail)) only [go_sem, Nat.reduceBEq, Nat.reduceAdd, Nat.reduceMul, Nat.reduceLeDiff, ↓reduceIte, rd_new_lt, own_new_lt, mp_new_lt, rd_newm_lt, own_newm_lt, mp_newm_lt, rd_wr_ne, own_wr_ne, mp_wr_ne, rd_wrm_ne, own_wrm_ne, mp_wrm_ne, rd_new_eq, own_new_eq, mp_newm_eq, rd_of_own o2]
  have hkn : ((keys.length : Nat) : Int).toNat = keys.length := Int.toNat_natCast _
  rw [hkn] at d2
  refine (law05_Halves_spec (shed_nest n') hrd (by omega) (fun k hk => (wf64 (hkw k hk)).1) hld low gone ⟨S, _, d2, (f0.trans f1).trans f2, fun z hz => by have := hS z hz; have := f1.size; have := f0.size; omega⟩).mono ?_
  rintro _ H6 ⟨rfl, f6⟩
  simp (disch := (first | omega | (simp only [size_new, size_newm, size_wr, size_wrm] <;> omega) | fail)) only [go_sem, Nat.reduceBEq, Nat.reduceAdd, Nat.reduceMul, Nat.reduceLeDiff, ↓reduceIte, rd_new_lt, own_new_lt, mp_new_lt, rd_newm_lt, own_newm_lt, mp_newm_lt, rd_wr_ne, own_wr_ne, mp_wr_ne, rd_wrm_ne, own_wrm_ne, mp_wrm_ne, rd_new_eq, own_new_eq, mp_newm_eq]
  first | exact ⟨rfl, f6⟩ | (refine Both.of_true (by simp) ?_; simp (disch := (first | omega | (simp only [size_new, size_newm, size_wr, size_wrm] <;> omega) | fail)) only [go_sem, Nat.reduceBEq, Nat.reduceAdd, Nat.reduceMul, Nat.reduceLeDiff, ↓reduceIte, rd_new_lt, own_new_lt, mp_new_lt, rd_newm_lt, own_newm_lt, mp_newm_lt, rd_wr_ne, own_wr_ne, mp_wr_ne, rd_wrm_ne, own_wrm_ne, mp_wrm_ne, rd_new_eq, own_new_eq, mp_newm_eq]; exact ⟨rfl, f6⟩)

end Go.Proofs.Yteicchpglnamcaa
