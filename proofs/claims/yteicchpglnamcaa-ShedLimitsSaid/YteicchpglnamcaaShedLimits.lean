/-
  The law ShedLimits answers true.
-/
import Derived.Test.YteicchpglnamcaaLimits
import Derived.Test.YteicchpglnamcaaShedNest
import Derived.Test.YteicchpglnamcaaShedNew
set_option linter.unusedVariables false
set_option linter.unusedSimpArgs false
namespace Go.Proofs.Yteicchpglnamcaa
open Go Go.Vc

theorem limS_eq : limS = limC 8 0 := by
  funext m
  unfold limS limC
  rw [if_neg (by omega)]

theorem ref06_Config_spec (H : Hp) : CallH Try.prog n_ref06_Config [] H fun v H' => Post (v = cfg 8 0 ∧ Fresh H H') := by
  refine c_ref06_Config ⟨rfl, ?_⟩
  simp (disch := (first | omega | (simp only [size_new, size_newm, size_wr, size_wrm] <;> omega) | fail)) only [go_sem, Nat.reduceBEq, Nat.reduceAdd, Nat.reduceMul, Nat.reduceLeDiff, ↓reduceIte, rd_new_lt, own_new_lt, mp_new_lt, rd_newm_lt, own_newm_lt, mp_newm_lt, rd_wr_ne, own_wr_ne, mp_wr_ne, rd_wrm_ne, own_wrm_ne, mp_wrm_ne, rd_new_eq, own_new_eq, mp_newm_eq, s_ref06_Config]
  have o1 := own_wr_same (l := [i64 8, i64 0]) (own_new H 54 [i64 0, i64 0])
  have f1 : Fresh H ((H.new 54 [i64 0, i64 0]).wr H.size [i64 8, i64 0]) := ((Ext.refl _ _).new _ _).wr (fun h => absurd h (Nat.lt_irrefl _)) _
  simp (disch := (first | omega | (simp only [size_new, size_newm, size_wr, size_wrm] <;> omega) | fail)) only [go_sem, Nat.reduceBEq, Nat.reduceAdd, Nat.reduceMul, Nat.reduceLeDiff, ↓reduceIte, rd_new_lt, own_new_lt, mp_new_lt, rd_newm_lt, own_newm_lt, mp_newm_lt, rd_wr_ne, own_wr_ne, mp_wr_ne, rd_wrm_ne, own_wrm_ne, mp_wrm_ne, rd_new_eq, own_new_eq, mp_newm_eq, rd_of_own o1]
  exact ⟨rfl, f1⟩

theorem law06_ShedLimits_args {Hh : Hp} {v0 v1 : Value} (h0 : fitA Hh (false, [.k (.i .u8)]) v0) (h1 : fitA Hh (false, [.sl [.i .i64, .i .i64, .i .i64, .i .i64, .i .u64]]) v1) :
    CallH Try.prog n_law06_ShedLimits [v0, v1] Hh fun v H' => Post (v = .bool true ∧ Fresh Hh H') := by
  obtain ⟨cap, rfl, hc0, hc1⟩ := fitA_u8 h0
  obtain ⟨rows, hrd, hrows, hmax⟩ := fitA_sl h1
  generalize hn : rows.length = n at *
  have hrd : RdS Hh 5 v1 n rows.flatten := hrd
  obtain ⟨a, c, rfl⟩ := RdS.val2 hrd
  refine c_law06_ShedLimits ⟨rfl, ?_⟩
  simp (disch := (first | omega | (simp only [size_new, size_newm, size_wr, size_wrm] <;> omega) | fail)) only [go_sem, Nat.reduceBEq, Nat.reduceAdd, Nat.reduceMul, Nat.reduceLeDiff, ↓reduceIte, rd_new_lt, own_new_lt, mp_new_lt, rd_newm_lt, own_newm_lt, mp_newm_lt, rd_wr_ne, own_wr_ne, mp_wr_ne, rd_wrm_ne, own_wrm_ne, mp_wrm_ne, rd_new_eq, own_new_eq, mp_newm_eq, s_law06_ShedLimits]
  refine (law06_shedAlive_spec Hh).mono ?_
  rintro _ H1 ⟨rfl, f1⟩
  simp (disch := (first | omega | (simp only [size_new, size_newm, size_wr, size_wrm] <;> omega) | fail)) only [go_sem, Nat.reduceBEq, Nat.reduceAdd, Nat.reduceMul, Nat.reduceLeDiff, ↓reduceIte, rd_new_lt, own_new_lt, mp_new_lt, rd_newm_lt, own_newm_lt, mp_newm_lt, rd_wr_ne, own_wr_ne, mp_wr_ne, rd_wrm_ne, own_wrm_ne, mp_wrm_ne, rd_new_eq, own_new_eq, mp_newm_eq]
  have hwc : IntKind.i64.wrap cap = cap := wrap64 (by omega) (by omega)
  have hkr : cap.tmod 200 = cap % 200 := Int.tmod_eq_emod_of_nonneg hc0
  have hk : 0 ≤ cap % 200 ∧ cap % 200 ≤ 199 := by omega
  simp (disch := (first | omega | (simp only [size_new, size_newm, size_wr, size_wrm] <;> omega) | fail)) only [go_sem, Nat.reduceBEq, Nat.reduceAdd, Nat.reduceMul, Nat.reduceLeDiff, ↓reduceIte, rd_new_lt, own_new_lt, mp_new_lt, rd_newm_lt, own_newm_lt, mp_newm_lt, rd_wr_ne, own_wr_ne, mp_wr_ne, rd_wrm_ne, own_wrm_ne, mp_wrm_ne, rd_new_eq, own_new_eq, mp_newm_eq, hwc, hkr, if_neg (show ¬ ((200 : Int) = 0) by decide)]
  generalize cap % 200 = k at *
  refine (shed_New_spec k H1).mono ?_
  rintro _ H2 ⟨f2, ⟨hb, rfl⟩ | ⟨hb, n', S, rfl, d2, hS⟩⟩
  · omega
  simp (disch := (first | omega | (simp only [size_new, size_newm, size_wr, size_wrm] <;> omega) | fail)) only [go_sem, Nat.reduceBEq, Nat.reduceAdd, Nat.reduceMul, Nat.reduceLeDiff, ↓reduceIte, rd_new_lt, own_new_lt, mp_new_lt, rd_newm_lt, own_newm_lt, mp_newm_lt, rd_wr_ne, own_wr_ne, mp_wr_ne, rd_wrm_ne, own_wrm_ne, mp_wrm_ne, rd_new_eq, own_new_eq, mp_newm_eq]
  refine Both.dec (fun hl => ?_) (fun hl => ?_) <;> simp (disch := (first | omega | (simp only [size_new, size_newm, size_wr, size_wrm] <;> omega) | fail)) only [go_sem, Nat.reduceBEq, Nat.reduceAdd, Nat.reduceMul, Nat.reduceLeDiff, ↓reduceIte, rd_new_lt, own_new_lt, mp_new_lt, rd_newm_lt, own_newm_lt, mp_newm_lt, rd_wr_ne, own_wr_ne, mp_wr_ne, rd_wrm_ne, own_wrm_ne, mp_wrm_ne, rd_new_eq, own_new_eq, mp_newm_eq, Option.isNone_some, decide_true]
  · first | exact ⟨congrArg Value.bool (decide_eq_true (by omega)), f1.trans f2⟩ | exact ⟨rfl, f1.trans f2⟩ | (refine Both.of_true (decide_eq_true (by omega)) ?_; simp (disch := (first | omega | (simp only [size_new, size_newm, size_wr, size_wrm] <;> omega) | fail)) only [go_sem, Nat.reduceBEq, Nat.reduceAdd, Nat.reduceMul, Nat.reduceLeDiff, ↓reduceIte, rd_new_lt, own_new_lt, mp_new_lt, rd_newm_lt, own_newm_lt, mp_newm_lt, rd_wr_ne, own_wr_ne, mp_wr_ne, rd_wrm_ne, own_wrm_ne, mp_wrm_ne, rd_new_eq, own_new_eq, mp_newm_eq]; exact ⟨rfl, f1.trans f2⟩)
  refine (ref06_Config_spec H2).mono ?_
  rintro _ H3 ⟨rfl, f3⟩
  have d3 := d2.fresh f3
  simp (disch := (first | omega | (simp only [size_new, size_newm, size_wr, size_wrm] <;> omega) | fail)) only [go_sem, Nat.reduceBEq, Nat.reduceAdd, Nat.reduceMul, Nat.reduceLeDiff, ↓reduceIte, rd_new_lt, own_new_lt, mp_new_lt, rd_newm_lt, own_newm_lt, mp_newm_lt, rd_wr_ne, own_wr_ne, mp_wr_ne, rd_wrm_ne, own_wrm_ne, mp_wrm_ne, rd_new_eq, own_new_eq, mp_newm_eq]
  refine (law05_Limits_spec (limS_eq ▸ shed_nest n') (.inr ⟨rfl, rfl⟩) ⟨by omega, by omega⟩ hrd hn (by omega) hrows ⟨S, _, d3, (f1.trans f2).trans f3, fun z hz => by have := hS z hz; have := f1.size; omega⟩).mono ?_
  rintro _ H6 ⟨rfl, f6⟩
  simp (disch := (first | omega | (simp only [size_new, size_newm, size_wr, size_wrm] <;> omega) | fail)) only [go_sem, Nat.reduceBEq, Nat.reduceAdd, Nat.reduceMul, Nat.reduceLeDiff, ↓reduceIte, rd_new_lt, own_new_lt, mp_new_lt, rd_newm_lt, own_newm_lt, mp_newm_lt, rd_wr_ne, own_wr_ne, mp_wr_ne, rd_wrm_ne, own_wrm_ne, mp_wrm_ne, rd_new_eq, own_new_eq, mp_newm_eq]
  first | exact ⟨rfl, f6⟩ | (refine Both.of_true (by simp) ?_; simp (disch := (first | omega | (simp only [size_new, size_newm, size_wr, size_wrm] <;> omega) | fail)) only [go_sem, Nat.reduceBEq, Nat.reduceAdd, Nat.reduceMul, Nat.reduceLeDiff, ↓reduceIte, rd_new_lt, own_new_lt, mp_new_lt, rd_newm_lt, own_newm_lt, mp_newm_lt, rd_wr_ne, own_wr_ne, mp_wr_ne, rd_wrm_ne, own_wrm_ne, mp_wrm_ne, rd_new_eq, own_new_eq, mp_newm_eq]; exact ⟨rfl, f6⟩)

end Go.Proofs.Yteicchpglnamcaa
