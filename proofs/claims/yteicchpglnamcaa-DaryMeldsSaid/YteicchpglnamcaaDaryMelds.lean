/-
  The law DaryMelds answers true.
-/
import Derived.Test.YteicchpglnamcaaHalves
import Derived.Test.YteicchpglnamcaaDarySorts
set_option linter.unusedVariables false
set_option linter.unusedSimpArgs false
namespace Go.Proofs.Yteicchpglnamcaa
open Go Go.Vc

theorem law05_Halves_spec {ov : Value} {I : Hp → (Nat → Prop) → Int → Nw → Prop} {lim : Int → Int} {rows : Bool} (ho : NestS ov I lim rows) {Hh H : Hp} {keys : List Int} {kv : Value} (hrd : RdS Hh 1 kv keys.length (keys.map i64)) (hmax : keys.length ≤ 60000)
    (hkeys : ∀ k ∈ keys, -9223372036854775808 ≤ k) {left : List Bool} {lv : Value} (hld : RdS Hh 1 lv left.length (left.map .bool)) (low gone : Int)
    (h : AtN I Hh H ⟨[false], List.replicate keys.length (0, 0, 0)⟩) : CallH Try.prog n_law05_Halves [ov, kv, .agg [lv, i64 low, i64 gone].toArray] H fun v H' => Post (v = i64 1 ∧ Fresh Hh H') := by
  refine c_law05_Halves ⟨rfl, ?_⟩
  simp (disch := (first | omega | (simp only [size_new, size_newm, size_wr, size_wrm] <;> omega) | fail)) only [go_sem, Nat.reduceBEq, Nat.reduceAdd, Nat.reduceMul, Nat.reduceLeDiff, ↓reduceIte, rd_new_lt, own_new_lt, mp_new_lt, rd_newm_lt, own_newm_lt, mp_newm_lt, rd_wr_ne, own_wr_ne, mp_wr_ne, rd_wrm_ne, own_wrm_ne, mp_wrm_ne, rd_new_eq, own_new_eq, mp_newm_eq, s_law05_Halves]
  have f0 : Fresh H (H.new 46 [lv, i64 low, i64 gone]) := (Ext.refl _ _).new _ _
  have t0 := ho.keepA h f0
  generalize H.new 46 [lv, i64 low, i64 gone] = H0 at *
  refine (law05_halves_spec ho hrd hmax hkeys hld low gone t0).mono ?_
  rintro _ H1 ⟨rfl, f1⟩
  simp (disch := (first | omega | (simp only [size_new, size_newm, size_wr, size_wrm] <;> omega) | fail)) only [go_sem, Nat.reduceBEq, Nat.reduceAdd, Nat.reduceMul, Nat.reduceLeDiff, ↓reduceIte, rd_new_lt, own_new_lt, mp_new_lt, rd_newm_lt, own_newm_lt, mp_newm_lt, rd_wr_ne, own_wr_ne, mp_wr_ne, rd_wrm_ne, own_wrm_ne, mp_wrm_ne, rd_new_eq, own_new_eq, mp_newm_eq]
  refine (law05_one_spec true H1).mono ?_
  rintro _ _ ⟨rfl, rfl⟩
  simp (disch := (first | omega | (simp only [size_new, size_newm, size_wr, size_wrm] <;> omega) | fail)) only [go_sem, Nat.reduceBEq, Nat.reduceAdd, Nat.reduceMul, Nat.reduceLeDiff, ↓reduceIte, rd_new_lt, own_new_lt, mp_new_lt, rd_newm_lt, own_newm_lt, mp_newm_lt, rd_wr_ne, own_wr_ne, mp_wr_ne, rd_wrm_ne, own_wrm_ne, mp_wrm_ne, rd_new_eq, own_new_eq, mp_newm_eq]
  exact ⟨rfl, f1⟩

theorem wf64 {x : Int} (h : (Lit.int .i64 x).wf = true) : -9223372036854775808 ≤ x ∧ x ≤ 9223372036854775807 := by
  have e1 : IntKind.i64.min = -9223372036854775808 := rfl
  have e2 : IntKind.i64.max = 9223372036854775807 := rfl
  simp only [Lit.wf, e1, e2, Bool.and_eq_true, decide_eq_true_eq] at h
  omega

theorem law08_DaryMelds_args {Hh : Hp} {v0 v1 v2 : Value} (h0 : fitA Hh (false, [.k (.i .i64)]) v0) (h1 : fitA Hh (false, [.sl [.i .i64]]) v1) (h2 : fitA Hh (true, [.sl [.b], .k (.i .i64), .k (.i .i64)]) v2) :
    CallH Try.prog n_law08_DaryMelds [v0, v1, v2] Hh fun v H' => Post (v = .bool true ∧ Fresh Hh H') := by
  obtain ⟨d, rfl, hd0, hd1⟩ := fitA_i64 h0
  obtain ⟨rows, hrd, hrows, hmax⟩ := fitA_sl h1
  obtain ⟨keys, hks, hkl, hkw⟩ := rows_ints hrows
  rw [hks] at hrd
  rw [← hkl] at hrd
  have hrd : RdS Hh 1 v1 keys.length (keys.map i64) := hrd
  obtain ⟨a, c, rfl⟩ := RdS.val2 hrd
  obtain ⟨cs, rfl, lv, _, rfl, ⟨rowsb, hrdb, hrowsb, _⟩, _, _, rfl, ⟨low, rfl, _⟩, _, _, rfl, ⟨gone, rfl, _⟩, rfl⟩ := h2
  obtain ⟨left, hlb, hll⟩ := rows_bools hrowsb
  rw [hlb] at hrdb
  rw [← hll] at hrdb
  have hld : RdS Hh 1 lv left.length (left.map .bool) := hrdb
  refine c_law08_DaryMelds ⟨rfl, ?_⟩
  simp (disch := (first | omega | (simp only [size_new, size_newm, size_wr, size_wrm] <;> omega) | fail)) only [go_sem, Nat.reduceBEq, Nat.reduceAdd, Nat.reduceMul, Nat.reduceLeDiff, ↓reduceIte, rd_new_lt, own_new_lt, mp_new_lt, rd_newm_lt, own_newm_lt, mp_newm_lt, rd_wr_ne, own_wr_ne, mp_wr_ne, rd_wrm_ne, own_wrm_ne, mp_wrm_ne, rd_new_eq, own_new_eq, mp_newm_eq, s_law08_DaryMelds]
  have f0 : Fresh Hh (Hh.new 46 [lv, i64 low, i64 gone]) := (Ext.refl _ _).new _ _
  have o0 : (Hh.new 46 [lv, i64 low, i64 gone]).own Hh.size = some [lv, i64 low, i64 gone] := own_new _ _ _
  generalize Hh.new 46 [lv, i64 low, i64 gone] = H0 at *
  refine (law08_daryAlive_spec H0).mono ?_
  rintro _ H1 ⟨rfl, f1⟩
  simp (disch := (first | omega | (simp only [size_new, size_newm, size_wr, size_wrm] <;> omega) | fail)) only [go_sem, Nat.reduceBEq, Nat.reduceAdd, Nat.reduceMul, Nat.reduceLeDiff, ↓reduceIte, rd_new_lt, own_new_lt, mp_new_lt, rd_newm_lt, own_newm_lt, mp_newm_lt, rd_wr_ne, own_wr_ne, mp_wr_ne, rd_wrm_ne, own_wrm_ne, mp_wrm_ne, rd_new_eq, own_new_eq, mp_newm_eq]
  refine Both.dec (fun hl => ?_) (fun hl => ?_) <;> simp (disch := (first | omega | (simp only [size_new, size_newm, size_wr, size_wrm] <;> omega) | fail)) only [go_sem, Nat.reduceBEq, Nat.reduceAdd, Nat.reduceMul, Nat.reduceLeDiff, ↓reduceIte, rd_new_lt, own_new_lt, mp_new_lt, rd_newm_lt, own_newm_lt, mp_newm_lt, rd_wr_ne, own_wr_ne, mp_wr_ne, rd_wrm_ne, own_wrm_ne, mp_wrm_ne, rd_new_eq, own_new_eq, mp_newm_eq]
  · exact ⟨rfl, f0.trans f1⟩
  refine (ref08_Right_spec _ d H1).mono ?_
  rintro _ _ ⟨rfl, rfl⟩
  rw [if_pos ⟨by omega, by omega⟩]
  by_cases hd : ¬ FineD d
  · rw [if_neg hd]
    simp (disch := (first | omega | (simp only [size_new, size_newm, size_wr, size_wrm] <;> omega) | fail)) only [go_sem, Nat.reduceBEq, Nat.reduceAdd, Nat.reduceMul, Nat.reduceLeDiff, ↓reduceIte, rd_new_lt, own_new_lt, mp_new_lt, rd_newm_lt, own_newm_lt, mp_newm_lt, rd_wr_ne, own_wr_ne, mp_wr_ne, rd_wrm_ne, own_wrm_ne, mp_wrm_ne, rd_new_eq, own_new_eq, mp_newm_eq]
    exact ⟨rfl, f0.trans f1⟩
  have hd := Decidable.not_not.1 hd
  rw [if_pos hd]
  simp (disch := (first | omega | (simp only [size_new, size_newm, size_wr, size_wrm] <;> omega) | fail)) only [go_sem, Nat.reduceBEq, Nat.reduceAdd, Nat.reduceMul, Nat.reduceLeDiff, ↓reduceIte, rd_new_lt, own_new_lt, mp_new_lt, rd_newm_lt, own_newm_lt, mp_newm_lt, rd_wr_ne, own_wr_ne, mp_wr_ne, rd_wrm_ne, own_wrm_ne, mp_wrm_ne, rd_new_eq, own_new_eq, mp_newm_eq]
  refine (law08_open_spec ⟨by omega, by omega⟩ hd H1).mono ?_
  rintro _ H2 ⟨n, S, rfl, d2, f2, hS⟩
  have o2 := (f1.trans f2).own o0 (fun h => h)
  simp (disch := (first | omega | (simp only [size_new, size_newm, size_wr, size_wrm] <;> omega) | fail)) only [go_sem, Nat.reduceBEq, Nat.reduceAdd, Nat.reduceMul, Nat.reduceLeDiff, ↓reduceIte, rd_new_lt, own_new_lt, mp_new_lt, rd_newm_lt, own_newm_lt, mp_newm_lt, rd_wr_ne, own_wr_ne, mp_wr_ne, rd_wrm_ne, own_wrm_ne, mp_wrm_ne, rd_new_eq, own_new_eq, mp_newm_eq, rd_of_own o2]
  have hkn : ((keys.length : Nat) : Int).toNat = keys.length := Int.toNat_natCast _
  rw [hkn] at d2
  refine (law05_Halves_spec (dary_nest n hd) hrd (by omega) (fun k hk => (wf64 (hkw k hk)).1) hld low gone ⟨S, _, d2, (f0.trans f1).trans f2, fun z hz => by have := hS z hz; have := f1.size; have := f0.size; omega⟩).mono ?_
  rintro _ H6 ⟨rfl, f6⟩
  simp (disch := (first | omega | (simp only [size_new, size_newm, size_wr, size_wrm] <;> omega) | fail)) only [go_sem, Nat.reduceBEq, Nat.reduceAdd, Nat.reduceMul, Nat.reduceLeDiff, ↓reduceIte, rd_new_lt, own_new_lt, mp_new_lt, rd_newm_lt, own_newm_lt, mp_newm_lt, rd_wr_ne, own_wr_ne, mp_wr_ne, rd_wrm_ne, own_wrm_ne, mp_wrm_ne, rd_new_eq, own_new_eq, mp_newm_eq]
  first | exact ⟨rfl, f6⟩ | (refine Both.of_true (by simp) ?_; simp (disch := (first | omega | (simp only [size_new, size_newm, size_wr, size_wrm] <;> omega) | fail)) only [go_sem, Nat.reduceBEq, Nat.reduceAdd, Nat.reduceMul, Nat.reduceLeDiff, ↓reduceIte, rd_new_lt, own_new_lt, mp_new_lt, rd_newm_lt, own_newm_lt, mp_newm_lt, rd_wr_ne, own_wr_ne, mp_wr_ne, rd_wrm_ne, own_wrm_ne, mp_wrm_ne, rd_new_eq, own_new_eq, mp_newm_eq]; exact ⟨rfl, f6⟩)

end Go.Proofs.Yteicchpglnamcaa
