/-
  The law ShedNew answers true.
-/
import Derived.Test.YteicchpglnamcaaShed3
import Derived.Test.YteicchpglnamcaaArgs
set_option linter.unusedVariables false
set_option linter.unusedSimpArgs false
namespace Go.Proofs.Yteicchpglnamcaa
open Go Go.Vc

theorem ShedAt.opened {H : Hp} {n : Nat} {S : Nat → Prop} {st : Int} {w : Nw} (h : ShedAt H n S st w) : ∃ c C r1 r2, H.own n = some [ptr c, r1, r2] ∧ CellsN H c C st w := by
  obtain ⟨c, C, rv, fr, fa, ps, at_, m, l, hS⟩ := h
  obtain ⟨av, ho, _⟩ := m.own
  exact ⟨c, C, _, _, ho, m.cells⟩

/-- The cells of the chapter's example, when i slots have come in; when some have come out. -/
def hayK (i : Nat) : Int := [(5 : Int), 3, 4].getD i 0
def hayC (i : Nat) : List Ce := ([((1 : Int), (5 : Int), (0 : Int)), (1, 3, 0), (1, 4, 0)] : List Ce).take i ++ List.replicate (3 - i) (0, 0, 0)
def hayW (i : Nat) : Nw := ⟨[false, true], hayC i⟩

theorem hayC_put : ∀ i : Nat, i < 3 → (hayC i).set i (1, hayK i, 0) = hayC (i + 1) := by decide
theorem hayW_len : ∀ i : Nat, i < 4 → (hayW i).len 1 = i := by decide
theorem hayC_not : ∀ i : Nat, i < 3 → (hayC i)[i]? = some (0, 0, 0) ∧ (hayC i).length = 3 := by decide
theorem hayK_get : ∀ i : Nat, i < 3 → [i64 5, i64 3, i64 4][i]? = some (i64 (hayK i)) := by
  intro i h
  rcases i with _ | _ | _ | i <;> first | rfl | omega

theorem Nw.first.only {w : Nw} {x : Int} (h : w.first 1 x) (y : Nat) (hy : ∃ e, w.cs[y]? = some (1, e)) (hall : ∀ j : Nat, j < w.cs.length → (w.cs.getD j (0, 0, 0)).1 = 1 → ltW w j y = false) : x = y := by
  by_cases hxy : x = y
  · exact hxy
  obtain ⟨_, hx0, ⟨e, he⟩, _⟩ := id h
  have hl := (List.getElem?_eq_some_iff.1 he).1
  have h1 := hall x.toNat hl (by rw [List.getD_eq_getElem?_getD, he]; rfl)
  have h2 := h.2.2.2 y (by omega) (by rw [Int.toNat_natCast]; exact hy) (fun e => hxy e.symm)
  rw [show ((x.toNat : Nat) : Int) = x by omega, h2] at h1
  cases h1

theorem law06_shedAlive_spec (H : Hp) : CallH Try.prog n_law06_shedAlive [] H fun v H' => Post (v = .bool true ∧ Fresh H H') := by
  refine c_law06_shedAlive ⟨rfl, ?_⟩
  simp (disch := (first | omega | (simp only [size_new, size_newm, size_wr, size_wrm] <;> omega) | fail)) only [go_sem, Nat.reduceBEq, Nat.reduceAdd, Nat.reduceMul, Nat.reduceLeDiff, ↓reduceIte, rd_new_lt, own_new_lt, mp_new_lt, rd_newm_lt, own_newm_lt, mp_newm_lt, rd_wr_ne, own_wr_ne, mp_wr_ne, rd_wrm_ne, own_wrm_ne, mp_wrm_ne, rd_new_eq, own_new_eq, mp_newm_eq, s_law06_shedAlive]
  refine (shed_New_spec 3 H).mono ?_
  rintro _ H1 ⟨f1, ⟨hb, _⟩ | ⟨_, n, S, rfl, d1, hS⟩⟩
  · omega
  simp (disch := (first | omega | (simp only [size_new, size_newm, size_wr, size_wrm] <;> omega) | fail)) only [go_sem, Nat.reduceBEq, Nat.reduceAdd, Nat.reduceMul, Nat.reduceLeDiff, ↓reduceIte, rd_new_lt, own_new_lt, mp_new_lt, rd_newm_lt, own_newm_lt, mp_newm_lt, rd_wr_ne, own_wr_ne, mp_wr_ne, rd_wrm_ne, own_wrm_ne, mp_wrm_ne, rd_new_eq, own_new_eq, mp_newm_eq, Option.isNone_some, decide_true]
  refine (shed_Make_spec d1).mono ?_
  rintro _ H2 (⟨hb, _⟩ | ⟨_, rfl, S2, d2, e2, hS2⟩)
  · simp at hb
  have f2 : Fresh H H2 := f1.then e2 hS
  have d2 : ShedAt H2 n S2 0 (hayW 0) := d2
  have hS2' : ∀ x, S2 x → H.size ≤ x := fun x hx => by
    rcases hS2 x hx with h | h
    · exact hS x h
    · have := f1.size; omega
  have hlt2 := d2.slt
  simp (disch := (first | omega | (simp only [size_new, size_newm, size_wr, size_wrm] <;> omega) | fail)) only [go_sem, Nat.reduceBEq, Nat.reduceAdd, Nat.reduceMul, Nat.reduceLeDiff, ↓reduceIte, rd_new_lt, own_new_lt, mp_new_lt, rd_newm_lt, own_newm_lt, mp_newm_lt, rd_wr_ne, own_wr_ne, mp_wr_ne, rd_wrm_ne, own_wrm_ne, mp_wrm_ne, rd_new_eq, own_new_eq, mp_newm_eq]
  refine Both.of_true (by decide) ?_
  simp (disch := (first | omega | (simp only [size_new, size_newm, size_wr, size_wrm] <;> omega) | fail)) only [go_sem, Nat.reduceBEq, Nat.reduceAdd, Nat.reduceMul, Nat.reduceLeDiff, ↓reduceIte, rd_new_lt, own_new_lt, mp_new_lt, rd_newm_lt, own_newm_lt, mp_newm_lt, rd_wr_ne, own_wr_ne, mp_wr_ne, rd_wrm_ne, own_wrm_ne, mp_wrm_ne, rd_new_eq, own_new_eq, mp_newm_eq]
  have f3 : Fresh H2 (H2.new 2 [.int .i64 5, .int .i64 3, .int .i64 4]) := (Ext.refl _ _).new _ _
  have b3 : (H2.new 2 [.int .i64 5, .int .i64 3, .int .i64 4]).own H2.size = some [.int .i64 5, .int .i64 3, .int .i64 4] := own_new _ _ _
  have d3 := d2.fresh f3
  generalize H2.new 2 [.int .i64 5, .int .i64 3, .int .i64 4] = H3 at *
  refine LoopV.intro (fun m env H' => ∃ (i : Nat) (S' : Nat → Prop) (st : Int), env = [(1, ptr n), (26, .slice (some ⟨H2.size, 0, none⟩) 3 3), (27, i64 3), (28, i64 i)] ∧ m = 3 - i ∧ i ≤ 3 ∧ ShedAt H' n S' st (hayW i) ∧ (2 ≤ i → 1 ≤ st) ∧ Fresh H H' ∧ (∀ x, S' x → H.size ≤ x ∧ x ≠ H2.size) ∧ H'.own H2.size = some [i64 5, i64 3, i64 4]) 3
    ⟨0, S2, 0, rfl, rfl, by omega, d3, by omega, f2.trans f3, fun x hx => ⟨hS2' x hx, by have := hlt2 x hx; omega⟩, b3⟩ ?_
  rintro m env H4 ⟨i, S4, st, rfl, rfl, hi, d4, hst, f4, hS4, b4⟩
  simp (disch := (first | omega | (simp only [size_new, size_newm, size_wr, size_wrm] <;> omega) | fail)) only [go_sem, Nat.reduceBEq, Nat.reduceAdd, Nat.reduceMul, Nat.reduceLeDiff, ↓reduceIte, rd_new_lt, own_new_lt, mp_new_lt, rd_newm_lt, own_newm_lt, mp_newm_lt, rd_wr_ne, own_wr_ne, mp_wr_ne, rd_wrm_ne, own_wrm_ne, mp_wrm_ne, rd_new_eq, own_new_eq, mp_newm_eq]
  refine Both.dec (fun hin => ?_) (fun hin => ?_) <;> simp (disch := (first | omega | (simp only [size_new, size_newm, size_wr, size_wrm] <;> omega) | fail)) only [go_sem, Nat.reduceBEq, Nat.reduceAdd, Nat.reduceMul, Nat.reduceLeDiff, ↓reduceIte, rd_new_lt, own_new_lt, mp_new_lt, rd_newm_lt, own_newm_lt, mp_newm_lt, rd_wr_ne, own_wr_ne, mp_wr_ne, rd_wrm_ne, own_wrm_ne, mp_wrm_ne, rd_new_eq, own_new_eq, mp_newm_eq]
  · refine ⟨by omega, ?_⟩
    simp (disch := (first | omega | (simp only [size_new, size_newm, size_wr, size_wrm] <;> omega) | fail)) only [go_sem, Nat.reduceBEq, Nat.reduceAdd, Nat.reduceMul, Nat.reduceLeDiff, ↓reduceIte, rd_new_lt, own_new_lt, mp_new_lt, rd_newm_lt, own_newm_lt, mp_newm_lt, rd_wr_ne, own_wr_ne, mp_wr_ne, rd_wrm_ne, own_wrm_ne, mp_wrm_ne, rd_new_eq, own_new_eq, mp_newm_eq, rd_of_own b4, Nat.mul_one, Nat.zero_add, Int.toNat_natCast, hayK_get i (by omega)]
    refine (shed_Insert_spec d4 1 i (hayK i) 0).mono ?_
    have hl := hayW_len i (by omega)
    have hn := hayC_not i (by omega)
    rintro _ H5 (⟨hno, _, _⟩ | ⟨_, rfl, S5, q, hq1, hq2, d5, e5, hS5⟩)
    · refine absurd ⟨⟨by omega, rfl⟩, ⟨by omega, ?_⟩, ?_⟩ hno
      · show (i : Int) < (hayC i).length
        rw [hn.2]; omega
      · rintro ⟨_, c, hc, h0⟩
        rw [Int.toNat_natCast, show (hayW i).cs = hayC i from rfl, hn.1] at hc
        injection hc with hc
        subst hc
        exact absurd h0 (by decide)
    have hput : (hayW i).put i (1, hayK i, 0) = hayW (i + 1) := by
      unfold Nw.put hayW
      simp only [Int.toNat_natCast]
      rw [hayC_put i (by omega)]
    rw [hput] at d5
    have hst0 := d4.stb
    have hb4 := own_lt b4
    simp (disch := (first | omega | (simp only [size_new, size_newm, size_wr, size_wrm] <;> omega) | fail)) only [go_sem, Nat.reduceBEq, Nat.reduceAdd, Nat.reduceMul, Nat.reduceLeDiff, ↓reduceIte, rd_new_lt, own_new_lt, mp_new_lt, rd_newm_lt, own_newm_lt, mp_newm_lt, rd_wr_ne, own_wr_ne, mp_wr_ne, rd_wrm_ne, own_wrm_ne, mp_wrm_ne, rd_new_eq, own_new_eq, mp_newm_eq]
    rw [wrap64 (n := (i : Int) + 1) (by omega) (by omega)]
    refine ⟨3 - (i + 1), by omega, i + 1, S5, _, rfl, rfl, by omega, d5, fun h => ?_, f4.then e5 (fun z hz => (hS4 z hz).1), fun x hx => ?_, e5.own b4 (fun hz => (hS4 _ hz).2 rfl)⟩
    · have := hq2 (by rw [hl]; omega)
      omega
    · rcases hS5 x hx with h | h
      · exact hS4 x h
      · have := f4.size; exact ⟨by omega, by omega⟩
  · obtain rfl : i = 3 := by omega
    have hst3 := hst (by omega)
    have hstb := d4.stb
    refine (shed_Extract_spec d4 1).mono ?_
    rintro _ H5 (⟨h0, _⟩ | ⟨x, hx, rfl, q, hq, S5, d5, e5, hS5⟩)
    · exact absurd h0 (by decide)
    obtain rfl := hx.only 1 ⟨(3, 0), by decide⟩ (by decide)
    simp (disch := (first | omega | (simp only [size_new, size_newm, size_wr, size_wrm] <;> omega) | fail)) only [go_sem, Nat.reduceBEq, Nat.reduceAdd, Nat.reduceMul, Nat.reduceLeDiff, ↓reduceIte, rd_new_lt, own_new_lt, mp_new_lt, rd_newm_lt, own_newm_lt, mp_newm_lt, rd_wr_ne, own_wr_ne, mp_wr_ne, rd_wrm_ne, own_wrm_ne, mp_wrm_ne, rd_new_eq, own_new_eq, mp_newm_eq]
    refine (shed_Extract_spec d5 1).mono ?_
    rintro _ H6 (⟨h0, _⟩ | ⟨x, hx2, rfl, q2, hq2, S6, d6, e6, hS6⟩)
    · exact absurd h0 (by decide)
    obtain rfl := hx2.only 2 ⟨(4, 0), by decide⟩ (by decide)
    simp (disch := (first | omega | (simp only [size_new, size_newm, size_wr, size_wrm] <;> omega) | fail)) only [go_sem, Nat.reduceBEq, Nat.reduceAdd, Nat.reduceMul, Nat.reduceLeDiff, ↓reduceIte, rd_new_lt, own_new_lt, mp_new_lt, rd_newm_lt, own_newm_lt, mp_newm_lt, rd_wr_ne, own_wr_ne, mp_wr_ne, rd_wrm_ne, own_wrm_ne, mp_wrm_ne, rd_new_eq, own_new_eq, mp_newm_eq]
    refine (shed_Extract_spec d6 1).mono ?_
    rintro _ H7 (⟨h0, _⟩ | ⟨x, hx3, rfl, q3, hq3, S7, d7, e7, hS7⟩)
    · exact absurd h0 (by decide)
    obtain rfl := hx3.only 0 ⟨(5, 0), by decide⟩ (by decide)
    obtain ⟨c, C, r1, r2, o7, c7⟩ := d7.opened
    have f5 : Fresh H H5 := f4.then e5 (fun z hz => (hS4 z hz).1)
    have hS5' : ∀ z, S5 z → H.size ≤ z := fun z hz => by
      rcases hS5 z hz with h | h
      · exact (hS4 z h).1
      · have := f4.size; omega
    have f6 : Fresh H H6 := f5.then e6 hS5'
    have f7 : Fresh H H7 := f6.then e7 (fun z hz => by
      rcases hS6 z hz with h | h
      · exact hS5' z h
      · have := f5.size; omega)
    simp (disch := (first | omega | (simp only [size_new, size_newm, size_wr, size_wrm] <;> omega) | fail)) only [go_sem, Nat.reduceBEq, Nat.reduceAdd, Nat.reduceMul, Nat.reduceLeDiff, ↓reduceIte, rd_new_lt, own_new_lt, mp_new_lt, rd_newm_lt, own_newm_lt, mp_newm_lt, rd_wr_ne, own_wr_ne, mp_wr_ne, rd_wrm_ne, own_wrm_ne, mp_wrm_ne, rd_new_eq, own_new_eq, mp_newm_eq, decide_true]
    refine Both.of_true (by decide) ?_
    simp (disch := (first | omega | (simp only [size_new, size_newm, size_wr, size_wrm] <;> omega) | fail)) only [go_sem, Nat.reduceBEq, Nat.reduceAdd, Nat.reduceMul, Nat.reduceLeDiff, ↓reduceIte, rd_new_lt, own_new_lt, mp_new_lt, rd_newm_lt, own_newm_lt, mp_newm_lt, rd_wr_ne, own_wr_ne, mp_wr_ne, rd_wrm_ne, own_wrm_ne, mp_wrm_ne, rd_new_eq, own_new_eq, mp_newm_eq, decide_true]
    refine Both.of_true (by decide) ?_
    simp (disch := (first | omega | (simp only [size_new, size_newm, size_wr, size_wrm] <;> omega) | fail)) only [go_sem, Nat.reduceBEq, Nat.reduceAdd, Nat.reduceMul, Nat.reduceLeDiff, ↓reduceIte, rd_new_lt, own_new_lt, mp_new_lt, rd_newm_lt, own_newm_lt, mp_newm_lt, rd_wr_ne, own_wr_ne, mp_wr_ne, rd_wrm_ne, own_wrm_ne, mp_wrm_ne, rd_new_eq, own_new_eq, mp_newm_eq, decide_true]
    refine Both.of_true (by decide) ?_
    simp (disch := (first | omega | (simp only [size_new, size_newm, size_wr, size_wrm] <;> omega) | fail)) only [go_sem, Nat.reduceBEq, Nat.reduceAdd, Nat.reduceMul, Nat.reduceLeDiff, ↓reduceIte, rd_new_lt, own_new_lt, mp_new_lt, rd_newm_lt, own_newm_lt, mp_newm_lt, rd_wr_ne, own_wr_ne, mp_wr_ne, rd_wrm_ne, own_wrm_ne, mp_wrm_ne, rd_new_eq, own_new_eq, mp_newm_eq, rd_of_own o7, decide_true]
    refine (cellsN_Steps_spec c7).mono ?_
    rintro _ _ ⟨rfl, rfl⟩
    simp (disch := (first | omega | (simp only [size_new, size_newm, size_wr, size_wrm] <;> omega) | fail)) only [go_sem, Nat.reduceBEq, Nat.reduceAdd, Nat.reduceMul, Nat.reduceLeDiff, ↓reduceIte, rd_new_lt, own_new_lt, mp_new_lt, rd_newm_lt, own_newm_lt, mp_newm_lt, rd_wr_ne, own_wr_ne, mp_wr_ne, rd_wrm_ne, own_wrm_ne, mp_wrm_ne, rd_new_eq, own_new_eq, mp_newm_eq]
    exact ⟨congrArg Value.bool (decide_eq_true (by omega)), f7⟩

theorem law06_ShedNew_args {Hh : Hp} {v0 : Value} (h0 : fitA Hh (false, [.k (.i .i64)]) v0) :
    CallH Try.prog n_law06_ShedNew [v0] Hh fun v H' => Post (v = .bool true ∧ Fresh Hh H') := by
  obtain ⟨cap, rfl, hc0, hc1⟩ := fitA_i64 h0
  refine c_law06_ShedNew ⟨rfl, ?_⟩
  simp (disch := (first | omega | (simp only [size_new, size_newm, size_wr, size_wrm] <;> omega) | fail)) only [go_sem, Nat.reduceBEq, Nat.reduceAdd, Nat.reduceMul, Nat.reduceLeDiff, ↓reduceIte, rd_new_lt, own_new_lt, mp_new_lt, rd_newm_lt, own_newm_lt, mp_newm_lt, rd_wr_ne, own_wr_ne, mp_wr_ne, rd_wrm_ne, own_wrm_ne, mp_wrm_ne, rd_new_eq, own_new_eq, mp_newm_eq, s_law06_ShedNew]
  refine (law06_shedAlive_spec Hh).mono ?_
  rintro _ H1 ⟨rfl, f1⟩
  simp (disch := (first | omega | (simp only [size_new, size_newm, size_wr, size_wrm] <;> omega) | fail)) only [go_sem, Nat.reduceBEq, Nat.reduceAdd, Nat.reduceMul, Nat.reduceLeDiff, ↓reduceIte, rd_new_lt, own_new_lt, mp_new_lt, rd_newm_lt, own_newm_lt, mp_newm_lt, rd_wr_ne, own_wr_ne, mp_wr_ne, rd_wrm_ne, own_wrm_ne, mp_wrm_ne, rd_new_eq, own_new_eq, mp_newm_eq]
  refine (shed_New_spec cap H1).mono ?_
  rintro _ H2 ⟨f2, ⟨hb, rfl⟩ | ⟨hb, n, S, rfl, d2, hS⟩⟩
  · simp (disch := (first | omega | (simp only [size_new, size_newm, size_wr, size_wrm] <;> omega) | fail)) only [go_sem, Nat.reduceBEq, Nat.reduceAdd, Nat.reduceMul, Nat.reduceLeDiff, ↓reduceIte, rd_new_lt, own_new_lt, mp_new_lt, rd_newm_lt, own_newm_lt, mp_newm_lt, rd_wr_ne, own_wr_ne, mp_wr_ne, rd_wrm_ne, own_wrm_ne, mp_wrm_ne, rd_new_eq, own_new_eq, mp_newm_eq]
    refine Both.dec (fun h => ?_) (fun h => ?_) <;> simp (disch := (first | omega | (simp only [size_new, size_newm, size_wr, size_wrm] <;> omega) | fail)) only [go_sem, Nat.reduceBEq, Nat.reduceAdd, Nat.reduceMul, Nat.reduceLeDiff, ↓reduceIte, rd_new_lt, own_new_lt, mp_new_lt, rd_newm_lt, own_newm_lt, mp_newm_lt, rd_wr_ne, own_wr_ne, mp_wr_ne, rd_wrm_ne, own_wrm_ne, mp_wrm_ne, rd_new_eq, own_new_eq, mp_newm_eq, Option.isNone_none, decide_true]
    · first | exact ⟨rfl, f1.trans f2⟩ | (refine Both.of_true (by decide) ?_; simp (disch := (first | omega | (simp only [size_new, size_newm, size_wr, size_wrm] <;> omega) | fail)) only [go_sem, Nat.reduceBEq, Nat.reduceAdd, Nat.reduceMul, Nat.reduceLeDiff, ↓reduceIte, rd_new_lt, own_new_lt, mp_new_lt, rd_newm_lt, own_newm_lt, mp_newm_lt, rd_wr_ne, own_wr_ne, mp_wr_ne, rd_wrm_ne, own_wrm_ne, mp_wrm_ne, rd_new_eq, own_new_eq, mp_newm_eq, Option.isNone_none, decide_true]; exact ⟨rfl, f1.trans f2⟩)
    · refine Both.of_true (decide_eq_true (by omega)) ?_
      simp (disch := (first | omega | (simp only [size_new, size_newm, size_wr, size_wrm] <;> omega) | fail)) only [go_sem, Nat.reduceBEq, Nat.reduceAdd, Nat.reduceMul, Nat.reduceLeDiff, ↓reduceIte, rd_new_lt, own_new_lt, mp_new_lt, rd_newm_lt, own_newm_lt, mp_newm_lt, rd_wr_ne, own_wr_ne, mp_wr_ne, rd_wrm_ne, own_wrm_ne, mp_wrm_ne, rd_new_eq, own_new_eq, mp_newm_eq, Option.isNone_none, decide_true]
      exact ⟨rfl, f1.trans f2⟩
  · simp (disch := (first | omega | (simp only [size_new, size_newm, size_wr, size_wrm] <;> omega) | fail)) only [go_sem, Nat.reduceBEq, Nat.reduceAdd, Nat.reduceMul, Nat.reduceLeDiff, ↓reduceIte, rd_new_lt, own_new_lt, mp_new_lt, rd_newm_lt, own_newm_lt, mp_newm_lt, rd_wr_ne, own_wr_ne, mp_wr_ne, rd_wrm_ne, own_wrm_ne, mp_wrm_ne, rd_new_eq, own_new_eq, mp_newm_eq]
    refine Both.of_false (decide_eq_false (by omega)) ?_
    simp (disch := (first | omega | (simp only [size_new, size_newm, size_wr, size_wrm] <;> omega) | fail)) only [go_sem, Nat.reduceBEq, Nat.reduceAdd, Nat.reduceMul, Nat.reduceLeDiff, ↓reduceIte, rd_new_lt, own_new_lt, mp_new_lt, rd_newm_lt, own_newm_lt, mp_newm_lt, rd_wr_ne, own_wr_ne, mp_wr_ne, rd_wrm_ne, own_wrm_ne, mp_wrm_ne, rd_new_eq, own_new_eq, mp_newm_eq]
    refine Both.of_false (decide_eq_false (by omega)) ?_
    obtain ⟨c, C, r1, r2, o2, c2⟩ := d2.opened
    simp (disch := (first | omega | (simp only [size_new, size_newm, size_wr, size_wrm] <;> omega) | fail)) only [go_sem, Nat.reduceBEq, Nat.reduceAdd, Nat.reduceMul, Nat.reduceLeDiff, ↓reduceIte, rd_new_lt, own_new_lt, mp_new_lt, rd_newm_lt, own_newm_lt, mp_newm_lt, rd_wr_ne, own_wr_ne, mp_wr_ne, rd_wrm_ne, own_wrm_ne, mp_wrm_ne, rd_new_eq, own_new_eq, mp_newm_eq, Option.isNone_some, decide_true, rd_of_own o2]
    refine (cellsN_Capacity_spec c2).mono ?_
    rintro _ _ ⟨rfl, rfl⟩
    have hcl : ((List.replicate cap.toNat ((0 : Int), (0 : Int), (0 : Int))).length : Int) = cap := by rw [List.length_replicate]; omega
    rw [hcl]
    simp (disch := (first | omega | (simp only [size_new, size_newm, size_wr, size_wrm] <;> omega) | fail)) only [go_sem, Nat.reduceBEq, Nat.reduceAdd, Nat.reduceMul, Nat.reduceLeDiff, ↓reduceIte, rd_new_lt, own_new_lt, mp_new_lt, rd_newm_lt, own_newm_lt, mp_newm_lt, rd_wr_ne, own_wr_ne, mp_wr_ne, rd_wrm_ne, own_wrm_ne, mp_wrm_ne, rd_new_eq, own_new_eq, mp_newm_eq, decide_true, rd_of_own o2]
    refine (cellsN_Steps_spec c2).mono ?_
    rintro _ _ ⟨rfl, rfl⟩
    simp (disch := (first | omega | (simp only [size_new, size_newm, size_wr, size_wrm] <;> omega) | fail)) only [go_sem, Nat.reduceBEq, Nat.reduceAdd, Nat.reduceMul, Nat.reduceLeDiff, ↓reduceIte, rd_new_lt, own_new_lt, mp_new_lt, rd_newm_lt, own_newm_lt, mp_newm_lt, rd_wr_ne, own_wr_ne, mp_wr_ne, rd_wrm_ne, own_wrm_ne, mp_wrm_ne, rd_new_eq, own_new_eq, mp_newm_eq, decide_true, rd_of_own o2]
    refine (cellsN_Has_spec c2 1).mono ?_
    rintro _ _ ⟨rfl, rfl⟩
    simp (disch := (first | omega | (simp only [size_new, size_newm, size_wr, size_wrm] <;> omega) | fail)) only [go_sem, Nat.reduceBEq, Nat.reduceAdd, Nat.reduceMul, Nat.reduceLeDiff, ↓reduceIte, rd_new_lt, own_new_lt, mp_new_lt, rd_newm_lt, own_newm_lt, mp_newm_lt, rd_wr_ne, own_wr_ne, mp_wr_ne, rd_wrm_ne, own_wrm_ne, mp_wrm_ne, rd_new_eq, own_new_eq, mp_newm_eq]
    refine ⟨?_, f1.trans f2⟩
    have : ¬ (⟨[false], List.replicate cap.toNat (0, 0, 0)⟩ : Nw).has 1 := fun h => by have := h.2; simp at this
    rw [decide_eq_false this]; rfl

end Go.Proofs.Yteicchpglnamcaa
