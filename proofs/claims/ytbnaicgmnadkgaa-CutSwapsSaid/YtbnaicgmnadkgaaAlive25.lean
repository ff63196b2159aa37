/-
  The laws of layer 25: the chapter's example, and what is handed to them.
-/
import Derived.Test.YtbnaicgmnadkgaaCutX
import Derived.Test.YtbnaicgmnadkgaaGraphArg
set_option linter.unusedVariables false
set_option linter.unusedSimpArgs false
namespace Go.Proofs.Ytbnaicgmnadkgaa
open Go Go.Vc

theorem law25_great_spec (H : Hp) (n : Int) (a : Option Addr) (k c : Nat) : CallH Try.prog n_law25_great [grV n (.slice a k c)] H fun v H' => Post (v = .bool (decide (30 < k ∨ (20 < n ∧ n ≤ 4096))) ∧ Fresh H H') := by
  refine c_law25_great ⟨rfl, ?_⟩
  have f0 : Fresh H (H.new 24 [i64 n, .slice a k c]) := (Ext.refl _ _).new _ _
  have b0 := own_new H 24 [i64 n, .slice a k c]
  simp (disch := (first | omega | (simp only [size_new, size_newm, size_wr, size_wrm] <;> omega) | fail)) only [go_sem, Nat.reduceBEq, Nat.reduceAdd, Nat.reduceMul, Nat.reduceLeDiff, ↓reduceIte, rd_new_lt, own_new_lt, mp_new_lt, rd_newm_lt, own_newm_lt, mp_newm_lt, rd_wr_ne, own_wr_ne, mp_wr_ne, rd_wrm_ne, own_wrm_ne, mp_wrm_ne, rd_new_eq, own_new_eq, mp_newm_eq, s_law25_great, grV]
  generalize H.new 24 [i64 n, .slice a k c] = H0 at *
  refine Both.dec (fun h1 => ?_) (fun h1 => ?_) <;> simp (disch := (first | omega | (simp only [size_new, size_newm, size_wr, size_wrm] <;> omega) | fail)) only [go_sem, Nat.reduceBEq, Nat.reduceAdd, Nat.reduceMul, Nat.reduceLeDiff, ↓reduceIte, rd_new_lt, own_new_lt, mp_new_lt, rd_newm_lt, own_newm_lt, mp_newm_lt, rd_wr_ne, own_wr_ne, mp_wr_ne, rd_wrm_ne, own_wrm_ne, mp_wrm_ne, rd_new_eq, own_new_eq, mp_newm_eq, rd_of_own b0]
  · exact ⟨congrArg Value.bool (by symm; simp; omega), f0⟩
  · refine Both.dec (fun h3 => ?_) (fun h3 => ?_) <;> simp (disch := (first | omega | (simp only [size_new, size_newm, size_wr, size_wrm] <;> omega) | fail)) only [go_sem, Nat.reduceBEq, Nat.reduceAdd, Nat.reduceMul, Nat.reduceLeDiff, ↓reduceIte, rd_new_lt, own_new_lt, mp_new_lt, rd_newm_lt, own_newm_lt, mp_newm_lt, rd_wr_ne, own_wr_ne, mp_wr_ne, rd_wrm_ne, own_wrm_ne, mp_wrm_ne, rd_new_eq, own_new_eq, mp_newm_eq, rd_of_own b0]
    · exact ⟨congrArg Value.bool (by rw [decide_eq_decide]; omega), f0⟩
    · exact ⟨congrArg Value.bool (by symm; simp; omega), f0⟩

def exE : List Ed := [⟨0, 1, 1⟩, ⟨1, 2, 2⟩, ⟨2, 0, 3⟩]

theorem ex_right : rightG 3 exE = true := by decide

theorem ex_span (x y : Int) (h1 : (x = 0 ∧ y = 2) ∨ (x = 0 ∧ y = 1)) : SpR 3 exE [x, y] := by
  refine ⟨ex_right, ?_⟩
  rcases h1 with ⟨rfl, rfl⟩ | ⟨rfl, rfl⟩
  · refine ⟨fun i hi => ?_, ?_, fun u v => hang_mono fun e he => ?_⟩
    · simp only [List.mem_cons, List.not_mem_nil, or_false] at hi
      rcases hi with rfl | rfl <;> exact ⟨by decide, by decide⟩
    · exact .snoc [fE exE 0] (fE exE 2) (.snoc [] (fE exE 0) .nil (by decide)) (by decide)
    · have he : e ∈ [(0, 1), (1, 2), (2, 0)] := he
      simp only [List.mem_cons, List.not_mem_nil, or_false] at he
      rcases he with rfl | rfl | rfl <;> decide
  · refine ⟨fun i hi => ?_, ?_, fun u v => hang_mono fun e he => ?_⟩
    · simp only [List.mem_cons, List.not_mem_nil, or_false] at hi
      rcases hi with rfl | rfl <;> exact ⟨by decide, by decide⟩
    · exact .snoc [fE exE 0] (fE exE 1) (.snoc [] (fE exE 0) .nil (by decide)) (by decide)
    · have he : e ∈ [(0, 1), (1, 2), (2, 0)] := he
      simp only [List.mem_cons, List.not_mem_nil, or_false] at he
      rcases he with rfl | rfl | rfl <;> decide

theorem ex_loc1 : ¬ LocG exE [0, 2] := fun h => by
  have := h 1 (by decide)
  revert this
  decide

theorem ex_loc2 : LocG exE [0, 1] := by
  intro i hi
  have hi : i ∈ [(0 : Int), 1, 2] := hi
  simp only [List.mem_cons, List.not_mem_nil, or_false] at hi
  rcases hi with rfl | rfl | rfl <;> decide

set_option maxHeartbeats 2000000 in
theorem law25_cutAlive_spec (H : Hp) : CallH Try.prog n_law25_cutAlive [] H fun v H' => Post (v = .bool true ∧ Fresh H H') := by
  refine c_law25_cutAlive ⟨rfl, ?_⟩
  simp (disch := (first | omega | (simp only [size_new, size_newm, size_wr, size_wrm] <;> omega) | fail)) only [go_sem, Nat.reduceBEq, Nat.reduceAdd, Nat.reduceMul, Nat.reduceLeDiff, ↓reduceIte, rd_new_lt, own_new_lt, mp_new_lt, rd_newm_lt, own_newm_lt, mp_newm_lt, rd_wr_ne, own_wr_ne, mp_wr_ne, rd_wrm_ne, own_wrm_ne, mp_wrm_ne, rd_new_eq, own_new_eq, mp_newm_eq, s_law25_cutAlive]
  have fe : Fresh H (H.new 35 (flatE exE)) := (Ext.refl _ _).new _ _
  have re : RdS (H.new 35 (flatE exE)) 3 (.slice (some ⟨H.size, 0, none⟩) exE.length 3) exE.length (flatE exE) := (Sl.lit H 35 3 3 (flatE exE) rfl).rd
  have hze : (H.new 35 (flatE exE)).size = H.size + 1 := by rw [size_new]
  have hE : H.new 35 [Value.int .i64 0, Value.int .i64 1, Value.int .i64 1, Value.int .i64 1, Value.int .i64 2, Value.int .i64 2, Value.int .i64 2, Value.int .i64 0, Value.int .i64 3] = H.new 35 (flatE exE) := rfl
  rw [hE]
  generalize H.new 35 (flatE exE) = H0 at *
  have q1 := own_new H0 24 [Value.int .i64 0, Value.slice none 0 0]
  have q2 := own_wr_same (l := [Value.int .i64 3, Value.slice (some ⟨H.size, 0, none⟩) 3 3]) q1
  have fw : Fresh H0 ((H0.new 24 [Value.int .i64 0, Value.slice none 0 0]).wr H0.size [Value.int .i64 3, Value.slice (some ⟨H.size, 0, none⟩) 3 3]) := ((Ext.refl _ _).new _ _ : Fresh H0 _).then ((Ext.refl (fun z => z = H0.size) _).wr (fun _ => rfl) _) (fun z hz => by omega)
  rw [hze] at q2 fw
  generalize (H0.new 24 [Value.int .i64 0, Value.slice none 0 0]).wr (H.size + 1) [Value.int .i64 3, Value.slice (some ⟨H.size, 0, none⟩) 3 3] = H1 at *
  have r1 := re.fresh fw
  have f1 := fe.trans fw
  have lit : ∀ (A : Hp) (x y : Int), Fresh H1 A → RdS (A.new 3 [Value.int .i64 x, Value.int .i64 y]) 1 (.slice (some ⟨A.size, 0, none⟩) [x, y].length 2) [x, y].length ([x, y].map i64) ∧ Fresh A (A.new 3 [Value.int .i64 x, Value.int .i64 y]) :=
    fun A x y hA => ⟨(Sl.lit A 3 1 2 [Value.int .i64 x, Value.int .i64 y] rfl).rd, (Ext.refl _ _).new _ _⟩
  obtain ⟨l1, g1⟩ := lit H1 0 2 (Ext.refl _ _)
  simp (disch := (first | omega | (simp only [size_new, size_newm, size_wr, size_wrm] <;> omega) | fail)) only [go_sem, Nat.reduceBEq, Nat.reduceAdd, Nat.reduceMul, Nat.reduceLeDiff, ↓reduceIte, rd_new_lt, own_new_lt, mp_new_lt, rd_newm_lt, own_newm_lt, mp_newm_lt, rd_wr_ne, own_wr_ne, mp_wr_ne, rd_wrm_ne, own_wrm_ne, mp_wrm_ne, rd_new_eq, own_new_eq, mp_newm_eq, rd_of_own q2]
  refine (cut_Spans_spec (r1.fresh g1) l1 (by decide) (by decide)).mono ?_
  rintro _ H2 ⟨f2, b, rfl, hb⟩
  rw [hb.2 (ex_span 0 2 (.inl ⟨rfl, rfl⟩))]
  have q3 := (g1.trans f2).own q2 (fun h => h)
  obtain ⟨l2, g2⟩ := lit H2 0 2 (g1.trans f2)
  have k2 := (g1.trans f2).trans g2
  simp (disch := (first | omega | (simp only [size_new, size_newm, size_wr, size_wrm] <;> omega) | fail)) only [go_sem, Nat.reduceBEq, Nat.reduceAdd, Nat.reduceMul, Nat.reduceLeDiff, ↓reduceIte, rd_new_lt, own_new_lt, mp_new_lt, rd_newm_lt, own_newm_lt, mp_newm_lt, rd_wr_ne, own_wr_ne, mp_wr_ne, rd_wrm_ne, own_wrm_ne, mp_wrm_ne, rd_new_eq, own_new_eq, mp_newm_eq, rd_of_own q3]
  refine (cut_Least_spec (r1.fresh k2) l2 (by decide) (by decide)).mono ?_
  rintro _ H3 ⟨f3, b3, rfl, hb3⟩
  have hf3 : b3 = false := by
    cases b3
    · rfl
    · exact absurd (hb3.1 rfl).2 ex_loc1
  subst hf3
  have k3 := k2.trans f3
  have q4 := k3.own q2 (fun h => h)
  obtain ⟨l3, g3⟩ := lit H3 0 1 k3
  have k4 := k3.trans g3
  simp (disch := (first | omega | (simp only [size_new, size_newm, size_wr, size_wrm] <;> omega) | fail)) only [go_sem, Nat.reduceBEq, Nat.reduceAdd, Nat.reduceMul, Nat.reduceLeDiff, ↓reduceIte, rd_new_lt, own_new_lt, mp_new_lt, rd_newm_lt, own_newm_lt, mp_newm_lt, rd_wr_ne, own_wr_ne, mp_wr_ne, rd_wrm_ne, own_wrm_ne, mp_wrm_ne, rd_new_eq, own_new_eq, mp_newm_eq, rd_of_own q4, Bool.not_false]
  refine (cut_Least_spec (r1.fresh k4) l3 (by decide) (by decide)).mono ?_
  rintro _ H4 ⟨f4, b4, rfl, hb4⟩
  rw [hb4.2 ⟨ex_span 0 1 (.inr ⟨rfl, rfl⟩), ex_loc2⟩]
  simp (disch := (first | omega | (simp only [size_new, size_newm, size_wr, size_wrm] <;> omega) | fail)) only [go_sem, Nat.reduceBEq, Nat.reduceAdd, Nat.reduceMul, Nat.reduceLeDiff, ↓reduceIte, rd_new_lt, own_new_lt, mp_new_lt, rd_newm_lt, own_newm_lt, mp_newm_lt, rd_wr_ne, own_wr_ne, mp_wr_ne, rd_wrm_ne, own_wrm_ne, mp_wrm_ne, rd_new_eq, own_new_eq, mp_newm_eq]
  exact ⟨rfl, f1.trans (k4.trans f4)⟩

theorem fitA_intsC {H : Hp} {v : Value} (h : fitA H (false, [.sl [.i .i64]]) v) : ∃ (ks : List Int) (a : Option Addr) (c : Nat), v = .slice a ks.length c ∧ RdS H 1 (.slice a ks.length c) ks.length (ks.map i64) ∧ ks.length ≤ c ∧ ks.length ≤ maxLen := by
  obtain ⟨rows, hr, hrows, hmax, a, c, rfl, hac⟩ := fitA_slc h
  obtain ⟨ks, e1, e2, -⟩ := rows_ints hrows
  rw [e1, ← e2] at hr
  rw [← e2] at hac hmax ⊢
  exact ⟨ks, a, c, rfl, hr, hac, hmax⟩

theorem fitA_two {H : Hp} {v : Value} (h : fitA H (true, [.k (.i .i64), .k (.i .i64)]) v) : ∃ x y : Int, v = .agg #[i64 x, i64 y] ∧ (-9223372036854775808 ≤ x ∧ x ≤ 9223372036854775807) ∧ (-9223372036854775808 ≤ y ∧ y ≤ 9223372036854775807) := by
  obtain ⟨cs, rfl, _, _, rfl, ⟨x, rfl, hx⟩, _, _, rfl, ⟨y, rfl, hy⟩, rfl⟩ := h
  exact ⟨x, y, rfl, wf_i64 hx, wf_i64 hy⟩

end Go.Proofs.Ytbnaicgmnadkgaa
