/-
  The law GraphSums answers true.
-/
import Derived.Test.YtkcpoiploighiaaDoorSums2
import Derived.Test.YtkcpoiploighiaaDoorAlive21
set_option linter.unusedVariables false
set_option linter.unusedSimpArgs false
namespace Go.Proofs.YtkcpoiploighiaaDoor
open Go Go.Vc

theorem sum_eqVs (a b a' b' : Int) : eqVs [(0, (none, .int)), (1, (none, .int))] [i64 a, u64 b] [i64 a', u64 b'] = some (decide (a = a') && decide (b = b')) := by
  by_cases h1 : a = a' <;> by_cases h2 : b = b' <;> simp [eqVs, partL, eqV, simpleEq, h1, h2]
theorem cmpE_anti (k s k' s' : Int) : cmpE k' s' k s = - cmpE k s k' s' ∧ -1 ≤ cmpE k s k' s' ∧ cmpE k s k' s' ≤ 1 := by
  unfold cmpE orI cmpI
  by_cases h1 : k < k'
  · simp [h1, show ¬ k' < k by omega]
  · by_cases h2 : k' < k
    · simp [h1, h2]
    · by_cases h3 : s < s'
      · simp [h1, h2, h3, show ¬ s' < s by omega]
      · by_cases h4 : s' < s
        · simp [h1, h2, h3, h4]
        · simp [h1, h2, h3, h4]
theorem wfi64 {x : Int} (h : (Lit.int .i64 x).wf = true) : -9223372036854775808 ≤ x ∧ x ≤ 9223372036854775807 := by
  have e1 : IntKind.i64.min = -9223372036854775808 := rfl
  have e2 : IntKind.i64.max = 9223372036854775807 := rfl
  simp only [Lit.wf, e1, e2, Bool.and_eq_true, decide_eq_true_eq] at h
  omega

theorem two_sums (H : Hp) (T : TypeId) (p q : Int × Nat) : ∀ G, G = (((H.new T [i64 0, u64 0]).new T [i64 0, u64 0]).wr H.size [i64 p.1, u64 p.2]).wr (H.size + 1) [i64 q.1, u64 q.2] →
    Fresh H G ∧ G.own H.size = some [i64 p.1, u64 p.2] ∧ G.own (H.size + 1) = some [i64 q.1, u64 q.2] := by
  rintro _ rfl
  have f0 : Fresh H ((H.new T [i64 0, u64 0]).new T [i64 0, u64 0]) := ((Ext.refl _ _).new _ _).new _ _
  have b0 : ((H.new T [i64 0, u64 0]).new T [i64 0, u64 0]).own H.size = some [i64 0, u64 0] := Ext.own (((Ext.refl (fun _ => False) _).new _ _) : Fresh (H.new T [i64 0, u64 0]) _) (own_new _ _ _) (fun h => h)
  have d0 : ((H.new T [i64 0, u64 0]).new T [i64 0, u64 0]).own (H.size + 1) = some [i64 0, u64 0] := own_new_eq (by simp only [size_new])
  refine ⟨?_, ?_, ?_⟩
  · exact (f0.then ((Ext.refl (fun z => z = H.size) _).wr (fun _ => rfl) _) (fun z hz => by omega)).then ((Ext.refl (fun z => z = H.size + 1) _).wr (fun _ => rfl) _) (fun z hz => by omega)
  · rw [own_wr_ne (by omega)]; exact own_wr_same b0
  · exact own_wr_same (by rw [own_wr_ne (by omega)]; exact d0)

set_option maxHeartbeats 4000000 in
theorem law21_GraphSums_args {Hh : Hp} (he : ErrH Hh) {v0 v1 : Value} (h0 : fitA Hh (false, [.sl [.i .i64]]) v0) (h1 : fitA Hh (false, [.sl [.i .i64]]) v1) : CallH Tryd.prog n_law21_GraphSums [v0, v1] Hh fun v H' => Post (v = .bool true ∧ Fresh Hh H') := by
  obtain ⟨rows, hr, hrows, hrl, a, c, rfl, hac⟩ := fitA_slc h0
  obtain ⟨rows', hr', hrows', hrl', a', c', rfl, hac'⟩ := fitA_slc h1
  obtain ⟨xs, e1, e2, hx⟩ := rows_ints hrows
  obtain ⟨ys, e3, e4, hy⟩ := rows_ints hrows'
  rw [e1, ← e2] at hr
  rw [e3, ← e4] at hr'
  rw [← e2] at hac ⊢
  rw [← e4] at hac' ⊢
  clear e1 e2 e3 e4 hrows hrows' h0 h1 hrl hrl'
  have hx' := fun x h => wfi64 (hx x h)
  have hy' := fun x h => wfi64 (hy x h)
  refine c_law21_GraphSums ⟨rfl, ?_⟩
  simp (disch := (first | omega | (simp only [size_new, size_newm, size_wr, size_wrm] <;> omega) | fail)) only [go_sem, Nat.reduceBEq, Nat.reduceAdd, Nat.reduceMul, Nat.reduceLeDiff, ↓reduceIte, rd_new_lt, own_new_lt, mp_new_lt, rd_newm_lt, own_newm_lt, mp_newm_lt, rd_wr_ne, own_wr_ne, mp_wr_ne, rd_wrm_ne, own_wrm_ne, mp_wrm_ne, rd_new_eq, own_new_eq, mp_newm_eq, s_law21_GraphSums]
  refine (law21_graphAlive_spec he).mono ?_
  rintro _ H1 ⟨rfl, f1⟩
  simp (disch := (first | omega | (simp only [size_new, size_newm, size_wr, size_wrm] <;> omega) | fail)) only [go_sem, Nat.reduceBEq, Nat.reduceAdd, Nat.reduceMul, Nat.reduceLeDiff, ↓reduceIte, rd_new_lt, own_new_lt, mp_new_lt, rd_newm_lt, own_newm_lt, mp_newm_lt, rd_wr_ne, own_wr_ne, mp_wr_ne, rd_wrm_ne, own_wrm_ne, mp_wrm_ne, rd_new_eq, own_new_eq, mp_newm_eq]
  refine Both.dec (fun hx3 => ?_) (fun hx3 => ?_) <;> simp (disch := (first | omega | (simp only [size_new, size_newm, size_wr, size_wrm] <;> omega) | fail)) only [go_sem, Nat.reduceBEq, Nat.reduceAdd, Nat.reduceMul, Nat.reduceLeDiff, ↓reduceIte, rd_new_lt, own_new_lt, mp_new_lt, rd_newm_lt, own_newm_lt, mp_newm_lt, rd_wr_ne, own_wr_ne, mp_wr_ne, rd_wrm_ne, own_wrm_ne, mp_wrm_ne, rd_new_eq, own_new_eq, mp_newm_eq]
  · exact ⟨rfl, f1⟩
  refine Both.dec (fun hy3 => ?_) (fun hy3 => ?_) <;> simp (disch := (first | omega | (simp only [size_new, size_newm, size_wr, size_wrm] <;> omega) | fail)) only [go_sem, Nat.reduceBEq, Nat.reduceAdd, Nat.reduceMul, Nat.reduceLeDiff, ↓reduceIte, rd_new_lt, own_new_lt, mp_new_lt, rd_newm_lt, own_newm_lt, mp_newm_lt, rd_wr_ne, own_wr_ne, mp_wr_ne, rd_wrm_ne, own_wrm_ne, mp_wrm_ne, rd_new_eq, own_new_eq, mp_newm_eq]
  · exact ⟨rfl, f1⟩
  refine (graph_Total_spec (hr.fresh f1) (by omega) hx').mono ?_
  rintro _ H2 ⟨rfl, f2⟩
  simp (disch := (first | omega | (simp only [size_new, size_newm, size_wr, size_wrm] <;> omega) | fail)) only [go_sem, Nat.reduceBEq, Nat.reduceAdd, Nat.reduceMul, Nat.reduceLeDiff, ↓reduceIte, rd_new_lt, own_new_lt, mp_new_lt, rd_newm_lt, own_newm_lt, mp_newm_lt, rd_wr_ne, own_wr_ne, mp_wr_ne, rd_wrm_ne, own_wrm_ne, mp_wrm_ne, rd_new_eq, own_new_eq, mp_newm_eq]
  refine (graph_Total_spec ((hr'.fresh f1).fresh f2) (by omega) hy').mono ?_
  rintro _ H3 ⟨rfl, f3⟩
  simp (disch := (first | omega | (simp only [size_new, size_newm, size_wr, size_wrm] <;> omega) | fail)) only [go_sem, Nat.reduceBEq, Nat.reduceAdd, Nat.reduceMul, Nat.reduceLeDiff, ↓reduceIte, rd_new_lt, own_new_lt, mp_new_lt, rd_newm_lt, own_newm_lt, mp_newm_lt, rd_wr_ne, own_wr_ne, mp_wr_ne, rd_wrm_ne, own_wrm_ne, mp_wrm_ne, rd_new_eq, own_new_eq, mp_newm_eq, sumV]
  obtain ⟨f4, p5, p6⟩ := two_sums H3 26 (totS xs) (totS ys) _ rfl
  generalize (((H3.new 26 [i64 0, u64 0]).new 26 [i64 0, u64 0]).wr H3.size [i64 (totS xs).1, u64 (totS xs).2]).wr (H3.size + 1) [i64 (totS ys).1, u64 (totS ys).2] = H4 at *
  have f14 := f2.trans (f3.trans f4)
  refine (ref21_Total_spec ((hr.fresh f1).fresh f14) (by omega) hx').mono ?_
  rintro _ H5 ⟨rfl, f5⟩
  simp (disch := (first | omega | (simp only [size_new, size_newm, size_wr, size_wrm] <;> omega) | fail)) only [go_sem, Nat.reduceBEq, Nat.reduceAdd, Nat.reduceMul, Nat.reduceLeDiff, ↓reduceIte, rd_new_lt, own_new_lt, mp_new_lt, rd_newm_lt, own_newm_lt, mp_newm_lt, rd_wr_ne, own_wr_ne, mp_wr_ne, rd_wrm_ne, own_wrm_ne, mp_wrm_ne, rd_new_eq, own_new_eq, mp_newm_eq]
  refine (ref21_Total_spec (((hr'.fresh f1).fresh f14).fresh f5) (by omega) hy').mono ?_
  rintro _ H6 ⟨rfl, f6⟩
  simp (disch := (first | omega | (simp only [size_new, size_newm, size_wr, size_wrm] <;> omega) | fail)) only [go_sem, Nat.reduceBEq, Nat.reduceAdd, Nat.reduceMul, Nat.reduceLeDiff, ↓reduceIte, rd_new_lt, own_new_lt, mp_new_lt, rd_newm_lt, own_newm_lt, mp_newm_lt, rd_wr_ne, own_wr_ne, mp_wr_ne, rd_wrm_ne, own_wrm_ne, mp_wrm_ne, rd_new_eq, own_new_eq, mp_newm_eq, sumV]
  obtain ⟨f7, p7, p8⟩ := two_sums H6 28 (totS xs) (totS ys) _ rfl
  generalize (((H6.new 28 [i64 0, u64 0]).new 28 [i64 0, u64 0]).wr H6.size [i64 (totS xs).1, u64 (totS xs).2]).wr (H6.size + 1) [i64 (totS ys).1, u64 (totS ys).2] = H7 at *
  have f47 := f5.trans (f6.trans f7)
  have p5' := f47.own p5 (fun h => h)
  have p6' := f47.own p6 (fun h => h)
  generalize totS xs = p at *
  generalize totS ys = q at *
  obtain ⟨ca, cb, cc⟩ := cmpE_anti p.1 p.2 q.1 q.2
  have cn := cmpE_neg p.1 p.2 q.1 q.2
  have cz := cmpE_zero p.1 p.2 q.1 q.2
  simp (disch := (first | omega | (simp only [size_new, size_newm, size_wr, size_wrm] <;> omega) | fail)) only [go_sem, Nat.reduceBEq, Nat.reduceAdd, Nat.reduceMul, Nat.reduceLeDiff, ↓reduceIte, rd_new_lt, own_new_lt, mp_new_lt, rd_newm_lt, own_newm_lt, mp_newm_lt, rd_wr_ne, own_wr_ne, mp_wr_ne, rd_wrm_ne, own_wrm_ne, mp_wrm_ne, rd_new_eq, own_new_eq, mp_newm_eq, rd_of_own p5', rd_of_own p6']
  refine (graph_Compare_spec p q H7).mono ?_
  rintro _ H8 ⟨rfl, f8⟩
  have r5 := f8.own p5' (fun h => h)
  have r6 := f8.own p6' (fun h => h)
  have r7 := f8.own p7 (fun h => h)
  have r8 := f8.own p8 (fun h => h)
  simp (disch := (first | omega | (simp only [size_new, size_newm, size_wr, size_wrm] <;> omega) | fail)) only [go_sem, Nat.reduceBEq, Nat.reduceAdd, Nat.reduceMul, Nat.reduceLeDiff, ↓reduceIte, rd_new_lt, own_new_lt, mp_new_lt, rd_newm_lt, own_newm_lt, mp_newm_lt, rd_wr_ne, own_wr_ne, mp_wr_ne, rd_wrm_ne, own_wrm_ne, mp_wrm_ne, rd_new_eq, own_new_eq, mp_newm_eq, rd_of_own r5, rd_of_own r6, rd_of_own r7, rd_of_own r8, decide_true]
  refine (graph_Compare_spec q p H8).mono ?_
  rintro _ H9 ⟨rfl, f9⟩
  rw [ca]
  generalize cmpE p.1 p.2 q.1 q.2 = m at *
  have wm : IntKind.i64.wrap (0 - -m) = m := by rw [Int.zero_sub, Int.neg_neg]; exact wrap64 (by omega) (by omega)
  have t7 := f9.own r7 (fun h => h)
  have t8 := f9.own r8 (fun h => h)
  simp (disch := (first | omega | (simp only [size_new, size_newm, size_wr, size_wrm] <;> omega) | fail)) only [go_sem, Nat.reduceBEq, Nat.reduceAdd, Nat.reduceMul, Nat.reduceLeDiff, ↓reduceIte, rd_new_lt, own_new_lt, mp_new_lt, rd_newm_lt, own_newm_lt, mp_newm_lt, rd_wr_ne, own_wr_ne, mp_wr_ne, rd_wrm_ne, own_wrm_ne, mp_wrm_ne, rd_new_eq, own_new_eq, mp_newm_eq, wm]
  refine Both.of_true (by simp) ?_
  simp (disch := (first | omega | (simp only [size_new, size_newm, size_wr, size_wrm] <;> omega) | fail)) only [go_sem, Nat.reduceBEq, Nat.reduceAdd, Nat.reduceMul, Nat.reduceLeDiff, ↓reduceIte, rd_new_lt, own_new_lt, mp_new_lt, rd_newm_lt, own_newm_lt, mp_newm_lt, rd_wr_ne, own_wr_ne, mp_wr_ne, rd_wrm_ne, own_wrm_ne, mp_wrm_ne, rd_new_eq, own_new_eq, mp_newm_eq, rd_of_own t7, rd_of_own t8]
  refine (ref21_Less_spec p q H9).mono ?_
  rintro _ H10 ⟨rfl, f10⟩
  have u7 := f10.own t7 (fun h => h)
  have u8 := f10.own t8 (fun h => h)
  have fz : Fresh Hh H10 := f1.trans (f14.trans (f47.trans (f8.trans (f9.trans f10))))
  simp (disch := (first | omega | (simp only [size_new, size_newm, size_wr, size_wrm] <;> omega) | fail)) only [go_sem, Nat.reduceBEq, Nat.reduceAdd, Nat.reduceMul, Nat.reduceLeDiff, ↓reduceIte, rd_new_lt, own_new_lt, mp_new_lt, rd_newm_lt, own_newm_lt, mp_newm_lt, rd_wr_ne, own_wr_ne, mp_wr_ne, rd_wrm_ne, own_wrm_ne, mp_wrm_ne, rd_new_eq, own_new_eq, mp_newm_eq, rd_of_own u7, rd_of_own u8]
  refine Both.of_true (by rw [beq_iff_eq, decide_eq_decide]; exact cn) ?_
  simp (disch := (first | omega | (simp only [size_new, size_newm, size_wr, size_wrm] <;> omega) | fail)) only [go_sem, Nat.reduceBEq, Nat.reduceAdd, Nat.reduceMul, Nat.reduceLeDiff, ↓reduceIte, rd_new_lt, own_new_lt, mp_new_lt, rd_newm_lt, own_newm_lt, mp_newm_lt, rd_wr_ne, own_wr_ne, mp_wr_ne, rd_wrm_ne, own_wrm_ne, mp_wrm_ne, rd_new_eq, own_new_eq, mp_newm_eq, rd_of_own u7, rd_of_own u8, sum_eqVs, Option.map_some]
  refine Both.of_true (by rw [beq_iff_eq]; by_cases h1 : m = 0 <;> by_cases h2 : p.1 = q.1 <;> by_cases h3 : (p.2 : Int) = q.2 <;> simp [h1, h2, h3] at cz ⊢ <;> omega) ?_
  simp (disch := (first | omega | (simp only [size_new, size_newm, size_wr, size_wrm] <;> omega) | fail)) only [go_sem, Nat.reduceBEq, Nat.reduceAdd, Nat.reduceMul, Nat.reduceLeDiff, ↓reduceIte, rd_new_lt, own_new_lt, mp_new_lt, rd_newm_lt, own_newm_lt, mp_newm_lt, rd_wr_ne, own_wr_ne, mp_wr_ne, rd_wrm_ne, own_wrm_ne, mp_wrm_ne, rd_new_eq, own_new_eq, mp_newm_eq]
  refine Both.of_true (by simp; omega) ?_
  simp (disch := (first | omega | (simp only [size_new, size_newm, size_wr, size_wrm] <;> omega) | fail)) only [go_sem, Nat.reduceBEq, Nat.reduceAdd, Nat.reduceMul, Nat.reduceLeDiff, ↓reduceIte, rd_new_lt, own_new_lt, mp_new_lt, rd_newm_lt, own_newm_lt, mp_newm_lt, rd_wr_ne, own_wr_ne, mp_wr_ne, rd_wrm_ne, own_wrm_ne, mp_wrm_ne, rd_new_eq, own_new_eq, mp_newm_eq]
  exact ⟨congrArg Value.bool (by simp; omega), fz⟩

end Go.Proofs.YtkcpoiploighiaaDoor
