/-
  Which graphs are right: the program's way.
-/
import Derived.Test.YtbnaicgmnadkgaaGraphC
import Derived.Test.YtbnaicgmnadkgaaClo
import Derived.KernelRfl
set_option linter.unusedVariables false
set_option linter.unusedSimpArgs false
namespace Go.Proofs.Ytbnaicgmnadkgaa
open Go Go.Vc

theorem graph_vertex_spec (H : Hp) (n x : Int) (s : Value) (hs : ∃ a k c, s = .slice a k c) : CallH Try.prog n_graph_vertex [grV n s, i64 x] H fun v H' => Post (v = .bool (decide (0 ≤ x) && decide (x < n)) ∧ Fresh H H') := by
  obtain ⟨a, k, c, rfl⟩ := hs
  refine c_graph_vertex ⟨rfl, ?_⟩
  have f0 : Fresh H (H.new 24 [i64 n, .slice a k c]) := (Ext.refl _ _).new _ _
  have b0 := own_new H 24 [i64 n, .slice a k c]
  simp (disch := (first | omega | (simp only [size_new, size_newm, size_wr, size_wrm] <;> omega) | fail)) only [go_sem, Nat.reduceBEq, Nat.reduceAdd, Nat.reduceMul, Nat.reduceLeDiff, ↓reduceIte, rd_new_lt, own_new_lt, mp_new_lt, rd_newm_lt, own_newm_lt, mp_newm_lt, rd_wr_ne, own_wr_ne, mp_wr_ne, rd_wrm_ne, own_wrm_ne, mp_wrm_ne, rd_new_eq, own_new_eq, mp_newm_eq, s_graph_vertex, grV]
  refine Both.dec (fun g => ?_) (fun g => ?_) <;> simp (disch := (first | omega | (simp only [size_new, size_newm, size_wr, size_wrm] <;> omega) | fail)) only [go_sem, Nat.reduceBEq, Nat.reduceAdd, Nat.reduceMul, Nat.reduceLeDiff, ↓reduceIte, rd_new_lt, own_new_lt, mp_new_lt, rd_newm_lt, own_newm_lt, mp_newm_lt, rd_wr_ne, own_wr_ne, mp_wr_ne, rd_wrm_ne, own_wrm_ne, mp_wrm_ne, rd_new_eq, own_new_eq, mp_newm_eq, rd_of_own b0]
  · exact ⟨by rw [decide_eq_true (show 0 ≤ x by omega), Bool.true_and]; rfl, f0⟩
  · exact ⟨by rw [decide_eq_false (show ¬ 0 ≤ x by omega), Bool.false_and]; rfl, f0⟩

theorem graph_Check_1_spec {H : Hp} {n : Int} {s : Value} {g : Nat} (e : Ed) (hg : H.own g = some [i64 n, s]) (hs : ∃ a k c, s = .slice a k c) : CallH Try.prog n_graph_Check_1 [.agg (cellsE e).toArray, ptr g] H fun v H' => Post (v = .bool (!endsE n e) ∧ Fresh H H') := by
  obtain ⟨a, k, c, rfl⟩ := hs
  refine callH_ofC mixed d_graph_Check_1 (nt := 16) (by kernel_rfl) (by simp) ?_
  have f0 : Fresh H (H.new 35 [i64 e.f, i64 e.t, i64 e.w]) := (Ext.refl _ _).new _ _
  have b0 := own_new H 35 [i64 e.f, i64 e.t, i64 e.w]
  have g0 := f0.own hg (fun h => h)
  simp (disch := (first | omega | (simp only [size_new, size_newm, size_wr, size_wrm] <;> omega) | fail)) only [go_sem, Nat.reduceBEq, Nat.reduceAdd, Nat.reduceMul, Nat.reduceLeDiff, ↓reduceIte, rd_new_lt, own_new_lt, mp_new_lt, rd_newm_lt, own_newm_lt, mp_newm_lt, rd_wr_ne, own_wr_ne, mp_wr_ne, rd_wrm_ne, own_wrm_ne, mp_wrm_ne, rd_new_eq, own_new_eq, mp_newm_eq, s_graph_Check_1, cellsE, rd_of_own b0, rd_of_own g0]
  generalize H.new 35 [i64 e.f, i64 e.t, i64 e.w] = H0 at *
  refine (graph_vertex_spec H0 n e.f _ ⟨a, k, c, rfl⟩).mono ?_
  rintro _ H1 ⟨rfl, f1⟩
  have g1 := f1.own g0 (fun h => h)
  have b1 := f1.own b0 (fun h => h)
  simp (disch := (first | omega | (simp only [size_new, size_newm, size_wr, size_wrm] <;> omega) | fail)) only [go_sem, Nat.reduceBEq, Nat.reduceAdd, Nat.reduceMul, Nat.reduceLeDiff, ↓reduceIte, rd_new_lt, own_new_lt, mp_new_lt, rd_newm_lt, own_newm_lt, mp_newm_lt, rd_wr_ne, own_wr_ne, mp_wr_ne, rd_wrm_ne, own_wrm_ne, mp_wrm_ne, rd_new_eq, own_new_eq, mp_newm_eq, rd_of_own g1, rd_of_own b1]
  unfold endsE
  cases hx : (decide (0 ≤ e.f) && decide (e.f < n))
  · simp (disch := (first | omega | (simp only [size_new, size_newm, size_wr, size_wrm] <;> omega) | fail)) only [go_sem, Nat.reduceBEq, Nat.reduceAdd, Nat.reduceMul, Nat.reduceLeDiff, ↓reduceIte, rd_new_lt, own_new_lt, mp_new_lt, rd_newm_lt, own_newm_lt, mp_newm_lt, rd_wr_ne, own_wr_ne, mp_wr_ne, rd_wrm_ne, own_wrm_ne, mp_wrm_ne, rd_new_eq, own_new_eq, mp_newm_eq, Bool.not_false]
    exact ⟨rfl, f0.trans f1⟩
  · simp (disch := (first | omega | (simp only [size_new, size_newm, size_wr, size_wrm] <;> omega) | fail)) only [go_sem, Nat.reduceBEq, Nat.reduceAdd, Nat.reduceMul, Nat.reduceLeDiff, ↓reduceIte, rd_new_lt, own_new_lt, mp_new_lt, rd_newm_lt, own_newm_lt, mp_newm_lt, rd_wr_ne, own_wr_ne, mp_wr_ne, rd_wrm_ne, own_wrm_ne, mp_wrm_ne, rd_new_eq, own_new_eq, mp_newm_eq, Bool.not_true, rd_of_own g1, rd_of_own b1]
    refine (graph_vertex_spec H1 n e.t _ ⟨a, k, c, rfl⟩).mono ?_
    rintro _ H2 ⟨rfl, f2⟩
    simp (disch := (first | omega | (simp only [size_new, size_newm, size_wr, size_wrm] <;> omega) | fail)) only [go_sem, Nat.reduceBEq, Nat.reduceAdd, Nat.reduceMul, Nat.reduceLeDiff, ↓reduceIte, rd_new_lt, own_new_lt, mp_new_lt, rd_newm_lt, own_newm_lt, mp_newm_lt, rd_wr_ne, own_wr_ne, mp_wr_ne, rd_wrm_ne, own_wrm_ne, mp_wrm_ne, rd_new_eq, own_new_eq, mp_newm_eq]
    exact ⟨by rw [Bool.true_and]; rfl, f0.trans (f1.trans f2)⟩

set_option maxHeartbeats 1000000 in
theorem slices_IndexFunc_spec {H : Hp} {n : Int} {s : Value} {g : Nat} {a : Option Addr} {c : Nat} {es : List Ed} (h : RdS H 3 (.slice a es.length c) es.length (flatE es)) (hm : es.length ≤ 1000000000) (hg : H.own g = some [i64 n, s]) (hs : ∃ a k c, s = .slice a k c) :
    CallH Try.prog n_slices_IndexFunc_api_Edge_api_Edge [.slice a es.length c, .func (.func n_graph_Check_1) #[] #[ptr g]] H fun v H' => Post (∃ i : Int, v = i64 i ∧ (0 ≤ i ↔ es.all (endsE n) = false) ∧ Fresh H H') := by
  refine c_slices_IndexFunc_api_Edge_api_Edge ⟨rfl, ?_⟩
  simp (disch := (first | omega | (simp only [size_new, size_newm, size_wr, size_wrm] <;> omega) | fail)) only [go_sem, Nat.reduceBEq, Nat.reduceAdd, Nat.reduceMul, Nat.reduceLeDiff, ↓reduceIte, rd_new_lt, own_new_lt, mp_new_lt, rd_newm_lt, own_newm_lt, mp_newm_lt, rd_wr_ne, own_wr_ne, mp_wr_ne, rd_wrm_ne, own_wrm_ne, mp_wrm_ne, rd_new_eq, own_new_eq, mp_newm_eq, s_slices_IndexFunc_api_Edge_api_Edge]
  refine LoopV.intro (fun m env H' => Fresh H H' ∧ ∃ j : Nat, m = es.length - j ∧ j ≤ es.length ∧ (∀ e ∈ es.take j, endsE n e = true) ∧ env = [(0, .slice a es.length c), (1, .func (.func n_graph_Check_1) #[] #[ptr g]), (7, i64 es.length), (8, i64 j)]) es.length ⟨Ext.refl _ _, 0, by omega, by omega, by simp, rfl⟩ ?_
  rintro m env H1 ⟨f1, j, hmj, hj, hall, rfl⟩
  have h1 := h.fresh f1
  have g1 := f1.own hg (fun h => h)
  simp (disch := (first | omega | (simp only [size_new, size_newm, size_wr, size_wrm] <;> omega) | fail)) only [go_sem, Nat.reduceBEq, Nat.reduceAdd, Nat.reduceMul, Nat.reduceLeDiff, ↓reduceIte, rd_new_lt, own_new_lt, mp_new_lt, rd_newm_lt, own_newm_lt, mp_newm_lt, rd_wr_ne, own_wr_ne, mp_wr_ne, rd_wrm_ne, own_wrm_ne, mp_wrm_ne, rd_new_eq, own_new_eq, mp_newm_eq]
  refine Both.dec (fun hlt => ?_) (fun hlt => ?_) <;> simp (disch := (first | omega | (simp only [size_new, size_newm, size_wr, size_wrm] <;> omega) | fail)) only [go_sem, Nat.reduceBEq, Nat.reduceAdd, Nat.reduceMul, Nat.reduceLeDiff, ↓reduceIte, rd_new_lt, own_new_lt, mp_new_lt, rd_newm_lt, own_newm_lt, mp_newm_lt, rd_wr_ne, own_wr_ne, mp_wr_ne, rd_wrm_ne, own_wrm_ne, mp_wrm_ne, rd_new_eq, own_new_eq, mp_newm_eq]
  · have hj2 : j < es.length := by omega
    obtain ⟨e, he⟩ : ∃ e, es[j]? = some e := ⟨_, List.getElem?_eq_getElem hj2⟩
    obtain ⟨_, b, o, lb, rfl, hrd, hle, hcells⟩ := RdS.edge h1 he
    refine ⟨⟨by omega, by omega⟩, ?_⟩
    have hmem := List.mem_of_getElem? he
    simp (disch := (first | omega | (simp only [size_new, size_newm, size_wr, size_wrm] <;> omega) | fail)) only [go_sem, Nat.reduceBEq, Nat.reduceAdd, Nat.reduceMul, Nat.reduceLeDiff, ↓reduceIte, rd_new_lt, own_new_lt, mp_new_lt, rd_newm_lt, own_newm_lt, mp_newm_lt, rd_wr_ne, own_wr_ne, mp_wr_ne, rd_wrm_ne, own_wrm_ne, mp_wrm_ne, rd_new_eq, own_new_eq, mp_newm_eq, hrd, Int.toNat_natCast, hcells]
    refine ⟨by omega, ?_⟩
    simp (disch := (first | omega | (simp only [size_new, size_newm, size_wr, size_wrm] <;> omega) | fail)) only [go_sem, Nat.reduceBEq, Nat.reduceAdd, Nat.reduceMul, Nat.reduceLeDiff, ↓reduceIte, rd_new_lt, own_new_lt, mp_new_lt, rd_newm_lt, own_newm_lt, mp_newm_lt, rd_wr_ne, own_wr_ne, mp_wr_ne, rd_wrm_ne, own_wrm_ne, mp_wrm_ne, rd_new_eq, own_new_eq, mp_newm_eq, hcells]
    refine ⟨by kernel_rfl, ?_⟩
    refine (graph_Check_1_spec e g1 hs).mono ?_
    rintro _ H2 ⟨rfl, f2⟩
    simp (disch := (first | omega | (simp only [size_new, size_newm, size_wr, size_wrm] <;> omega) | fail)) only [go_sem, Nat.reduceBEq, Nat.reduceAdd, Nat.reduceMul, Nat.reduceLeDiff, ↓reduceIte, rd_new_lt, own_new_lt, mp_new_lt, rd_newm_lt, own_newm_lt, mp_newm_lt, rd_wr_ne, own_wr_ne, mp_wr_ne, rd_wrm_ne, own_wrm_ne, mp_wrm_ne, rd_new_eq, own_new_eq, mp_newm_eq]
    cases hx : endsE n e
    · simp (disch := (first | omega | (simp only [size_new, size_newm, size_wr, size_wrm] <;> omega) | fail)) only [go_sem, Nat.reduceBEq, Nat.reduceAdd, Nat.reduceMul, Nat.reduceLeDiff, ↓reduceIte, rd_new_lt, own_new_lt, mp_new_lt, rd_newm_lt, own_newm_lt, mp_newm_lt, rd_wr_ne, own_wr_ne, mp_wr_ne, rd_wrm_ne, own_wrm_ne, mp_wrm_ne, rd_new_eq, own_new_eq, mp_newm_eq, Bool.not_false]
      refine ⟨j, rfl, ⟨fun _ => List.all_eq_false.2 ⟨e, hmem, by rw [hx]; simp⟩, fun _ => by omega⟩, f1.trans f2⟩
    · simp (disch := (first | omega | (simp only [size_new, size_newm, size_wr, size_wrm] <;> omega) | fail)) only [go_sem, Nat.reduceBEq, Nat.reduceAdd, Nat.reduceMul, Nat.reduceLeDiff, ↓reduceIte, rd_new_lt, own_new_lt, mp_new_lt, rd_newm_lt, own_newm_lt, mp_newm_lt, rd_wr_ne, own_wr_ne, mp_wr_ne, rd_wrm_ne, own_wrm_ne, mp_wrm_ne, rd_new_eq, own_new_eq, mp_newm_eq, Bool.not_true]
      rw [wrap64 (n := (j : Int) + 1) (by omega) (by omega)]
      refine ⟨es.length - (j + 1), by omega, f1.trans f2, j + 1, rfl, by omega, ?_, rfl⟩
      intro e' he'
      rw [List.take_add_one, he] at he'
      rcases List.mem_append.1 he' with he' | he'
      · exact hall e' he'
      · rw [List.mem_singleton.1 he']; exact hx
  · refine ⟨-1, rfl, ?_, f1⟩
    have hj2 : j = es.length := by omega
    subst hj2
    rw [List.take_length] at hall
    rw [List.all_eq_true.2 hall]
    simp

theorem slices_ContainsFunc_spec {H : Hp} {n : Int} {s : Value} {g : Nat} {a : Option Addr} {c : Nat} {es : List Ed} (h : RdS H 3 (.slice a es.length c) es.length (flatE es)) (hm : es.length ≤ 1000000000) (hg : H.own g = some [i64 n, s]) (hs : ∃ a k c, s = .slice a k c) :
    CallH Try.prog n_slices_ContainsFunc_api_Edge_api_Edge [.slice a es.length c, .func (.func n_graph_Check_1) #[] #[ptr g]] H fun v H' => Post (v = .bool (!es.all (endsE n)) ∧ Fresh H H') := by
  refine c_slices_ContainsFunc_api_Edge_api_Edge ⟨rfl, ?_⟩
  simp (disch := (first | omega | (simp only [size_new, size_newm, size_wr, size_wrm] <;> omega) | fail)) only [go_sem, Nat.reduceBEq, Nat.reduceAdd, Nat.reduceMul, Nat.reduceLeDiff, ↓reduceIte, rd_new_lt, own_new_lt, mp_new_lt, rd_newm_lt, own_newm_lt, mp_newm_lt, rd_wr_ne, own_wr_ne, mp_wr_ne, rd_wrm_ne, own_wrm_ne, mp_wrm_ne, rd_new_eq, own_new_eq, mp_newm_eq, s_slices_ContainsFunc_api_Edge_api_Edge]
  refine (slices_IndexFunc_spec h hm hg hs).mono ?_
  rintro _ H1 ⟨i, rfl, hi, f1⟩
  simp (disch := (first | omega | (simp only [size_new, size_newm, size_wr, size_wrm] <;> omega) | fail)) only [go_sem, Nat.reduceBEq, Nat.reduceAdd, Nat.reduceMul, Nat.reduceLeDiff, ↓reduceIte, rd_new_lt, own_new_lt, mp_new_lt, rd_newm_lt, own_newm_lt, mp_newm_lt, rd_wr_ne, own_wr_ne, mp_wr_ne, rd_wrm_ne, own_wrm_ne, mp_wrm_ne, rd_new_eq, own_new_eq, mp_newm_eq]
  refine ⟨congrArg Value.bool ?_, f1⟩
  cases hx : es.all (endsE n)
  · rw [hx] at hi
    exact decide_eq_true (hi.2 rfl)
  · rw [hx] at hi
    exact decide_eq_false (fun h => by cases hi.1 h)

theorem graph_Check_spec {H : Hp} {n : Int} {a : Option Addr} {c : Nat} {es : List Ed} (h : RdS H 3 (.slice a es.length c) es.length (flatE es)) (hm : es.length ≤ 1000000000) :
    CallH Try.prog n_graph_Check [grV n (.slice a es.length c)] H fun v H' => Post (v = i64 (if rightG n es = true then 0 else 201) ∧ Fresh H H') := by
  refine c_graph_Check ⟨rfl, ?_⟩
  have f0 : Fresh H (H.new 24 [i64 n, .slice a es.length c]) := (Ext.refl _ _).new _ _
  have b0 := own_new H 24 [i64 n, .slice a es.length c]
  simp (disch := (first | omega | (simp only [size_new, size_newm, size_wr, size_wrm] <;> omega) | fail)) only [go_sem, Nat.reduceBEq, Nat.reduceAdd, Nat.reduceMul, Nat.reduceLeDiff, ↓reduceIte, rd_new_lt, own_new_lt, mp_new_lt, rd_newm_lt, own_newm_lt, mp_newm_lt, rd_wr_ne, own_wr_ne, mp_wr_ne, rd_wrm_ne, own_wrm_ne, mp_wrm_ne, rd_new_eq, own_new_eq, mp_newm_eq, s_graph_Check, grV]
  generalize H.new 24 [i64 n, .slice a es.length c] = H0 at *
  have h0 := h.fresh f0
  have no : ¬ (0 ≤ n ∧ n ≤ 4096 ∧ es.length ≤ 65536) → ¬ rightG n es = true := fun hn hr => hn ⟨((rightG_iff n es).1 hr).n0, ((rightG_iff n es).1 hr).n1, ((rightG_iff n es).1 hr).len⟩
  refine Both.dec (fun g1 => ?_) (fun g1 => ?_) <;> simp (disch := (first | omega | (simp only [size_new, size_newm, size_wr, size_wrm] <;> omega) | fail)) only [go_sem, Nat.reduceBEq, Nat.reduceAdd, Nat.reduceMul, Nat.reduceLeDiff, ↓reduceIte, rd_new_lt, own_new_lt, mp_new_lt, rd_newm_lt, own_newm_lt, mp_newm_lt, rd_wr_ne, own_wr_ne, mp_wr_ne, rd_wrm_ne, own_wrm_ne, mp_wrm_ne, rd_new_eq, own_new_eq, mp_newm_eq, rd_of_own b0]
  · exact ⟨by rw [if_neg (no (by omega))]; rfl, f0⟩
  refine Both.dec (fun g2 => ?_) (fun g2 => ?_) <;> simp (disch := (first | omega | (simp only [size_new, size_newm, size_wr, size_wrm] <;> omega) | fail)) only [go_sem, Nat.reduceBEq, Nat.reduceAdd, Nat.reduceMul, Nat.reduceLeDiff, ↓reduceIte, rd_new_lt, own_new_lt, mp_new_lt, rd_newm_lt, own_newm_lt, mp_newm_lt, rd_wr_ne, own_wr_ne, mp_wr_ne, rd_wrm_ne, own_wrm_ne, mp_wrm_ne, rd_new_eq, own_new_eq, mp_newm_eq, rd_of_own b0]
  · exact ⟨by rw [if_neg (no (by omega))]; rfl, f0⟩
  refine Both.dec (fun g3 => ?_) (fun g3 => ?_) <;> simp (disch := (first | omega | (simp only [size_new, size_newm, size_wr, size_wrm] <;> omega) | fail)) only [go_sem, Nat.reduceBEq, Nat.reduceAdd, Nat.reduceMul, Nat.reduceLeDiff, ↓reduceIte, rd_new_lt, own_new_lt, mp_new_lt, rd_newm_lt, own_newm_lt, mp_newm_lt, rd_wr_ne, own_wr_ne, mp_wr_ne, rd_wrm_ne, own_wrm_ne, mp_wrm_ne, rd_new_eq, own_new_eq, mp_newm_eq, rd_of_own b0]
  · exact ⟨by rw [if_neg (no (by omega))]; rfl, f0⟩
  refine (slices_ContainsFunc_spec h0 hm b0 ⟨a, es.length, c, rfl⟩).mono ?_
  rintro _ H1 ⟨rfl, f1⟩
  simp (disch := (first | omega | (simp only [size_new, size_newm, size_wr, size_wrm] <;> omega) | fail)) only [go_sem, Nat.reduceBEq, Nat.reduceAdd, Nat.reduceMul, Nat.reduceLeDiff, ↓reduceIte, rd_new_lt, own_new_lt, mp_new_lt, rd_newm_lt, own_newm_lt, mp_newm_lt, rd_wr_ne, own_wr_ne, mp_wr_ne, rd_wrm_ne, own_wrm_ne, mp_wrm_ne, rd_new_eq, own_new_eq, mp_newm_eq]
  cases hx : es.all (endsE n)
  · simp (disch := (first | omega | (simp only [size_new, size_newm, size_wr, size_wrm] <;> omega) | fail)) only [go_sem, Nat.reduceBEq, Nat.reduceAdd, Nat.reduceMul, Nat.reduceLeDiff, ↓reduceIte, rd_new_lt, own_new_lt, mp_new_lt, rd_newm_lt, own_newm_lt, mp_newm_lt, rd_wr_ne, own_wr_ne, mp_wr_ne, rd_wrm_ne, own_wrm_ne, mp_wrm_ne, rd_new_eq, own_new_eq, mp_newm_eq, Bool.not_false]
    refine ⟨?_, f0.trans f1⟩
    rw [if_neg (by unfold rightG; rw [hx]; simp)]
    rfl
  · simp (disch := (first | omega | (simp only [size_new, size_newm, size_wr, size_wrm] <;> omega) | fail)) only [go_sem, Nat.reduceBEq, Nat.reduceAdd, Nat.reduceMul, Nat.reduceLeDiff, ↓reduceIte, rd_new_lt, own_new_lt, mp_new_lt, rd_newm_lt, own_newm_lt, mp_newm_lt, rd_wr_ne, own_wr_ne, mp_wr_ne, rd_wrm_ne, own_wrm_ne, mp_wrm_ne, rd_new_eq, own_new_eq, mp_newm_eq, Bool.not_true]
    refine ⟨?_, f0.trans f1⟩
    rw [if_pos (by unfold rightG; rw [hx]; simp; omega)]
    rfl

end Go.Proofs.Ytbnaicgmnadkgaa
