/-
  Which graphs are right: the document's way.
-/
import Derived.Test.YtbnaicgmnadkgaaEds
set_option linter.unusedVariables false
set_option linter.unusedSimpArgs false
namespace Go.Proofs.Ytbnaicgmnadkgaa
open Go Go.Vc

def endsE (n : Int) (e : Ed) : Bool := decide (0 ≤ e.f) && decide (e.f < n) && (decide (0 ≤ e.t) && decide (e.t < n))
def rightG (n : Int) (es : List Ed) : Bool := es.all (endsE n) && (decide (0 ≤ n) && (decide (n ≤ 4096) && decide (es.length ≤ 65536)))
theorem rightG_iff (n : Int) (es : List Ed) : rightG n es = true ↔ RightG n es := by
  simp only [rightG, endsE, Bool.and_eq_true, decide_eq_true_eq, List.all_eq_true]
  exact ⟨fun ⟨h1, h2, h3, h4⟩ => ⟨h2, h3, h4, fun e he => ⟨(h1 e he).1.1, (h1 e he).1.2, (h1 e he).2.1, (h1 e he).2.2⟩⟩, fun h => ⟨fun e he => have k := h.ends e he; ⟨⟨k.1, k.2.1⟩, k.2.2⟩, h.n0, h.n1, h.len⟩⟩
def grV (n : Int) (s : Value) : Value := .agg [i64 n, s].toArray

set_option maxHeartbeats 2000000 in
theorem ref21_Right_spec {H : Hp} {n : Int} {a : Option Addr} {c : Nat} {es : List Ed} (h : RdS H 3 (.slice a es.length c) es.length (flatE es)) (hm : es.length ≤ 1000000000) :
    CallH Try.prog n_ref21_Right [grV n (.slice a es.length c)] H fun v H' => Post (v = .bool (rightG n es) ∧ Fresh H H') := by
  refine c_ref21_Right ⟨rfl, ?_⟩
  have f0 : Fresh H (H.new 24 [i64 n, .slice a es.length c]) := (Ext.refl _ _).new _ _
  have b0 := own_new H 24 [i64 n, .slice a es.length c]
  simp (disch := (first | omega | (simp only [size_new, size_newm, size_wr, size_wrm] <;> omega) | fail)) only [go_sem, Nat.reduceBEq, Nat.reduceAdd, Nat.reduceMul, Nat.reduceLeDiff, ↓reduceIte, rd_new_lt, own_new_lt, mp_new_lt, rd_newm_lt, own_newm_lt, mp_newm_lt, rd_wr_ne, own_wr_ne, mp_wr_ne, rd_wrm_ne, own_wrm_ne, mp_wrm_ne, rd_new_eq, own_new_eq, mp_newm_eq, s_ref21_Right, grV]
  generalize H.new 24 [i64 n, .slice a es.length c] = H0 at *
  have h0 := h.fresh f0
  refine LoopV.intro (fun m env H' => Fresh H0 H' ∧ ∃ j : Nat, m = es.length - j ∧ j ≤ es.length ∧ (∀ e ∈ es.take j, endsE n e = true) ∧ env = [(1, ptr H.size), (6, .slice a es.length c), (7, i64 es.length), (8, i64 j)]) es.length ⟨Ext.refl _ _, 0, by omega, by omega, by simp, rfl⟩ ?_
  rintro m env H1 ⟨f1, j, hmj, hj, hall, rfl⟩
  have h1 := h0.fresh f1
  have b1 := f1.own b0 (fun h => h)
  simp (disch := (first | omega | (simp only [size_new, size_newm, size_wr, size_wrm] <;> omega) | fail)) only [go_sem, Nat.reduceBEq, Nat.reduceAdd, Nat.reduceMul, Nat.reduceLeDiff, ↓reduceIte, rd_new_lt, own_new_lt, mp_new_lt, rd_newm_lt, own_newm_lt, mp_newm_lt, rd_wr_ne, own_wr_ne, mp_wr_ne, rd_wrm_ne, own_wrm_ne, mp_wrm_ne, rd_new_eq, own_new_eq, mp_newm_eq]
  refine Both.dec (fun hlt => ?_) (fun hlt => ?_) <;> simp (disch := (first | omega | (simp only [size_new, size_newm, size_wr, size_wrm] <;> omega) | fail)) only [go_sem, Nat.reduceBEq, Nat.reduceAdd, Nat.reduceMul, Nat.reduceLeDiff, ↓reduceIte, rd_new_lt, own_new_lt, mp_new_lt, rd_newm_lt, own_newm_lt, mp_newm_lt, rd_wr_ne, own_wr_ne, mp_wr_ne, rd_wrm_ne, own_wrm_ne, mp_wrm_ne, rd_new_eq, own_new_eq, mp_newm_eq]
  · have hj2 : j < es.length := by omega
    obtain ⟨e, he⟩ : ∃ e, es[j]? = some e := ⟨_, List.getElem?_eq_getElem hj2⟩
    obtain ⟨_, b, o, lb, rfl, hrd, hle, hcells⟩ := RdS.edge h1 he
    refine ⟨⟨by omega, by omega⟩, ?_⟩
    have hmem := List.mem_of_getElem? he
    simp (disch := (first | omega | (simp only [size_new, size_newm, size_wr, size_wrm] <;> omega) | fail)) only [go_sem, Nat.reduceBEq, Nat.reduceAdd, Nat.reduceMul, Nat.reduceLeDiff, ↓reduceIte, rd_new_lt, own_new_lt, mp_new_lt, rd_newm_lt, own_newm_lt, mp_newm_lt, rd_wr_ne, own_wr_ne, mp_wr_ne, rd_wrm_ne, own_wrm_ne, mp_wrm_ne, rd_new_eq, own_new_eq, mp_newm_eq, hrd, Int.toNat_natCast, hcells, cellsE]
    refine ⟨by omega, ?_⟩
    have q2 := own_new H1 35 [i64 0, i64 0, i64 0]
    simp (disch := (first | omega | (simp only [size_new, size_newm, size_wr, size_wrm] <;> omega) | fail)) only [go_sem, Nat.reduceBEq, Nat.reduceAdd, Nat.reduceMul, Nat.reduceLeDiff, ↓reduceIte, rd_new_lt, own_new_lt, mp_new_lt, rd_newm_lt, own_newm_lt, mp_newm_lt, rd_wr_ne, own_wr_ne, mp_wr_ne, rd_wrm_ne, own_wrm_ne, mp_wrm_ne, rd_new_eq, own_new_eq, mp_newm_eq, hcells, cellsE, q2]
    have q3 := own_wr_same (l := [i64 e.f, i64 e.t, i64 e.w]) q2
    have f3 : Fresh H1 ((H1.new 35 [i64 0, i64 0, i64 0]).wr H1.size [i64 e.f, i64 e.t, i64 e.w]) := ((Ext.refl _ _).new _ _ : Fresh H1 _).then ((Ext.refl (fun z => z = H1.size) _).wr (fun _ => rfl) _) (fun z hz => by omega)
    have b3 := f3.own b1 (fun h => h)
    have no : endsE n e = false → rightG n es = false := fun hf => by
      unfold rightG
      rw [Bool.and_eq_false_iff]
      exact .inl (List.all_eq_false.2 ⟨e, hmem, by rw [hf]; simp⟩)
    generalize (H1.new 35 [i64 0, i64 0, i64 0]).wr H1.size [i64 e.f, i64 e.t, i64 e.w] = H3 at *
    have fz := f0.trans (f1.trans f3)
    simp (disch := (first | omega | (simp only [size_new, size_newm, size_wr, size_wrm] <;> omega) | fail)) only [go_sem, Nat.reduceBEq, Nat.reduceAdd, Nat.reduceMul, Nat.reduceLeDiff, ↓reduceIte, rd_new_lt, own_new_lt, mp_new_lt, rd_newm_lt, own_newm_lt, mp_newm_lt, rd_wr_ne, own_wr_ne, mp_wr_ne, rd_wrm_ne, own_wrm_ne, mp_wrm_ne, rd_new_eq, own_new_eq, mp_newm_eq, rd_of_own q3, rd_of_own b3]
    refine Both.dec (fun g1 => ?_) (fun g1 => ?_) <;> simp (disch := (first | omega | (simp only [size_new, size_newm, size_wr, size_wrm] <;> omega) | fail)) only [go_sem, Nat.reduceBEq, Nat.reduceAdd, Nat.reduceMul, Nat.reduceLeDiff, ↓reduceIte, rd_new_lt, own_new_lt, mp_new_lt, rd_newm_lt, own_newm_lt, mp_newm_lt, rd_wr_ne, own_wr_ne, mp_wr_ne, rd_wrm_ne, own_wrm_ne, mp_wrm_ne, rd_new_eq, own_new_eq, mp_newm_eq, rd_of_own q3, rd_of_own b3]
    · exact ⟨congrArg Value.bool (no (by simp [endsE]; omega)).symm, fz⟩
    refine Both.dec (fun g2 => ?_) (fun g2 => ?_) <;> simp (disch := (first | omega | (simp only [size_new, size_newm, size_wr, size_wrm] <;> omega) | fail)) only [go_sem, Nat.reduceBEq, Nat.reduceAdd, Nat.reduceMul, Nat.reduceLeDiff, ↓reduceIte, rd_new_lt, own_new_lt, mp_new_lt, rd_newm_lt, own_newm_lt, mp_newm_lt, rd_wr_ne, own_wr_ne, mp_wr_ne, rd_wrm_ne, own_wrm_ne, mp_wrm_ne, rd_new_eq, own_new_eq, mp_newm_eq, rd_of_own q3, rd_of_own b3]
    · exact ⟨congrArg Value.bool (no (by simp [endsE]; omega)).symm, fz⟩
    refine Both.dec (fun g3 => ?_) (fun g3 => ?_) <;> simp (disch := (first | omega | (simp only [size_new, size_newm, size_wr, size_wrm] <;> omega) | fail)) only [go_sem, Nat.reduceBEq, Nat.reduceAdd, Nat.reduceMul, Nat.reduceLeDiff, ↓reduceIte, rd_new_lt, own_new_lt, mp_new_lt, rd_newm_lt, own_newm_lt, mp_newm_lt, rd_wr_ne, own_wr_ne, mp_wr_ne, rd_wrm_ne, own_wrm_ne, mp_wrm_ne, rd_new_eq, own_new_eq, mp_newm_eq, rd_of_own q3, rd_of_own b3]
    · exact ⟨congrArg Value.bool (no (by simp [endsE]; omega)).symm, fz⟩
    refine Both.dec (fun g4 => ?_) (fun g4 => ?_) <;> simp (disch := (first | omega | (simp only [size_new, size_newm, size_wr, size_wrm] <;> omega) | fail)) only [go_sem, Nat.reduceBEq, Nat.reduceAdd, Nat.reduceMul, Nat.reduceLeDiff, ↓reduceIte, rd_new_lt, own_new_lt, mp_new_lt, rd_newm_lt, own_newm_lt, mp_newm_lt, rd_wr_ne, own_wr_ne, mp_wr_ne, rd_wrm_ne, own_wrm_ne, mp_wrm_ne, rd_new_eq, own_new_eq, mp_newm_eq, rd_of_own q3, rd_of_own b3]
    · exact ⟨congrArg Value.bool (no (by simp [endsE]; omega)).symm, fz⟩
    rw [wrap64 (n := (j : Int) + 1) (by omega) (by omega)]
    refine ⟨es.length - (j + 1), by omega, f1.trans f3, j + 1, rfl, by omega, ?_, rfl⟩
    intro e' he'
    rw [List.take_add_one, he] at he'
    rcases List.mem_append.1 he' with he' | he'
    · exact hall e' he'
    · rw [List.mem_singleton.1 he']; simp [endsE]; omega
  · have hj2 : j = es.length := by omega
    subst hj2
    rw [List.take_length] at hall
    have hr : rightG n es = (decide (0 ≤ n) && (decide (n ≤ 4096) && decide (es.length ≤ 65536))) := by
      unfold rightG
      rw [List.all_eq_true.2 hall, Bool.true_and]
    rw [hr]
    simp (disch := (first | omega | (simp only [size_new, size_newm, size_wr, size_wrm] <;> omega) | fail)) only [go_sem, Nat.reduceBEq, Nat.reduceAdd, Nat.reduceMul, Nat.reduceLeDiff, ↓reduceIte, rd_new_lt, own_new_lt, mp_new_lt, rd_newm_lt, own_newm_lt, mp_newm_lt, rd_wr_ne, own_wr_ne, mp_wr_ne, rd_wrm_ne, own_wrm_ne, mp_wrm_ne, rd_new_eq, own_new_eq, mp_newm_eq, rd_of_own b1]
    refine Both.dec (fun g1 => ?_) (fun g1 => ?_) <;> simp (disch := (first | omega | (simp only [size_new, size_newm, size_wr, size_wrm] <;> omega) | fail)) only [go_sem, Nat.reduceBEq, Nat.reduceAdd, Nat.reduceMul, Nat.reduceLeDiff, ↓reduceIte, rd_new_lt, own_new_lt, mp_new_lt, rd_newm_lt, own_newm_lt, mp_newm_lt, rd_wr_ne, own_wr_ne, mp_wr_ne, rd_wrm_ne, own_wrm_ne, mp_wrm_ne, rd_new_eq, own_new_eq, mp_newm_eq, rd_of_own b1]
    · refine Both.dec (fun g2 => ?_) (fun g2 => ?_) <;> simp (disch := (first | omega | (simp only [size_new, size_newm, size_wr, size_wrm] <;> omega) | fail)) only [go_sem, Nat.reduceBEq, Nat.reduceAdd, Nat.reduceMul, Nat.reduceLeDiff, ↓reduceIte, rd_new_lt, own_new_lt, mp_new_lt, rd_newm_lt, own_newm_lt, mp_newm_lt, rd_wr_ne, own_wr_ne, mp_wr_ne, rd_wrm_ne, own_wrm_ne, mp_wrm_ne, rd_new_eq, own_new_eq, mp_newm_eq, rd_of_own b1]
      · exact ⟨by rw [decide_eq_true (show 0 ≤ n by omega), decide_eq_true (show n ≤ 4096 by omega), Bool.true_and, Bool.true_and]; exact congrArg Value.bool (by rw [decide_eq_decide]; omega), f0.trans f1⟩
      · exact ⟨by rw [decide_eq_false (show ¬ n ≤ 4096 by omega), Bool.false_and, Bool.and_false]; rfl, f0.trans f1⟩
    · exact ⟨by rw [decide_eq_false (show ¬ 0 ≤ n by omega), Bool.false_and]; rfl, f0.trans f1⟩

end Go.Proofs.Ytbnaicgmnadkgaa
