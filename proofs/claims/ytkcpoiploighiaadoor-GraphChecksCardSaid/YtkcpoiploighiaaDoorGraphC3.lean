/-
  Which graphs' ways can be weighed: the document's way.
-/
import Derived.Test.YtkcpoiploighiaaDoorGraphC2
set_option linter.unusedVariables false
set_option linter.unusedSimpArgs false
namespace Go.Proofs.YtkcpoiploighiaaDoor
open Go Go.Vc

def weighE (n : Int) (e : Ed) : Bool := decide (0 ≤ e.w) && decide (e.w ≤ Int.tdiv 9223372036854775807 (max n 1))
def weighG (n : Int) (es : List Ed) : Bool := rightG n es && es.all (weighE n)

set_option maxHeartbeats 2000000 in
theorem ref21_Weighed_spec {H : Hp} {n : Int} {a : Option Addr} {c : Nat} {es : List Ed} (h : RdS H 3 (.slice a es.length c) es.length (flatE es)) (hm : es.length ≤ 1000000000) :
    CallH Tryd.prog n_ref21_Weighed [grV n (.slice a es.length c)] H fun v H' => Post (v = .bool (weighG n es) ∧ Fresh H H') := by
  refine c_ref21_Weighed ⟨rfl, ?_⟩
  have f0 : Fresh H (H.new 35 [i64 n, .slice a es.length c]) := (Ext.refl _ _).new _ _
  have b0 := own_new H 35 [i64 n, .slice a es.length c]
  simp (disch := (first | omega | (simp only [size_new, size_newm, size_wr, size_wrm] <;> omega) | fail)) only [go_sem, Nat.reduceBEq, Nat.reduceAdd, Nat.reduceMul, Nat.reduceLeDiff, ↓reduceIte, rd_new_lt, own_new_lt, mp_new_lt, rd_newm_lt, own_newm_lt, mp_newm_lt, rd_wr_ne, own_wr_ne, mp_wr_ne, rd_wrm_ne, own_wrm_ne, mp_wrm_ne, rd_new_eq, own_new_eq, mp_newm_eq, s_ref21_Weighed, grV]
  generalize H.new 35 [i64 n, .slice a es.length c] = H0 at *
  have h0 := h.fresh f0
  refine (ref21_Right_spec (n := n) h0 hm).mono ?_
  rintro _ Hr ⟨rfl, fr⟩
  simp (disch := (first | omega | (simp only [size_new, size_newm, size_wr, size_wrm] <;> omega) | fail)) only [go_sem, Nat.reduceBEq, Nat.reduceAdd, Nat.reduceMul, Nat.reduceLeDiff, ↓reduceIte, rd_new_lt, own_new_lt, mp_new_lt, rd_newm_lt, own_newm_lt, mp_newm_lt, rd_wr_ne, own_wr_ne, mp_wr_ne, rd_wrm_ne, own_wrm_ne, mp_wrm_ne, rd_new_eq, own_new_eq, mp_newm_eq]
  cases hR : rightG n es
  · simp (disch := (first | omega | (simp only [size_new, size_newm, size_wr, size_wrm] <;> omega) | fail)) only [go_sem, Nat.reduceBEq, Nat.reduceAdd, Nat.reduceMul, Nat.reduceLeDiff, ↓reduceIte, rd_new_lt, own_new_lt, mp_new_lt, rd_newm_lt, own_newm_lt, mp_newm_lt, rd_wr_ne, own_wr_ne, mp_wr_ne, rd_wrm_ne, own_wrm_ne, mp_wrm_ne, rd_new_eq, own_new_eq, mp_newm_eq, Bool.not_false]
    exact ⟨by unfold weighG; rw [hR]; rfl, f0.trans fr⟩
  have hwg : weighG n es = es.all (weighE n) := by unfold weighG; rw [hR, Bool.true_and]
  have hn := ((rightG_iff n es).1 hR).n0
  have hn2 := ((rightG_iff n es).1 hR).n1
  have hr0 := h0.fresh fr
  have br := fr.own b0 (fun h => h)
  simp (disch := (first | omega | (simp only [size_new, size_newm, size_wr, size_wrm] <;> omega) | fail)) only [go_sem, Nat.reduceBEq, Nat.reduceAdd, Nat.reduceMul, Nat.reduceLeDiff, ↓reduceIte, rd_new_lt, own_new_lt, mp_new_lt, rd_newm_lt, own_newm_lt, mp_newm_lt, rd_wr_ne, own_wr_ne, mp_wr_ne, rd_wrm_ne, own_wrm_ne, mp_wrm_ne, rd_new_eq, own_new_eq, mp_newm_eq, Bool.not_true, rd_of_own br]
  refine LoopV.intro (fun m env H' => Fresh Hr H' ∧ ∃ j : Nat, m = es.length - j ∧ j ≤ es.length ∧ (∀ e ∈ es.take j, weighE n e = true) ∧ env = [(1, ptr H.size), (9, .slice a es.length c), (10, i64 es.length), (11, i64 j)]) es.length ⟨Ext.refl _ _, 0, by omega, by omega, by simp, rfl⟩ ?_
  rintro m env H1 ⟨f1, j, hmj, hj, hall, rfl⟩
  have h1 := hr0.fresh f1
  have b1 := f1.own br (fun h => h)
  simp (disch := (first | omega | (simp only [size_new, size_newm, size_wr, size_wrm] <;> omega) | fail)) only [go_sem, Nat.reduceBEq, Nat.reduceAdd, Nat.reduceMul, Nat.reduceLeDiff, ↓reduceIte, rd_new_lt, own_new_lt, mp_new_lt, rd_newm_lt, own_newm_lt, mp_newm_lt, rd_wr_ne, own_wr_ne, mp_wr_ne, rd_wrm_ne, own_wrm_ne, mp_wrm_ne, rd_new_eq, own_new_eq, mp_newm_eq]
  refine Both.dec (fun hlt => ?_) (fun hlt => ?_) <;> simp (disch := (first | omega | (simp only [size_new, size_newm, size_wr, size_wrm] <;> omega) | fail)) only [go_sem, Nat.reduceBEq, Nat.reduceAdd, Nat.reduceMul, Nat.reduceLeDiff, ↓reduceIte, rd_new_lt, own_new_lt, mp_new_lt, rd_newm_lt, own_newm_lt, mp_newm_lt, rd_wr_ne, own_wr_ne, mp_wr_ne, rd_wrm_ne, own_wrm_ne, mp_wrm_ne, rd_new_eq, own_new_eq, mp_newm_eq]
  · have hj2 : j < es.length := by omega
    obtain ⟨e, he⟩ : ∃ e, es[j]? = some e := ⟨_, List.getElem?_eq_getElem hj2⟩
    obtain ⟨_, b, o, lb, rfl, hrd, hle, hcells⟩ := RdS.edge h1 he
    refine ⟨⟨by omega, by omega⟩, ?_⟩
    have hmem := List.mem_of_getElem? he
    simp (disch := (first | omega | (simp only [size_new, size_newm, size_wr, size_wrm] <;> omega) | fail)) only [go_sem, Nat.reduceBEq, Nat.reduceAdd, Nat.reduceMul, Nat.reduceLeDiff, ↓reduceIte, rd_new_lt, own_new_lt, mp_new_lt, rd_newm_lt, own_newm_lt, mp_newm_lt, rd_wr_ne, own_wr_ne, mp_wr_ne, rd_wrm_ne, own_wrm_ne, mp_wrm_ne, rd_new_eq, own_new_eq, mp_newm_eq, hrd, Int.toNat_natCast, hcells, cellsE]
    refine ⟨by omega, ?_⟩
    have q2 := own_new H1 51 [i64 0, i64 0, i64 0]
    simp (disch := (first | omega | (simp only [size_new, size_newm, size_wr, size_wrm] <;> omega) | fail)) only [go_sem, Nat.reduceBEq, Nat.reduceAdd, Nat.reduceMul, Nat.reduceLeDiff, ↓reduceIte, rd_new_lt, own_new_lt, mp_new_lt, rd_newm_lt, own_newm_lt, mp_newm_lt, rd_wr_ne, own_wr_ne, mp_wr_ne, rd_wrm_ne, own_wrm_ne, mp_wrm_ne, rd_new_eq, own_new_eq, mp_newm_eq, hcells, cellsE, q2]
    have q3 := own_wr_same (l := [i64 e.f, i64 e.t, i64 e.w]) q2
    have f3 : Fresh H1 ((H1.new 51 [i64 0, i64 0, i64 0]).wr H1.size [i64 e.f, i64 e.t, i64 e.w]) := ((Ext.refl _ _).new _ _ : Fresh H1 _).then ((Ext.refl (fun z => z = H1.size) _).wr (fun _ => rfl) _) (fun z hz => by omega)
    have b3 := f3.own b1 (fun h => h)
    have no : weighE n e = false → weighG n es = false := fun hf => by
      rw [hwg]
      exact List.all_eq_false.2 ⟨e, hmem, by rw [hf]; simp⟩
    generalize (H1.new 51 [i64 0, i64 0, i64 0]).wr H1.size [i64 e.f, i64 e.t, i64 e.w] = H3 at *
    have fz := f0.trans (fr.trans (f1.trans f3))
    simp (disch := (first | omega | (simp only [size_new, size_newm, size_wr, size_wrm] <;> omega) | fail)) only [go_sem, Nat.reduceBEq, Nat.reduceAdd, Nat.reduceMul, Nat.reduceLeDiff, ↓reduceIte, rd_new_lt, own_new_lt, mp_new_lt, rd_newm_lt, own_newm_lt, mp_newm_lt, rd_wr_ne, own_wr_ne, mp_wr_ne, rd_wrm_ne, own_wrm_ne, mp_wrm_ne, rd_new_eq, own_new_eq, mp_newm_eq, rd_of_own q3, rd_of_own b3]
    refine Both.dec (fun g1 => ?_) (fun g1 => ?_) <;> simp (disch := (first | omega | (simp only [size_new, size_newm, size_wr, size_wrm] <;> omega) | fail)) only [go_sem, Nat.reduceBEq, Nat.reduceAdd, Nat.reduceMul, Nat.reduceLeDiff, ↓reduceIte, rd_new_lt, own_new_lt, mp_new_lt, rd_newm_lt, own_newm_lt, mp_newm_lt, rd_wr_ne, own_wr_ne, mp_wr_ne, rd_wrm_ne, own_wrm_ne, mp_wrm_ne, rd_new_eq, own_new_eq, mp_newm_eq, rd_of_own q3, rd_of_own b3]
    · exact ⟨congrArg Value.bool (no (by unfold weighE; rw [decide_eq_false (by omega), Bool.false_and])).symm, fz⟩
    have emx : (if 1 > n then 1 else n) = max n 1 := by split <;> omega
    have hz : ¬ (max n 1 = 0) := by omega
    have ht : Int.tdiv 9223372036854775807 (max n 1) = 9223372036854775807 / max n 1 := Int.tdiv_eq_ediv_of_nonneg (by omega)
    have ht0 : 0 ≤ Int.tdiv 9223372036854775807 (max n 1) := by rw [ht]; exact Int.ediv_nonneg (by omega) (by omega)
    have ht1 : Int.tdiv 9223372036854775807 (max n 1) ≤ 9223372036854775807 := by rw [ht]; exact Int.ediv_le_self _ (by omega)
    have hwr := wrap64 (n := Int.tdiv 9223372036854775807 (max n 1)) (by omega) ht1
    rw [emx, if_neg hz, hwr]
    simp (disch := (first | omega | (simp only [size_new, size_newm, size_wr, size_wrm] <;> omega) | fail)) only [go_sem, Nat.reduceBEq, Nat.reduceAdd, Nat.reduceMul, Nat.reduceLeDiff, ↓reduceIte, rd_new_lt, own_new_lt, mp_new_lt, rd_newm_lt, own_newm_lt, mp_newm_lt, rd_wr_ne, own_wr_ne, mp_wr_ne, rd_wrm_ne, own_wrm_ne, mp_wrm_ne, rd_new_eq, own_new_eq, mp_newm_eq]
    refine Both.dec (fun g2 => ?_) (fun g2 => ?_) <;> simp (disch := (first | omega | (simp only [size_new, size_newm, size_wr, size_wrm] <;> omega) | fail)) only [go_sem, Nat.reduceBEq, Nat.reduceAdd, Nat.reduceMul, Nat.reduceLeDiff, ↓reduceIte, rd_new_lt, own_new_lt, mp_new_lt, rd_newm_lt, own_newm_lt, mp_newm_lt, rd_wr_ne, own_wr_ne, mp_wr_ne, rd_wrm_ne, own_wrm_ne, mp_wrm_ne, rd_new_eq, own_new_eq, mp_newm_eq]
    · exact ⟨congrArg Value.bool (no (by unfold weighE; rw [decide_eq_false (show ¬ e.w ≤ Int.tdiv 9223372036854775807 (max n 1) by omega), Bool.and_false])).symm, fz⟩
    rw [wrap64 (n := (j : Int) + 1) (by omega) (by omega)]
    refine ⟨es.length - (j + 1), by omega, f1.trans f3, j + 1, rfl, by omega, ?_, rfl⟩
    intro e' he'
    rw [List.take_add_one, he] at he'
    rcases List.mem_append.1 he' with he' | he'
    · exact hall e' he'
    · rw [List.mem_singleton.1 he']
      unfold weighE
      rw [decide_eq_true (show 0 ≤ e.w by omega), decide_eq_true (show e.w ≤ Int.tdiv 9223372036854775807 (max n 1) by omega)]
      rfl
  · have hj2 : j = es.length := by omega
    subst hj2
    rw [List.take_length] at hall
    rw [hwg, List.all_eq_true.2 hall]
    exact ⟨rfl, f0.trans (fr.trans f1)⟩

end Go.Proofs.YtkcpoiploighiaaDoor
