/-
  Are two lists of numbers one: the document's way.
-/
import Derived.Test.YtbnaicgmnadkgaaEds
set_option linter.unusedVariables false
set_option linter.unusedSimpArgs false
namespace Go.Proofs.Ytbnaicgmnadkgaa
open Go Go.Vc

theorem ref09_Same_spec {H : Hp} {a a' : Option Addr} {c c' : Nat} {xs ys : List Int} (h : RdS H 1 (.slice a xs.length c) xs.length (xs.map i64)) (h' : RdS H 1 (.slice a' ys.length c') ys.length (ys.map i64)) (hm : xs.length ≤ 1000000000000) :
    CallH Try.prog n_ref09_Same [.slice a xs.length c, .slice a' ys.length c'] H fun v H' => Post (v = .bool (decide (xs = ys)) ∧ H = H') := by
  refine c_ref09_Same ⟨rfl, ?_⟩
  simp (disch := (first | omega | (simp only [size_new, size_newm, size_wr, size_wrm] <;> omega) | fail)) only [go_sem, Nat.reduceBEq, Nat.reduceAdd, Nat.reduceMul, Nat.reduceLeDiff, ↓reduceIte, rd_new_lt, own_new_lt, mp_new_lt, rd_newm_lt, own_newm_lt, mp_newm_lt, rd_wr_ne, own_wr_ne, mp_wr_ne, rd_wrm_ne, own_wrm_ne, mp_wrm_ne, rd_new_eq, own_new_eq, mp_newm_eq, s_ref09_Same]
  refine Both.dec (fun h2 => ?_) (fun h2 => ?_)
  rotate_left
  · simp (disch := (first | omega | (simp only [size_new, size_newm, size_wr, size_wrm] <;> omega) | fail)) only [go_sem, Nat.reduceBEq, Nat.reduceAdd, Nat.reduceMul, Nat.reduceLeDiff, ↓reduceIte, rd_new_lt, own_new_lt, mp_new_lt, rd_newm_lt, own_newm_lt, mp_newm_lt, rd_wr_ne, own_wr_ne, mp_wr_ne, rd_wrm_ne, own_wrm_ne, mp_wrm_ne, rd_new_eq, own_new_eq, mp_newm_eq]
    exact ⟨by rw [decide_eq_false (p := xs = ys) (fun e => h2 (by rw [e]))]; rfl, rfl⟩
  simp (disch := (first | omega | (simp only [size_new, size_newm, size_wr, size_wrm] <;> omega) | fail)) only [go_sem, Nat.reduceBEq, Nat.reduceAdd, Nat.reduceMul, Nat.reduceLeDiff, ↓reduceIte, rd_new_lt, own_new_lt, mp_new_lt, rd_newm_lt, own_newm_lt, mp_newm_lt, rd_wr_ne, own_wr_ne, mp_wr_ne, rd_wrm_ne, own_wrm_ne, mp_wrm_ne, rd_new_eq, own_new_eq, mp_newm_eq]
  refine LoopV.intro (fun k env H' => H' = H ∧ ∃ j : Nat, k = xs.length - j ∧ j ≤ xs.length ∧ xs.take j = ys.take j ∧ env = [(0, .slice a xs.length c), (1, .slice a' ys.length c'), (12, i64 xs.length), (13, i64 j)]) xs.length ⟨rfl, 0, by omega, by omega, rfl, rfl⟩ ?_
  rintro k env _ ⟨rfl, j, hk, hj, htk, rfl⟩
  simp (disch := (first | omega | (simp only [size_new, size_newm, size_wr, size_wrm] <;> omega) | fail)) only [go_sem, Nat.reduceBEq, Nat.reduceAdd, Nat.reduceMul, Nat.reduceLeDiff, ↓reduceIte, rd_new_lt, own_new_lt, mp_new_lt, rd_newm_lt, own_newm_lt, mp_newm_lt, rd_wr_ne, own_wr_ne, mp_wr_ne, rd_wrm_ne, own_wrm_ne, mp_wrm_ne, rd_new_eq, own_new_eq, mp_newm_eq]
  refine Both.dec (fun hlt => ?_) (fun hlt => ?_) <;> simp (disch := (first | omega | (simp only [size_new, size_newm, size_wr, size_wrm] <;> omega) | fail)) only [go_sem, Nat.reduceBEq, Nat.reduceAdd, Nat.reduceMul, Nat.reduceLeDiff, ↓reduceIte, rd_new_lt, own_new_lt, mp_new_lt, rd_newm_lt, own_newm_lt, mp_newm_lt, rd_wr_ne, own_wr_ne, mp_wr_ne, rd_wrm_ne, own_wrm_ne, mp_wrm_ne, rd_new_eq, own_new_eq, mp_newm_eq]
  · have hj2 : j < xs.length := by omega
    obtain ⟨x, hx⟩ : ∃ e, xs[j]? = some e := ⟨_, List.getElem?_eq_getElem hj2⟩
    obtain ⟨y, hy⟩ : ∃ e, ys[j]? = some e := ⟨_, List.getElem?_eq_getElem (by omega)⟩
    obtain ⟨_, b, o, lb, rfl, hrd, hcell⟩ := RdS.num h hx
    obtain ⟨_, b', o', lb', rfl, hrd', hcell'⟩ := RdS.num h' hy
    refine ⟨⟨by omega, by omega⟩, ?_⟩
    simp (disch := (first | omega | (simp only [size_new, size_newm, size_wr, size_wrm] <;> omega) | fail)) only [go_sem, Nat.reduceBEq, Nat.reduceAdd, Nat.reduceMul, Nat.reduceLeDiff, ↓reduceIte, rd_new_lt, own_new_lt, mp_new_lt, rd_newm_lt, own_newm_lt, mp_newm_lt, rd_wr_ne, own_wr_ne, mp_wr_ne, rd_wrm_ne, own_wrm_ne, mp_wrm_ne, rd_new_eq, own_new_eq, mp_newm_eq, hrd, Int.toNat_natCast, Nat.mul_one, hcell]
    refine ⟨⟨by omega, by omega⟩, ?_⟩
    simp (disch := (first | omega | (simp only [size_new, size_newm, size_wr, size_wrm] <;> omega) | fail)) only [go_sem, Nat.reduceBEq, Nat.reduceAdd, Nat.reduceMul, Nat.reduceLeDiff, ↓reduceIte, rd_new_lt, own_new_lt, mp_new_lt, rd_newm_lt, own_newm_lt, mp_newm_lt, rd_wr_ne, own_wr_ne, mp_wr_ne, rd_wrm_ne, own_wrm_ne, mp_wrm_ne, rd_new_eq, own_new_eq, mp_newm_eq, hrd', Int.toNat_natCast, Nat.mul_one, hcell']
    refine Both.dec (fun h3 => ?_) (fun h3 => ?_) <;> simp (disch := (first | omega | (simp only [size_new, size_newm, size_wr, size_wrm] <;> omega) | fail)) only [go_sem, Nat.reduceBEq, Nat.reduceAdd, Nat.reduceMul, Nat.reduceLeDiff, ↓reduceIte, rd_new_lt, own_new_lt, mp_new_lt, rd_newm_lt, own_newm_lt, mp_newm_lt, rd_wr_ne, own_wr_ne, mp_wr_ne, rd_wrm_ne, own_wrm_ne, mp_wrm_ne, rd_new_eq, own_new_eq, mp_newm_eq]
    · rw [wrap64 (n := (j : Int) + 1) (by omega) (by omega)]
      exact ⟨xs.length - (j + 1), by omega, trivial, j + 1, rfl, by omega, by rw [List.take_add_one, List.take_add_one, hx, hy, htk, h3], rfl⟩
    · refine ⟨?_, rfl⟩
      rw [decide_eq_false (fun e2 => h3 (by rw [e2, hy] at hx; injection hx with hx; exact hx.symm))]
      rfl
  · have hj2 : j = xs.length := by omega
    subst hj2
    rw [List.take_length, List.take_of_length_le (by omega)] at htk
    exact ⟨by rw [decide_eq_true htk]; rfl, rfl⟩

end Go.Proofs.Ytbnaicgmnadkgaa
