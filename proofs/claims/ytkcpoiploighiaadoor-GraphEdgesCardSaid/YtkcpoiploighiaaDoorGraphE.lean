/-
  Are two graphs one; graphs more than are looked at.
-/
import Derived.Test.YtkcpoiploighiaaDoorGraphC
import Derived.Test.YtkcpoiploighiaaDoorMeet
set_option linter.unusedVariables false
set_option linter.unusedSimpArgs false
namespace Go.Proofs.YtkcpoiploighiaaDoor
open Go Go.Vc

set_option maxHeartbeats 2000000 in
theorem ref21_Same_spec {H : Hp} {n m : Int} {a a' : Option Addr} {c c' : Nat} {es fs : List Ed} (h : RdS H 3 (.slice a es.length c) es.length (flatE es)) (h' : RdS H 3 (.slice a' fs.length c') fs.length (flatE fs)) (hm : es.length ≤ 1000000000) :
    CallH Tryd.prog n_ref21_Same [grV n (.slice a es.length c), grV m (.slice a' fs.length c')] H fun v H' => Post (v = .bool (decide (n = m) && decide (es = fs)) ∧ Fresh H H') := by
  refine c_ref21_Same ⟨rfl, ?_⟩
  have f0 : Fresh H ((H.new 35 [i64 n, .slice a es.length c]).new 35 [i64 m, .slice a' fs.length c']) := ((Ext.refl _ _).new _ _).new _ _
  have b0 : ((H.new 35 [i64 n, .slice a es.length c]).new 35 [i64 m, .slice a' fs.length c']).own H.size = some [i64 n, .slice a es.length c] := Ext.own (((Ext.refl (fun _ => False) _).new _ _) : Fresh (H.new 35 [i64 n, .slice a es.length c]) _) (own_new _ _ _) (fun h => h)
  have d0 : ((H.new 35 [i64 n, .slice a es.length c]).new 35 [i64 m, .slice a' fs.length c']).own (H.size + 1) = some [i64 m, .slice a' fs.length c'] := own_new_eq (by simp only [size_new])
  simp (disch := (first | omega | (simp only [size_new, size_newm, size_wr, size_wrm] <;> omega) | fail)) only [go_sem, Nat.reduceBEq, Nat.reduceAdd, Nat.reduceMul, Nat.reduceLeDiff, ↓reduceIte, rd_new_lt, own_new_lt, mp_new_lt, rd_newm_lt, own_newm_lt, mp_newm_lt, rd_wr_ne, own_wr_ne, mp_wr_ne, rd_wrm_ne, own_wrm_ne, mp_wrm_ne, rd_new_eq, own_new_eq, mp_newm_eq, s_ref21_Same, grV]
  generalize (H.new 35 [i64 n, .slice a es.length c]).new 35 [i64 m, .slice a' fs.length c'] = H0 at *
  refine Both.dec (fun h1 => ?_) (fun h1 => ?_)
  rotate_left
  · simp (disch := (first | omega | (simp only [size_new, size_newm, size_wr, size_wrm] <;> omega) | fail)) only [go_sem, Nat.reduceBEq, Nat.reduceAdd, Nat.reduceMul, Nat.reduceLeDiff, ↓reduceIte, rd_new_lt, own_new_lt, mp_new_lt, rd_newm_lt, own_newm_lt, mp_newm_lt, rd_wr_ne, own_wr_ne, mp_wr_ne, rd_wrm_ne, own_wrm_ne, mp_wrm_ne, rd_new_eq, own_new_eq, mp_newm_eq]
    exact ⟨by rw [decide_eq_false h1]; rfl, f0⟩
  simp (disch := (first | omega | (simp only [size_new, size_newm, size_wr, size_wrm] <;> omega) | fail)) only [go_sem, Nat.reduceBEq, Nat.reduceAdd, Nat.reduceMul, Nat.reduceLeDiff, ↓reduceIte, rd_new_lt, own_new_lt, mp_new_lt, rd_newm_lt, own_newm_lt, mp_newm_lt, rd_wr_ne, own_wr_ne, mp_wr_ne, rd_wrm_ne, own_wrm_ne, mp_wrm_ne, rd_new_eq, own_new_eq, mp_newm_eq, rd_of_own b0, rd_of_own d0]
  refine Both.dec (fun h2 => ?_) (fun h2 => ?_)
  rotate_left
  · simp (disch := (first | omega | (simp only [size_new, size_newm, size_wr, size_wrm] <;> omega) | fail)) only [go_sem, Nat.reduceBEq, Nat.reduceAdd, Nat.reduceMul, Nat.reduceLeDiff, ↓reduceIte, rd_new_lt, own_new_lt, mp_new_lt, rd_newm_lt, own_newm_lt, mp_newm_lt, rd_wr_ne, own_wr_ne, mp_wr_ne, rd_wrm_ne, own_wrm_ne, mp_wrm_ne, rd_new_eq, own_new_eq, mp_newm_eq]
    refine ⟨?_, f0⟩
    rw [decide_eq_false (p := es = fs) (fun e => h2 (by rw [e])), Bool.and_false]
    rfl
  rw [decide_eq_true h1, Bool.true_and]
  have hl : es.length = fs.length := by omega
  simp (disch := (first | omega | (simp only [size_new, size_newm, size_wr, size_wrm] <;> omega) | fail)) only [go_sem, Nat.reduceBEq, Nat.reduceAdd, Nat.reduceMul, Nat.reduceLeDiff, ↓reduceIte, rd_new_lt, own_new_lt, mp_new_lt, rd_newm_lt, own_newm_lt, mp_newm_lt, rd_wr_ne, own_wr_ne, mp_wr_ne, rd_wrm_ne, own_wrm_ne, mp_wrm_ne, rd_new_eq, own_new_eq, mp_newm_eq, rd_of_own b0, rd_of_own d0]
  refine LoopV.intro (fun k env H' => Fresh H0 H' ∧ ∃ j : Nat, k = es.length - j ∧ j ≤ es.length ∧ es.take j = fs.take j ∧ env = [(2, ptr H.size), (3, ptr (H.size + 1)), (22, i64 es.length), (23, i64 j)]) es.length ⟨Ext.refl _ _, 0, by omega, by omega, rfl, rfl⟩ ?_
  rintro k env H1 ⟨f1, j, hk, hj, htk, rfl⟩
  have r1 := (h.fresh f0).fresh f1
  have r2 := (h'.fresh f0).fresh f1
  have b1 := f1.own b0 (fun h => h)
  have d1 := f1.own d0 (fun h => h)
  simp (disch := (first | omega | (simp only [size_new, size_newm, size_wr, size_wrm] <;> omega) | fail)) only [go_sem, Nat.reduceBEq, Nat.reduceAdd, Nat.reduceMul, Nat.reduceLeDiff, ↓reduceIte, rd_new_lt, own_new_lt, mp_new_lt, rd_newm_lt, own_newm_lt, mp_newm_lt, rd_wr_ne, own_wr_ne, mp_wr_ne, rd_wrm_ne, own_wrm_ne, mp_wrm_ne, rd_new_eq, own_new_eq, mp_newm_eq]
  refine Both.dec (fun hlt => ?_) (fun hlt => ?_) <;> simp (disch := (first | omega | (simp only [size_new, size_newm, size_wr, size_wrm] <;> omega) | fail)) only [go_sem, Nat.reduceBEq, Nat.reduceAdd, Nat.reduceMul, Nat.reduceLeDiff, ↓reduceIte, rd_new_lt, own_new_lt, mp_new_lt, rd_newm_lt, own_newm_lt, mp_newm_lt, rd_wr_ne, own_wr_ne, mp_wr_ne, rd_wrm_ne, own_wrm_ne, mp_wrm_ne, rd_new_eq, own_new_eq, mp_newm_eq]
  · have hj2 : j < es.length := by omega
    obtain ⟨e, he⟩ : ∃ e, es[j]? = some e := ⟨_, List.getElem?_eq_getElem hj2⟩
    obtain ⟨e', he'⟩ : ∃ e, fs[j]? = some e := ⟨_, List.getElem?_eq_getElem (by omega)⟩
    obtain ⟨_, b, o, lb, rfl, hrd, hle, hcells⟩ := RdS.edge r1 he
    obtain ⟨_, b', o', lb', rfl, hrd', hle', hcells'⟩ := RdS.edge r2 he'
    simp (disch := (first | omega | (simp only [size_new, size_newm, size_wr, size_wrm] <;> omega) | fail)) only [go_sem, Nat.reduceBEq, Nat.reduceAdd, Nat.reduceMul, Nat.reduceLeDiff, ↓reduceIte, rd_new_lt, own_new_lt, mp_new_lt, rd_newm_lt, own_newm_lt, mp_newm_lt, rd_wr_ne, own_wr_ne, mp_wr_ne, rd_wrm_ne, own_wrm_ne, mp_wrm_ne, rd_new_eq, own_new_eq, mp_newm_eq, rd_of_own b1, rd_of_own d1]
    refine ⟨⟨by omega, by omega⟩, ?_⟩
    simp (disch := (first | omega | (simp only [size_new, size_newm, size_wr, size_wrm] <;> omega) | fail)) only [go_sem, Nat.reduceBEq, Nat.reduceAdd, Nat.reduceMul, Nat.reduceLeDiff, ↓reduceIte, rd_new_lt, own_new_lt, mp_new_lt, rd_newm_lt, own_newm_lt, mp_newm_lt, rd_wr_ne, own_wr_ne, mp_wr_ne, rd_wrm_ne, own_wrm_ne, mp_wrm_ne, rd_new_eq, own_new_eq, mp_newm_eq, hrd, Int.toNat_natCast, hcells, cellsE, rd_of_own d1]
    refine ⟨by omega, ?_⟩
    simp (disch := (first | omega | (simp only [size_new, size_newm, size_wr, size_wrm] <;> omega) | fail)) only [go_sem, Nat.reduceBEq, Nat.reduceAdd, Nat.reduceMul, Nat.reduceLeDiff, ↓reduceIte, rd_new_lt, own_new_lt, mp_new_lt, rd_newm_lt, own_newm_lt, mp_newm_lt, rd_wr_ne, own_wr_ne, mp_wr_ne, rd_wrm_ne, own_wrm_ne, mp_wrm_ne, rd_new_eq, own_new_eq, mp_newm_eq, hrd', Int.toNat_natCast, hcells, hcells', cellsE, rd_of_own d1]
    refine ⟨⟨by omega, by omega⟩, ?_⟩
    simp (disch := (first | omega | (simp only [size_new, size_newm, size_wr, size_wrm] <;> omega) | fail)) only [go_sem, Nat.reduceBEq, Nat.reduceAdd, Nat.reduceMul, Nat.reduceLeDiff, ↓reduceIte, rd_new_lt, own_new_lt, mp_new_lt, rd_newm_lt, own_newm_lt, mp_newm_lt, rd_wr_ne, own_wr_ne, mp_wr_ne, rd_wrm_ne, own_wrm_ne, mp_wrm_ne, rd_new_eq, own_new_eq, mp_newm_eq, hrd', Int.toNat_natCast, hcells, hcells', cellsE, rd_of_own d1]
    refine ⟨by omega, ?_⟩
    simp (disch := (first | omega | (simp only [size_new, size_newm, size_wr, size_wrm] <;> omega) | fail)) only [go_sem, Nat.reduceBEq, Nat.reduceAdd, Nat.reduceMul, Nat.reduceLeDiff, ↓reduceIte, rd_new_lt, own_new_lt, mp_new_lt, rd_newm_lt, own_newm_lt, mp_newm_lt, rd_wr_ne, own_wr_ne, mp_wr_ne, rd_wrm_ne, own_wrm_ne, mp_wrm_ne, rd_new_eq, own_new_eq, mp_newm_eq, hrd', Int.toNat_natCast, hcells, hcells', cellsE, rd_of_own d1]
    rw [edge_eqVs, Option.map_some]
    simp (disch := (first | omega | (simp only [size_new, size_newm, size_wr, size_wrm] <;> omega) | fail)) only [go_sem, Nat.reduceBEq, Nat.reduceAdd, Nat.reduceMul, Nat.reduceLeDiff, ↓reduceIte, rd_new_lt, own_new_lt, mp_new_lt, rd_newm_lt, own_newm_lt, mp_newm_lt, rd_wr_ne, own_wr_ne, mp_wr_ne, rd_wrm_ne, own_wrm_ne, mp_wrm_ne, rd_new_eq, own_new_eq, mp_newm_eq]
    have hq : (decide (e.f = e'.f) && (decide (e.t = e'.t) && decide (e.w = e'.w))) = decide (e = e') := by
      obtain ⟨x1, x2, x3⟩ := e
      obtain ⟨y1, y2, y3⟩ := e'
      simp [Bool.decide_and]
    rw [hq]
    refine Both.dec (fun h3 => ?_) (fun h3 => ?_) <;> simp (disch := (first | omega | (simp only [size_new, size_newm, size_wr, size_wrm] <;> omega) | fail)) only [go_sem, Nat.reduceBEq, Nat.reduceAdd, Nat.reduceMul, Nat.reduceLeDiff, ↓reduceIte, rd_new_lt, own_new_lt, mp_new_lt, rd_newm_lt, own_newm_lt, mp_newm_lt, rd_wr_ne, own_wr_ne, mp_wr_ne, rd_wrm_ne, own_wrm_ne, mp_wrm_ne, rd_new_eq, own_new_eq, mp_newm_eq]
    · rw [wrap64 (n := (j : Int) + 1) (by omega) (by omega)]
      exact ⟨es.length - (j + 1), by omega, f1, j + 1, rfl, by omega, by rw [List.take_add_one, List.take_add_one, he, he', htk, h3], rfl⟩
    · refine ⟨?_, f0.trans f1⟩
      rw [decide_eq_false (fun e2 => h3 (by rw [e2, he'] at he; injection he with he; exact he.symm))]
      rfl
  · have hj2 : j = es.length := by omega
    subst hj2
    rw [List.take_length, List.take_of_length_le (by omega)] at htk
    exact ⟨by rw [decide_eq_true htk]; rfl, f0.trans f1⟩

theorem law21_great_spec (H : Hp) (n : Int) (a : Option Addr) (k c : Nat) : CallH Tryd.prog n_law21_great [grV n (.slice a k c)] H fun v H' => Post (v = .bool (decide ((60 < k ∧ k ≤ 65536) ∨ (40 < n ∧ n ≤ 4096))) ∧ Fresh H H') := by
  refine c_law21_great ⟨rfl, ?_⟩
  have f0 : Fresh H (H.new 35 [i64 n, .slice a k c]) := (Ext.refl _ _).new _ _
  have b0 := own_new H 35 [i64 n, .slice a k c]
  simp (disch := (first | omega | (simp only [size_new, size_newm, size_wr, size_wrm] <;> omega) | fail)) only [go_sem, Nat.reduceBEq, Nat.reduceAdd, Nat.reduceMul, Nat.reduceLeDiff, ↓reduceIte, rd_new_lt, own_new_lt, mp_new_lt, rd_newm_lt, own_newm_lt, mp_newm_lt, rd_wr_ne, own_wr_ne, mp_wr_ne, rd_wrm_ne, own_wrm_ne, mp_wrm_ne, rd_new_eq, own_new_eq, mp_newm_eq, s_law21_great, grV]
  generalize H.new 35 [i64 n, .slice a k c] = H0 at *
  refine Both.dec (fun h1 => ?_) (fun h1 => ?_) <;> simp (disch := (first | omega | (simp only [size_new, size_newm, size_wr, size_wrm] <;> omega) | fail)) only [go_sem, Nat.reduceBEq, Nat.reduceAdd, Nat.reduceMul, Nat.reduceLeDiff, ↓reduceIte, rd_new_lt, own_new_lt, mp_new_lt, rd_newm_lt, own_newm_lt, mp_newm_lt, rd_wr_ne, own_wr_ne, mp_wr_ne, rd_wrm_ne, own_wrm_ne, mp_wrm_ne, rd_new_eq, own_new_eq, mp_newm_eq, rd_of_own b0]
  · refine Both.dec (fun h2 => ?_) (fun h2 => ?_) <;> simp (disch := (first | omega | (simp only [size_new, size_newm, size_wr, size_wrm] <;> omega) | fail)) only [go_sem, Nat.reduceBEq, Nat.reduceAdd, Nat.reduceMul, Nat.reduceLeDiff, ↓reduceIte, rd_new_lt, own_new_lt, mp_new_lt, rd_newm_lt, own_newm_lt, mp_newm_lt, rd_wr_ne, own_wr_ne, mp_wr_ne, rd_wrm_ne, own_wrm_ne, mp_wrm_ne, rd_new_eq, own_new_eq, mp_newm_eq, rd_of_own b0]
    · exact ⟨congrArg Value.bool (by symm; simp; omega), f0⟩
    · refine Both.dec (fun h3 => ?_) (fun h3 => ?_) <;> simp (disch := (first | omega | (simp only [size_new, size_newm, size_wr, size_wrm] <;> omega) | fail)) only [go_sem, Nat.reduceBEq, Nat.reduceAdd, Nat.reduceMul, Nat.reduceLeDiff, ↓reduceIte, rd_new_lt, own_new_lt, mp_new_lt, rd_newm_lt, own_newm_lt, mp_newm_lt, rd_wr_ne, own_wr_ne, mp_wr_ne, rd_wrm_ne, own_wrm_ne, mp_wrm_ne, rd_new_eq, own_new_eq, mp_newm_eq, rd_of_own b0]
      · exact ⟨congrArg Value.bool (by rw [decide_eq_decide]; omega), f0⟩
      · exact ⟨congrArg Value.bool (by symm; simp; omega), f0⟩
  · refine Both.dec (fun h3 => ?_) (fun h3 => ?_) <;> simp (disch := (first | omega | (simp only [size_new, size_newm, size_wr, size_wrm] <;> omega) | fail)) only [go_sem, Nat.reduceBEq, Nat.reduceAdd, Nat.reduceMul, Nat.reduceLeDiff, ↓reduceIte, rd_new_lt, own_new_lt, mp_new_lt, rd_newm_lt, own_newm_lt, mp_newm_lt, rd_wr_ne, own_wr_ne, mp_wr_ne, rd_wrm_ne, own_wrm_ne, mp_wrm_ne, rd_new_eq, own_new_eq, mp_newm_eq, rd_of_own b0]
    · exact ⟨congrArg Value.bool (by rw [decide_eq_decide]; omega), f0⟩
    · exact ⟨congrArg Value.bool (by symm; simp; omega), f0⟩

end Go.Proofs.YtkcpoiploighiaaDoor
