/-
  The document's edges that leave, and touch, a vertex; are two lists of numbers one.
-/
import Derived.Test.YtkcpoiploighiaaDoorGraphL
import Derived.Test.YtkcpoiploighiaaDoorMeet
set_option linter.unusedVariables false
set_option linter.unusedSimpArgs false
namespace Go.Proofs.YtkcpoiploighiaaDoor
open Go Go.Vc

set_option maxHeartbeats 2000000 in
theorem ref21_Leaving_spec {H : Hp} {n : Int} {a : Option Addr} {c : Nat} {es : List Ed} (h : RdS H 3 (.slice a es.length c) es.length (flatE es)) (hm : es.length ≤ 1000000000) (v : Nat) :
    CallH Tryd.prog n_ref21_Leaving [grV n (.slice a es.length c), i64 v] H fun u H' => Post (Fresh H H' ∧ ∃ b, H.size ≤ b ∧ Sl H' 1 u (idxA (qL v) 0 es).length ((idxA (qL v) 0 es).map i64) (some b)) := by
  refine c_ref21_Leaving ⟨rfl, ?_⟩
  have f0 : Fresh H (H.new 35 [i64 n, .slice a es.length c]) := (Ext.refl _ _).new _ _
  have b0 := own_new H 35 [i64 n, .slice a es.length c]
  have hz0 : (H.new 35 [i64 n, .slice a es.length c]).size = H.size + 1 := by rw [size_new]
  simp (disch := (first | omega | (simp only [size_new, size_newm, size_wr, size_wrm] <;> omega) | fail)) only [go_sem, Nat.reduceBEq, Nat.reduceAdd, Nat.reduceMul, Nat.reduceLeDiff, ↓reduceIte, rd_new_lt, own_new_lt, mp_new_lt, rd_newm_lt, own_newm_lt, mp_newm_lt, rd_wr_ne, own_wr_ne, mp_wr_ne, rd_wrm_ne, own_wrm_ne, mp_wrm_ne, rd_new_eq, own_new_eq, mp_newm_eq, s_ref21_Leaving, grV]
  generalize H.new 35 [i64 n, .slice a es.length c] = H0 at *
  have fo : Fresh H0 (H0.new 3 []) := (Ext.refl _ _).new _ _
  have s0 : Sl (H0.new 3 []) 1 (.slice (some ⟨H.size + 1, 0, none⟩) 0 0) 0 (([] : List Int).map i64) (some (H.size + 1)) := Sl.lit_at (size := 1) (n := 0) (xs := []) rfl hz0.symm
  have b1 := fo.own b0 (fun h => h)
  generalize H0.new 3 [] = H1 at *
  refine LoopV.intro (fun m env H' => Fresh H H' ∧ ∃ (j : Nat) (w : Value) (b : Nat), m = es.length - j ∧ j ≤ es.length ∧ H.size ≤ b ∧ Sl H' 1 w (idxA (qL v) 0 (es.take j)).length ((idxA (qL v) 0 (es.take j)).map i64) (some b) ∧
    env = [(1, i64 v), (5, w), (10, .slice a es.length c), (11, i64 es.length), (12, i64 j)]) es.length ⟨f0.trans fo, 0, _, H.size + 1, by omega, by omega, by omega, s0, rfl⟩ ?_
  rintro m env H2 ⟨f2, j, w, b', hmj, hj, hb', s2, rfl⟩
  have h2 := h.fresh f2
  simp (disch := (first | omega | (simp only [size_new, size_newm, size_wr, size_wrm] <;> omega) | fail)) only [go_sem, Nat.reduceBEq, Nat.reduceAdd, Nat.reduceMul, Nat.reduceLeDiff, ↓reduceIte, rd_new_lt, own_new_lt, mp_new_lt, rd_newm_lt, own_newm_lt, mp_newm_lt, rd_wr_ne, own_wr_ne, mp_wr_ne, rd_wrm_ne, own_wrm_ne, mp_wrm_ne, rd_new_eq, own_new_eq, mp_newm_eq]
  refine Both.dec (fun hlt => ?_) (fun hlt => ?_) <;> simp (disch := (first | omega | (simp only [size_new, size_newm, size_wr, size_wrm] <;> omega) | fail)) only [go_sem, Nat.reduceBEq, Nat.reduceAdd, Nat.reduceMul, Nat.reduceLeDiff, ↓reduceIte, rd_new_lt, own_new_lt, mp_new_lt, rd_newm_lt, own_newm_lt, mp_newm_lt, rd_wr_ne, own_wr_ne, mp_wr_ne, rd_wrm_ne, own_wrm_ne, mp_wrm_ne, rd_new_eq, own_new_eq, mp_newm_eq]
  · have hj2 : j < es.length := by omega
    obtain ⟨e, he⟩ : ∃ e, es[j]? = some e := ⟨_, List.getElem?_eq_getElem hj2⟩
    obtain ⟨_, b, o, lb, rfl, hrd, hle, hcells⟩ := RdS.edge h2 he
    refine ⟨⟨by omega, by omega⟩, ?_⟩
    simp (disch := (first | omega | (simp only [size_new, size_newm, size_wr, size_wrm] <;> omega) | fail)) only [go_sem, Nat.reduceBEq, Nat.reduceAdd, Nat.reduceMul, Nat.reduceLeDiff, ↓reduceIte, rd_new_lt, own_new_lt, mp_new_lt, rd_newm_lt, own_newm_lt, mp_newm_lt, rd_wr_ne, own_wr_ne, mp_wr_ne, rd_wrm_ne, own_wrm_ne, mp_wrm_ne, rd_new_eq, own_new_eq, mp_newm_eq, hrd, Int.toNat_natCast, hcells, cellsE]
    refine ⟨by omega, ?_⟩
    have q2 := own_new H2 51 [i64 0, i64 0, i64 0]
    simp (disch := (first | omega | (simp only [size_new, size_newm, size_wr, size_wrm] <;> omega) | fail)) only [go_sem, Nat.reduceBEq, Nat.reduceAdd, Nat.reduceMul, Nat.reduceLeDiff, ↓reduceIte, rd_new_lt, own_new_lt, mp_new_lt, rd_newm_lt, own_newm_lt, mp_newm_lt, rd_wr_ne, own_wr_ne, mp_wr_ne, rd_wrm_ne, own_wrm_ne, mp_wrm_ne, rd_new_eq, own_new_eq, mp_newm_eq, hcells, cellsE, q2]
    have q3 := own_wr_same (l := [i64 e.f, i64 e.t, i64 e.w]) q2
    have f3 : Fresh H2 ((H2.new 51 [i64 0, i64 0, i64 0]).wr H2.size [i64 e.f, i64 e.t, i64 e.w]) := ((Ext.refl _ _).new _ _ : Fresh H2 _).then ((Ext.refl (fun z => z = H2.size) _).wr (fun _ => rfl) _) (fun z hz => by omega)
    generalize (H2.new 51 [i64 0, i64 0, i64 0]).wr H2.size [i64 e.f, i64 e.t, i64 e.w] = H3 at *
    have s3 := s2.ext f3 (fun _ _ h => h)
    have htk := idxA_take (qL v) he
    have hlr := idxA_len (qL v) (es.take j) 0
    rw [List.length_take] at hlr
    have hw1 := wrap64 (n := (j : Int) + 1) (by omega) (by omega)
    have no : qL v e = false → Sl H3 1 w (idxA (qL v) 0 (es.take (j + 1))).length ((idxA (qL v) 0 (es.take (j + 1))).map i64) (some b') := fun hq => by rw [htk, hq]; simpa using s3
    have fl : Fresh H3 (H3.new 3 [i64 j]) := (Ext.refl _ _).new _ _
    have yes : qL v e = true → AppendV 3 1 8 [i64 0] w (.slice (some ⟨H3.size, 0, none⟩) 1 1) (H3.new 3 [i64 j]) fun w' H' => Fresh H H' ∧ ∃ b2, H.size ≤ b2 ∧ Sl H' 1 w' (idxA (qL v) 0 (es.take (j + 1))).length ((idxA (qL v) 0 (es.take (j + 1))).map i64) (some b2) := by
      intro hq
      refine Sl.append (s3.ext fl (fun _ _ h => h)) (Sl.lit_at (size := 1) (n := 1) (xs := [i64 j]) rfl rfl).rd rfl (ones_nums [(j : Int)]) (by omega) ?_
      intro v' H5 fp' s5 e5 hfp
      obtain ⟨b2, rfl, hb2⟩ : ∃ b2, fp' = some b2 ∧ H.size ≤ b2 := by
        rcases hfp with rfl | ⟨b2, rfl, h1, h2⟩
        · exact ⟨b', rfl, hb'⟩
        · exact ⟨b2, rfl, Nat.le_trans ((f2.trans f3).trans fl).size h1⟩
      refine ⟨((f2.trans f3).trans fl).then e5 (fun z (hz : some b' = some z) => by injection hz with hz; omega), b2, hb2, ?_⟩
      rw [htk, hq, if_pos rfl, List.length_append, List.map_append]
      exact s5
    simp (disch := (first | omega | (simp only [size_new, size_newm, size_wr, size_wrm] <;> omega) | fail)) only [go_sem, Nat.reduceBEq, Nat.reduceAdd, Nat.reduceMul, Nat.reduceLeDiff, ↓reduceIte, rd_new_lt, own_new_lt, mp_new_lt, rd_newm_lt, own_newm_lt, mp_newm_lt, rd_wr_ne, own_wr_ne, mp_wr_ne, rd_wrm_ne, own_wrm_ne, mp_wrm_ne, rd_new_eq, own_new_eq, mp_newm_eq, rd_of_own q3]
    refine Both.dec (fun g => ?_) (fun g => ?_) <;> simp (disch := (first | omega | (simp only [size_new, size_newm, size_wr, size_wrm] <;> omega) | fail)) only [go_sem, Nat.reduceBEq, Nat.reduceAdd, Nat.reduceMul, Nat.reduceLeDiff, ↓reduceIte, rd_new_lt, own_new_lt, mp_new_lt, rd_newm_lt, own_newm_lt, mp_newm_lt, rd_wr_ne, own_wr_ne, mp_wr_ne, rd_wrm_ne, own_wrm_ne, mp_wrm_ne, rd_new_eq, own_new_eq, mp_newm_eq]
    · refine AppendV_mono (yes (by unfold qL; exact decide_eq_true g)) ?_
      rintro w' H5 ⟨f5, b2, hb2, s5⟩
      simp (disch := (first | omega | (simp only [size_new, size_newm, size_wr, size_wrm] <;> omega) | fail)) only [go_sem, Nat.reduceBEq, Nat.reduceAdd, Nat.reduceMul, Nat.reduceLeDiff, ↓reduceIte, rd_new_lt, own_new_lt, mp_new_lt, rd_newm_lt, own_newm_lt, mp_newm_lt, rd_wr_ne, own_wr_ne, mp_wr_ne, rd_wrm_ne, own_wrm_ne, mp_wrm_ne, rd_new_eq, own_new_eq, mp_newm_eq]
      rw [hw1]
      exact ⟨es.length - (j + 1), by omega, f5, j + 1, w', b2, rfl, by omega, hb2, s5, rfl⟩
    · rw [hw1]
      exact ⟨es.length - (j + 1), by omega, f2.trans f3, j + 1, w, b', rfl, by omega, hb', no (by unfold qL; exact decide_eq_false g), rfl⟩
  · have hj2 : j = es.length := by omega
    subst hj2
    rw [List.take_length] at s2
    exact ⟨f2, b', hb', s2⟩

set_option maxHeartbeats 2000000 in
theorem ref21_Touching_spec {H : Hp} {n : Int} {a : Option Addr} {c : Nat} {es : List Ed} (h : RdS H 3 (.slice a es.length c) es.length (flatE es)) (hm : es.length ≤ 1000000000) (v : Nat) :
    CallH Tryd.prog n_ref21_Touching [grV n (.slice a es.length c), i64 v] H fun u H' => Post (Fresh H H' ∧ ∃ b, H.size ≤ b ∧ Sl H' 1 u (idxA (qT v) 0 es).length ((idxA (qT v) 0 es).map i64) (some b)) := by
  refine c_ref21_Touching ⟨rfl, ?_⟩
  have f0 : Fresh H (H.new 35 [i64 n, .slice a es.length c]) := (Ext.refl _ _).new _ _
  have b0 := own_new H 35 [i64 n, .slice a es.length c]
  have hz0 : (H.new 35 [i64 n, .slice a es.length c]).size = H.size + 1 := by rw [size_new]
  simp (disch := (first | omega | (simp only [size_new, size_newm, size_wr, size_wrm] <;> omega) | fail)) only [go_sem, Nat.reduceBEq, Nat.reduceAdd, Nat.reduceMul, Nat.reduceLeDiff, ↓reduceIte, rd_new_lt, own_new_lt, mp_new_lt, rd_newm_lt, own_newm_lt, mp_newm_lt, rd_wr_ne, own_wr_ne, mp_wr_ne, rd_wrm_ne, own_wrm_ne, mp_wrm_ne, rd_new_eq, own_new_eq, mp_newm_eq, s_ref21_Touching, grV]
  generalize H.new 35 [i64 n, .slice a es.length c] = H0 at *
  have fo : Fresh H0 (H0.new 3 []) := (Ext.refl _ _).new _ _
  have s0 : Sl (H0.new 3 []) 1 (.slice (some ⟨H.size + 1, 0, none⟩) 0 0) 0 (([] : List Int).map i64) (some (H.size + 1)) := Sl.lit_at (size := 1) (n := 0) (xs := []) rfl hz0.symm
  have b1 := fo.own b0 (fun h => h)
  generalize H0.new 3 [] = H1 at *
  refine LoopV.intro (fun m env H' => Fresh H H' ∧ ∃ (j : Nat) (w : Value) (b : Nat), m = es.length - j ∧ j ≤ es.length ∧ H.size ≤ b ∧ Sl H' 1 w (idxA (qT v) 0 (es.take j)).length ((idxA (qT v) 0 (es.take j)).map i64) (some b) ∧
    env = [(1, i64 v), (5, w), (10, .slice a es.length c), (11, i64 es.length), (12, i64 j)]) es.length ⟨f0.trans fo, 0, _, H.size + 1, by omega, by omega, by omega, s0, rfl⟩ ?_
  rintro m env H2 ⟨f2, j, w, b', hmj, hj, hb', s2, rfl⟩
  have h2 := h.fresh f2
  simp (disch := (first | omega | (simp only [size_new, size_newm, size_wr, size_wrm] <;> omega) | fail)) only [go_sem, Nat.reduceBEq, Nat.reduceAdd, Nat.reduceMul, Nat.reduceLeDiff, ↓reduceIte, rd_new_lt, own_new_lt, mp_new_lt, rd_newm_lt, own_newm_lt, mp_newm_lt, rd_wr_ne, own_wr_ne, mp_wr_ne, rd_wrm_ne, own_wrm_ne, mp_wrm_ne, rd_new_eq, own_new_eq, mp_newm_eq]
  refine Both.dec (fun hlt => ?_) (fun hlt => ?_) <;> simp (disch := (first | omega | (simp only [size_new, size_newm, size_wr, size_wrm] <;> omega) | fail)) only [go_sem, Nat.reduceBEq, Nat.reduceAdd, Nat.reduceMul, Nat.reduceLeDiff, ↓reduceIte, rd_new_lt, own_new_lt, mp_new_lt, rd_newm_lt, own_newm_lt, mp_newm_lt, rd_wr_ne, own_wr_ne, mp_wr_ne, rd_wrm_ne, own_wrm_ne, mp_wrm_ne, rd_new_eq, own_new_eq, mp_newm_eq]
  · have hj2 : j < es.length := by omega
    obtain ⟨e, he⟩ : ∃ e, es[j]? = some e := ⟨_, List.getElem?_eq_getElem hj2⟩
    obtain ⟨_, b, o, lb, rfl, hrd, hle, hcells⟩ := RdS.edge h2 he
    refine ⟨⟨by omega, by omega⟩, ?_⟩
    simp (disch := (first | omega | (simp only [size_new, size_newm, size_wr, size_wrm] <;> omega) | fail)) only [go_sem, Nat.reduceBEq, Nat.reduceAdd, Nat.reduceMul, Nat.reduceLeDiff, ↓reduceIte, rd_new_lt, own_new_lt, mp_new_lt, rd_newm_lt, own_newm_lt, mp_newm_lt, rd_wr_ne, own_wr_ne, mp_wr_ne, rd_wrm_ne, own_wrm_ne, mp_wrm_ne, rd_new_eq, own_new_eq, mp_newm_eq, hrd, Int.toNat_natCast, hcells, cellsE]
    refine ⟨by omega, ?_⟩
    have q2 := own_new H2 51 [i64 0, i64 0, i64 0]
    simp (disch := (first | omega | (simp only [size_new, size_newm, size_wr, size_wrm] <;> omega) | fail)) only [go_sem, Nat.reduceBEq, Nat.reduceAdd, Nat.reduceMul, Nat.reduceLeDiff, ↓reduceIte, rd_new_lt, own_new_lt, mp_new_lt, rd_newm_lt, own_newm_lt, mp_newm_lt, rd_wr_ne, own_wr_ne, mp_wr_ne, rd_wrm_ne, own_wrm_ne, mp_wrm_ne, rd_new_eq, own_new_eq, mp_newm_eq, hcells, cellsE, q2]
    have q3 := own_wr_same (l := [i64 e.f, i64 e.t, i64 e.w]) q2
    have f3 : Fresh H2 ((H2.new 51 [i64 0, i64 0, i64 0]).wr H2.size [i64 e.f, i64 e.t, i64 e.w]) := ((Ext.refl _ _).new _ _ : Fresh H2 _).then ((Ext.refl (fun z => z = H2.size) _).wr (fun _ => rfl) _) (fun z hz => by omega)
    generalize (H2.new 51 [i64 0, i64 0, i64 0]).wr H2.size [i64 e.f, i64 e.t, i64 e.w] = H3 at *
    have s3 := s2.ext f3 (fun _ _ h => h)
    have htk := idxA_take (qT v) he
    have hlr := idxA_len (qT v) (es.take j) 0
    rw [List.length_take] at hlr
    have hw1 := wrap64 (n := (j : Int) + 1) (by omega) (by omega)
    have no : qT v e = false → Sl H3 1 w (idxA (qT v) 0 (es.take (j + 1))).length ((idxA (qT v) 0 (es.take (j + 1))).map i64) (some b') := fun hq => by rw [htk, hq]; simpa using s3
    have fl : Fresh H3 (H3.new 3 [i64 j]) := (Ext.refl _ _).new _ _
    have yes : qT v e = true → AppendV 3 1 8 [i64 0] w (.slice (some ⟨H3.size, 0, none⟩) 1 1) (H3.new 3 [i64 j]) fun w' H' => Fresh H H' ∧ ∃ b2, H.size ≤ b2 ∧ Sl H' 1 w' (idxA (qT v) 0 (es.take (j + 1))).length ((idxA (qT v) 0 (es.take (j + 1))).map i64) (some b2) := by
      intro hq
      refine Sl.append (s3.ext fl (fun _ _ h => h)) (Sl.lit_at (size := 1) (n := 1) (xs := [i64 j]) rfl rfl).rd rfl (ones_nums [(j : Int)]) (by omega) ?_
      intro v' H5 fp' s5 e5 hfp
      obtain ⟨b2, rfl, hb2⟩ : ∃ b2, fp' = some b2 ∧ H.size ≤ b2 := by
        rcases hfp with rfl | ⟨b2, rfl, h1, h2⟩
        · exact ⟨b', rfl, hb'⟩
        · exact ⟨b2, rfl, Nat.le_trans ((f2.trans f3).trans fl).size h1⟩
      refine ⟨((f2.trans f3).trans fl).then e5 (fun z (hz : some b' = some z) => by injection hz with hz; omega), b2, hb2, ?_⟩
      rw [htk, hq, if_pos rfl, List.length_append, List.map_append]
      exact s5
    simp (disch := (first | omega | (simp only [size_new, size_newm, size_wr, size_wrm] <;> omega) | fail)) only [go_sem, Nat.reduceBEq, Nat.reduceAdd, Nat.reduceMul, Nat.reduceLeDiff, ↓reduceIte, rd_new_lt, own_new_lt, mp_new_lt, rd_newm_lt, own_newm_lt, mp_newm_lt, rd_wr_ne, own_wr_ne, mp_wr_ne, rd_wrm_ne, own_wrm_ne, mp_wrm_ne, rd_new_eq, own_new_eq, mp_newm_eq, rd_of_own q3]
    refine Both.dec (fun g => ?_) (fun g => ?_) <;> simp (disch := (first | omega | (simp only [size_new, size_newm, size_wr, size_wrm] <;> omega) | fail)) only [go_sem, Nat.reduceBEq, Nat.reduceAdd, Nat.reduceMul, Nat.reduceLeDiff, ↓reduceIte, rd_new_lt, own_new_lt, mp_new_lt, rd_newm_lt, own_newm_lt, mp_newm_lt, rd_wr_ne, own_wr_ne, mp_wr_ne, rd_wrm_ne, own_wrm_ne, mp_wrm_ne, rd_new_eq, own_new_eq, mp_newm_eq, rd_of_own q3]
    · refine AppendV_mono (yes (by unfold qT; rw [decide_eq_true g]; rfl)) ?_
      rintro w' H5 ⟨f5, b2, hb2, s5⟩
      simp (disch := (first | omega | (simp only [size_new, size_newm, size_wr, size_wrm] <;> omega) | fail)) only [go_sem, Nat.reduceBEq, Nat.reduceAdd, Nat.reduceMul, Nat.reduceLeDiff, ↓reduceIte, rd_new_lt, own_new_lt, mp_new_lt, rd_newm_lt, own_newm_lt, mp_newm_lt, rd_wr_ne, own_wr_ne, mp_wr_ne, rd_wrm_ne, own_wrm_ne, mp_wrm_ne, rd_new_eq, own_new_eq, mp_newm_eq]
      rw [hw1]
      exact ⟨es.length - (j + 1), by omega, f5, j + 1, w', b2, rfl, by omega, hb2, s5, rfl⟩
    refine Both.dec (fun g2 => ?_) (fun g2 => ?_) <;> simp (disch := (first | omega | (simp only [size_new, size_newm, size_wr, size_wrm] <;> omega) | fail)) only [go_sem, Nat.reduceBEq, Nat.reduceAdd, Nat.reduceMul, Nat.reduceLeDiff, ↓reduceIte, rd_new_lt, own_new_lt, mp_new_lt, rd_newm_lt, own_newm_lt, mp_newm_lt, rd_wr_ne, own_wr_ne, mp_wr_ne, rd_wrm_ne, own_wrm_ne, mp_wrm_ne, rd_new_eq, own_new_eq, mp_newm_eq]
    · refine AppendV_mono (yes (by unfold qT; rw [decide_eq_true g2, Bool.or_true])) ?_
      rintro w' H5 ⟨f5, b2, hb2, s5⟩
      simp (disch := (first | omega | (simp only [size_new, size_newm, size_wr, size_wrm] <;> omega) | fail)) only [go_sem, Nat.reduceBEq, Nat.reduceAdd, Nat.reduceMul, Nat.reduceLeDiff, ↓reduceIte, rd_new_lt, own_new_lt, mp_new_lt, rd_newm_lt, own_newm_lt, mp_newm_lt, rd_wr_ne, own_wr_ne, mp_wr_ne, rd_wrm_ne, own_wrm_ne, mp_wrm_ne, rd_new_eq, own_new_eq, mp_newm_eq]
      rw [hw1]
      exact ⟨es.length - (j + 1), by omega, f5, j + 1, w', b2, rfl, by omega, hb2, s5, rfl⟩
    · rw [hw1]
      exact ⟨es.length - (j + 1), by omega, f2.trans f3, j + 1, w, b', rfl, by omega, hb', no (by unfold qT; rw [decide_eq_false g, decide_eq_false g2]; rfl), rfl⟩
  · have hj2 : j = es.length := by omega
    subst hj2
    rw [List.take_length] at s2
    exact ⟨f2, b', hb', s2⟩

theorem RdS.num {H : Hp} {a : Option Addr} {n c : Nat} {xs : List Int} (h : RdS H 1 (.slice a n c) n (xs.map i64)) {i : Nat} {x : Int} (hx : xs[i]? = some x) :
    i < n ∧ ∃ b o lb, a = some ⟨b, o, none⟩ ∧ H.rd b = some lb ∧ lb[o + i]? = some (i64 x) := by
  obtain ⟨hl, hv⟩ := h
  rw [List.length_map, Nat.mul_one] at hl
  have hi := (List.getElem?_eq_some_iff.1 hx).1
  refine ⟨by omega, ?_⟩
  rcases hv with ⟨hn, _⟩ | ⟨b, o, c2, l, hs, hrd, hle, ht⟩
  · omega
  · injection hs with hs1 hs2 hs3
    refine ⟨b, o, l, hs1, hrd, ?_⟩
    have h7 : (xs.map i64)[i]? = some (i64 x) := by rw [List.getElem?_map, hx]; rfl
    rw [← ht, List.getElem?_take, if_pos (by omega), List.getElem?_drop] at h7
    exact h7

theorem ref09_Same_spec {H : Hp} {a a' : Option Addr} {c c' : Nat} {xs ys : List Int} (h : RdS H 1 (.slice a xs.length c) xs.length (xs.map i64)) (h' : RdS H 1 (.slice a' ys.length c') ys.length (ys.map i64)) (hm : xs.length ≤ 1000000000000) :
    CallH Tryd.prog n_ref09_Same [.slice a xs.length c, .slice a' ys.length c'] H fun v H' => Post (v = .bool (decide (xs = ys)) ∧ H = H') := by
  refine c_ref09_Same ⟨rfl, ?_⟩
  simp (disch := (first | omega | (simp only [size_new, size_newm, size_wr, size_wrm] <;> omega) | fail)) only [go_sem, Nat.reduceBEq, Nat.reduceAdd, Nat.reduceMul, Nat.reduceLeDiff, ↓reduceIte, rd_new_lt, own_new_lt, mp_new_lt, rd_newm_lt, own_newm_lt, mp_newm_lt, rd_wr_ne, own_wr_ne, mp_wr_ne, rd_wrm_ne, own_wrm_ne, mp_wrm_ne, rd_new_eq, own_new_eq, mp_newm_eq, s_ref09_Same]
  refine Both.dec (fun h2 => ?_) (fun h2 => ?_)
  rotate_left
  · simp (disch := (first | omega | (simp only [size_new, size_newm, size_wr, size_wrm] <;> omega) | fail)) only [go_sem, Nat.reduceBEq, Nat.reduceAdd, Nat.reduceMul, Nat.reduceLeDiff, ↓reduceIte, rd_new_lt, own_new_lt, mp_new_lt, rd_newm_lt, own_newm_lt, mp_newm_lt, rd_wr_ne, own_wr_ne, mp_wr_ne, rd_wrm_ne, own_wrm_ne, mp_wrm_ne, rd_new_eq, own_new_eq, mp_newm_eq]
    exact ⟨by rw [decide_eq_false (p := xs = ys) (fun e => h2 (by rw [e]))]; rfl, rfl⟩
  simp (disch := (first | omega | (simp only [size_new, size_newm, size_wr, size_wrm] <;> omega) | fail)) only [go_sem, Nat.reduceBEq, Nat.reduceAdd, Nat.reduceMul, Nat.reduceLeDiff, ↓reduceIte, rd_new_lt, own_new_lt, mp_new_lt, rd_newm_lt, own_newm_lt, mp_newm_lt, rd_wr_ne, own_wr_ne, mp_wr_ne, rd_wrm_ne, own_wrm_ne, mp_wrm_ne, rd_new_eq, own_new_eq, mp_newm_eq]
  refine LoopV.intro (fun k env H' => H' = H ∧ ∃ j : Nat, k = xs.length - j ∧ j ≤ xs.length ∧ xs.take j = ys.take j ∧ env = [(0, .slice a xs.length c), (1, .slice a' ys.length c'), (12, i64 xs.length), (13, i64 j)]) xs.length ⟨rfl, 0, by omega, by omega, rfl, rfl⟩ ?_
  rintro k env _ ⟨rfl, j, hk, hj, htk, rfl⟩
  simp (disch := (first | omega | (simp only [size_new, size_newm, size_wr, size_wrm] <;> omega) | fail)) only [go_sem, Nat.reduceBEq, Nat.reduceAdd, Nat.reduceMul, Nat.reduceLeDiff, ↓reduceIte, rd_new_lt, own_new_lt, mp_new_lt, rd_newm_lt, own_newm_lt, mp_newm_lt, rd_wr_ne, own_wr_ne, mp_wr_ne, rd_wrm_ne, own_wrm_ne, mp_wrm_ne, rd_new_eq, own_new_eq, mp_newm_eq]
  refine Both.dec (fun hlt => ?_) (fun hlt => ?_) <;> simp (disch := (first | omega | (simp only [size_new, size_newm, size_wr, size_wrm] <;> omega) | fail)) only [go_sem, Nat.reduceBEq, Nat.reduceAdd, Nat.reduceMul, Nat.reduceLeDiff, ↓reduceIte, rd_new_lt, own_new_lt, mp_new_lt, rd_newm_lt, own_newm_lt, mp_newm_lt, rd_wr_ne, own_wr_ne, mp_wr_ne, rd_wrm_ne, own_wrm_ne, mp_wrm_ne, rd_new_eq, own_new_eq, mp_newm_eq]
  · have hj2 : j < xs.length := by omega
    obtain ⟨x, hx⟩ : ∃ e, xs[j]? = some e := ⟨_, List.getElem?_eq_getElem hj2⟩
    obtain ⟨y, hy⟩ : ∃ e, ys[j]? = some e := ⟨_, List.getElem?_eq_getElem (by omega)⟩
    obtain ⟨_, b, o, lb, rfl, hrd, hcell⟩ := RdS.num h hx
    obtain ⟨_, b', o', lb', rfl, hrd', hcell'⟩ := RdS.num h' hy
    refine ⟨⟨by omega, by omega⟩, ?_⟩
    simp (disch := (first | omega | (simp only [size_new, size_newm, size_wr, size_wrm] <;> omega) | fail)) only [go_sem, Nat.reduceBEq, Nat.reduceAdd, Nat.reduceMul, Nat.reduceLeDiff, ↓reduceIte, rd_new_lt, own_new_lt, mp_new_lt, rd_newm_lt, own_newm_lt, mp_newm_lt, rd_wr_ne, own_wr_ne, mp_wr_ne, rd_wrm_ne, own_wrm_ne, mp_wrm_ne, rd_new_eq, own_new_eq, mp_newm_eq, hrd, Int.toNat_natCast, Nat.mul_one, hcell]
    refine ⟨⟨by omega, by omega⟩, ?_⟩
    simp (disch := (first | omega | (simp only [size_new, size_newm, size_wr, size_wrm] <;> omega) | fail)) only [go_sem, Nat.reduceBEq, Nat.reduceAdd, Nat.reduceMul, Nat.reduceLeDiff, ↓reduceIte, rd_new_lt, own_new_lt, mp_new_lt, rd_newm_lt, own_newm_lt, mp_newm_lt, rd_wr_ne, own_wr_ne, mp_wr_ne, rd_wrm_ne, own_wrm_ne, mp_wrm_ne, rd_new_eq, own_new_eq, mp_newm_eq, hrd', Int.toNat_natCast, Nat.mul_one, hcell']
    refine Both.dec (fun h3 => ?_) (fun h3 => ?_) <;> simp (disch := (first | omega | (simp only [size_new, size_newm, size_wr, size_wrm] <;> omega) | fail)) only [go_sem, Nat.reduceBEq, Nat.reduceAdd, Nat.reduceMul, Nat.reduceLeDiff, ↓reduceIte, rd_new_lt, own_new_lt, mp_new_lt, rd_newm_lt, own_newm_lt, mp_newm_lt, rd_wr_ne, own_wr_ne, mp_wr_ne, rd_wrm_ne, own_wrm_ne, mp_wrm_ne, rd_new_eq, own_new_eq, mp_newm_eq]
    · rw [wrap64 (n := (j : Int) + 1) (by omega) (by omega)]
      exact ⟨xs.length - (j + 1), by omega, trivial, j + 1, rfl, by omega, by rw [List.take_add_one, List.take_add_one, hx, hy, htk, h3], rfl⟩
    · refine ⟨?_, rfl⟩
      rw [decide_eq_false (fun e2 => h3 (by rw [e2, hy] at hx; injection hx with hx; exact hx.symm))]
      rfl
  · have hj2 : j = xs.length := by omega
    subst hj2
    rw [List.take_length, List.take_of_length_le (by omega)] at htk
    exact ⟨by rw [decide_eq_true htk]; rfl, rfl⟩

end Go.Proofs.YtkcpoiploighiaaDoor
