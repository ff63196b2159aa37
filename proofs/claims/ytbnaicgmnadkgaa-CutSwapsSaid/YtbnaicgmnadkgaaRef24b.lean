/-
  The document's forests.
-/
import Derived.Test.YtbnaicgmnadkgaaRef24
import Derived.Test.YtbnaicgmnadkgaaSub
import Derived.Test.YtbnaicgmnadkgaaSumsR
import Derived.Test.YtbnaicgmnadkgaaSumV
set_option linter.unusedVariables false
set_option linter.unusedSimpArgs false
namespace Go.Proofs.Ytbnaicgmnadkgaa
open Go Go.Vc

theorem partF_out {n : Nat} : ∀ ks : List E2, (∀ e ∈ ks, e.1 < n ∧ e.2 < n) → ∀ v, n ≤ v → partF ks v = v := by
  refine snocInd (fun _ v _ => rfl) fun ks e ih hb v hv => ?_
  have h1 := ih fun x hx => hb x (List.mem_append_left _ hx)
  obtain ⟨h2, h3⟩ := hb e (by simp)
  rw [partF_snoc]
  unfold joinF
  have := partF_le ks e.1
  have := partF_le ks e.2
  rw [h1 v hv, if_neg (by omega)]

theorem span_parts {n : Int} {es : List Ed} {ks : List Int} (hr : RightG n es) (hk : ∀ i ∈ ks, InE es i) (ha : Acyc (ks.map (fE es))) :
    SpanG n es ks ↔ ∀ v, v < n.toNat → partF (ks.map (fE es)) v = partF ((allI es.length).map (fE es)) v := by
  constructor
  · intro h v _
    rw [partF_eq h.iff]
  · intro h
    refine ⟨hk, ha, fun u v => ?_⟩
    have hb1 : ∀ e ∈ ks.map (fE es), e.1 < n.toNat ∧ e.2 < n.toNat := fun e he => by
      obtain ⟨i, hi, rfl⟩ := List.mem_map.1 he
      exact ends_lt hr (hk i hi)
    have hb2 : ∀ e ∈ (allI es.length).map (fE es), e.1 < n.toNat ∧ e.2 < n.toNat := fun e he => by
      obtain ⟨i, hi, rfl⟩ := List.mem_map.1 he
      exact ends_lt hr (all_in.1 hi)
    have he : ∀ x, partF (ks.map (fE es)) x = partF ((allI es.length).map (fE es)) x := fun x => by
      by_cases hx : x < n.toNat
      · exact h x hx
      · rw [partF_out _ hb1 x (by omega), partF_out _ hb2 x (by omega)]
    unfold Hang
    rw [he u, he v]
    exact id

theorem ref24_All_spec {H : Hp} {n : Int} {a : Option Addr} {c k : Nat} (hl : k ≤ 1000000000) :
    CallH Try.prog n_ref24_All [grV n (.slice a k c)] H fun v H' => Post (Fresh H H' ∧ ∃ b, H.size ≤ b ∧ Sl H' 1 v (allI k).length ((allI k).map i64) (some b)) := by
  refine c_ref24_All ⟨rfl, ?_⟩
  have f0 : Fresh H (H.new 24 [i64 n, .slice a k c]) := (Ext.refl _ _).new _ _
  have hz0 : (H.new 24 [i64 n, .slice a k c]).size = H.size + 1 := by rw [size_new]
  simp (disch := (first | omega | (simp only [size_new, size_newm, size_wr, size_wrm] <;> omega) | fail)) only [go_sem, Nat.reduceBEq, Nat.reduceAdd, Nat.reduceMul, Nat.reduceLeDiff, ↓reduceIte, rd_new_lt, own_new_lt, mp_new_lt, rd_newm_lt, own_newm_lt, mp_newm_lt, rd_wr_ne, own_wr_ne, mp_wr_ne, rd_wrm_ne, own_wrm_ne, mp_wrm_ne, rd_new_eq, own_new_eq, mp_newm_eq, s_ref24_All, grV]
  generalize H.new 24 [i64 n, .slice a k c] = H0 at *
  have fo : Fresh H0 (H0.new 3 []) := (Ext.refl _ _).new _ _
  have s0 : Sl (H0.new 3 []) 1 (.slice (some ⟨H.size + 1, 0, none⟩) 0 0) (allI 0).length ((allI 0).map i64) (some (H.size + 1)) := Sl.lit_at (size := 1) (n := 0) (xs := []) rfl hz0.symm
  generalize H0.new 3 [] = H1 at *
  refine LoopV.intro (fun m env H' => Fresh H H' ∧ ∃ (j : Nat) (w : Value) (b : Nat), m = k - j ∧ j ≤ k ∧ H.size ≤ b ∧ Sl H' 1 w (allI j).length ((allI j).map i64) (some b) ∧
    env = [(3, w), (8, i64 k), (9, i64 j)]) k ⟨f0.trans fo, 0, _, H.size + 1, by omega, by omega, by omega, s0, rfl⟩ ?_
  rintro m env H2 ⟨f2, j, w, b, hm, hj, hb, s2, rfl⟩
  simp (disch := (first | omega | (simp only [size_new, size_newm, size_wr, size_wrm] <;> omega) | fail)) only [go_sem, Nat.reduceBEq, Nat.reduceAdd, Nat.reduceMul, Nat.reduceLeDiff, ↓reduceIte, rd_new_lt, own_new_lt, mp_new_lt, rd_newm_lt, own_newm_lt, mp_newm_lt, rd_wr_ne, own_wr_ne, mp_wr_ne, rd_wrm_ne, own_wrm_ne, mp_wrm_ne, rd_new_eq, own_new_eq, mp_newm_eq]
  refine Both.dec (fun hlt => ?_) (fun hlt => ?_) <;> simp (disch := (first | omega | (simp only [size_new, size_newm, size_wr, size_wrm] <;> omega) | fail)) only [go_sem, Nat.reduceBEq, Nat.reduceAdd, Nat.reduceMul, Nat.reduceLeDiff, ↓reduceIte, rd_new_lt, own_new_lt, mp_new_lt, rd_newm_lt, own_newm_lt, mp_newm_lt, rd_wr_ne, own_wr_ne, mp_wr_ne, rd_wrm_ne, own_wrm_ne, mp_wrm_ne, rd_new_eq, own_new_eq, mp_newm_eq]
  · refine pushS (B := H.size) hb f2.size s2 _ (by rw [allI_len]; omega) ?_
    intro w' H' b' hb' s' e'
    rw [← allI_succ] at s'
    simp (disch := (first | omega | (simp only [size_new, size_newm, size_wr, size_wrm] <;> omega) | fail)) only [go_sem, Nat.reduceBEq, Nat.reduceAdd, Nat.reduceMul, Nat.reduceLeDiff, ↓reduceIte, rd_new_lt, own_new_lt, mp_new_lt, rd_newm_lt, own_newm_lt, mp_newm_lt, rd_wr_ne, own_wr_ne, mp_wr_ne, rd_wrm_ne, own_wrm_ne, mp_wrm_ne, rd_new_eq, own_new_eq, mp_newm_eq]
    rw [wrap64 (n := (j : Int) + 1) (by omega) (by omega)]
    exact ⟨k - (j + 1), by omega, f2.then e' (fun z hz => hz), j + 1, w', b', rfl, by omega, hb', s', rfl⟩
  · have hj2 : j = k := by omega
    subst hj2
    exact ⟨f2, b, hb, s2⟩

set_option maxHeartbeats 4000000 in
theorem ref24_Forest_spec {H : Hp} {n : Int} {a a' : Option Addr} {c c' : Nat} {es : List Ed} {ks : List Int} (h : RdS H 3 (.slice a es.length c) es.length (flatE es)) (h' : RdS H 1 (.slice a' ks.length c') ks.length (ks.map i64)) (hc' : ks.length ≤ c')
    (hr : RightG n es) (hl : ks.length ≤ 1000000000) :
    CallH Try.prog n_ref24_Forest [grV n (.slice a es.length c), .slice a' ks.length c'] H fun v H' => Post (Fresh H H' ∧ ∃ b, v = .bool b ∧ (b = true ↔ SpanG n es ks)) := by
  refine c_ref24_Forest ⟨rfl, ?_⟩
  have f0 : Fresh H (H.new 24 [i64 n, .slice a es.length c]) := (Ext.refl _ _).new _ _
  have b0 := own_new H 24 [i64 n, .slice a es.length c]
  have hz0 : (H.new 24 [i64 n, .slice a es.length c]).size = H.size + 1 := by rw [size_new]
  simp (disch := (first | omega | (simp only [size_new, size_newm, size_wr, size_wrm] <;> omega) | fail)) only [go_sem, Nat.reduceBEq, Nat.reduceAdd, Nat.reduceMul, Nat.reduceLeDiff, ↓reduceIte, rd_new_lt, own_new_lt, mp_new_lt, rd_newm_lt, own_newm_lt, mp_newm_lt, rd_wr_ne, own_wr_ne, mp_wr_ne, rd_wrm_ne, own_wrm_ne, mp_wrm_ne, rd_new_eq, own_new_eq, mp_newm_eq, s_ref24_Forest, grV]
  generalize H.new 24 [i64 n, .slice a es.length c] = H0 at *
  have hel := hr.len
  refine LoopV.intro (fun m env H' => Fresh H H' ∧ H'.own H.size = some [i64 n, .slice a es.length c] ∧ ∃ (k : Nat), m = ks.length - k ∧ k ≤ ks.length ∧ (∀ i ∈ ks.take k, InE es i) ∧ Acyc ((ks.take k).map (fE es)) ∧
    env = [(1, .slice a' ks.length c'), (2, ptr H.size), (12, .slice a' ks.length c'), (13, i64 ks.length), (14, i64 k)]) ks.length ⟨f0, b0, 0, by omega, by omega, by simp, .nil, rfl⟩ ?_
  rintro m env H3 ⟨f3, b3, k, hm, hkl, hin, hac, rfl⟩
  have hz3 := own_lt b3
  have h3 := h.fresh f3
  have h3' := h'.fresh f3
  simp (disch := (first | omega | (simp only [size_new, size_newm, size_wr, size_wrm] <;> omega) | fail)) only [go_sem, Nat.reduceBEq, Nat.reduceAdd, Nat.reduceMul, Nat.reduceLeDiff, ↓reduceIte, rd_new_lt, own_new_lt, mp_new_lt, rd_newm_lt, own_newm_lt, mp_newm_lt, rd_wr_ne, own_wr_ne, mp_wr_ne, rd_wrm_ne, own_wrm_ne, mp_wrm_ne, rd_new_eq, own_new_eq, mp_newm_eq]
  refine Both.dec (fun hlt => ?_) (fun hlt => ?_) <;> simp (disch := (first | omega | (simp only [size_new, size_newm, size_wr, size_wrm] <;> omega) | fail)) only [go_sem, Nat.reduceBEq, Nat.reduceAdd, Nat.reduceMul, Nat.reduceLeDiff, ↓reduceIte, rd_new_lt, own_new_lt, mp_new_lt, rd_newm_lt, own_newm_lt, mp_newm_lt, rd_wr_ne, own_wr_ne, mp_wr_ne, rd_wrm_ne, own_wrm_ne, mp_wrm_ne, rd_new_eq, own_new_eq, mp_newm_eq]
  · obtain ⟨i, hi⟩ : ∃ x, ks[k]? = some x := ⟨_, List.getElem?_eq_getElem (by omega)⟩
    obtain ⟨_, bx, o, lb, rfl, hrd, hcell⟩ := RdS.num h3' hi
    have hmem := List.mem_of_getElem? hi
    refine ⟨⟨by omega, by omega⟩, ?_⟩
    simp (disch := (first | omega | (simp only [size_new, size_newm, size_wr, size_wrm] <;> omega) | fail)) only [go_sem, Nat.reduceBEq, Nat.reduceAdd, Nat.reduceMul, Nat.reduceLeDiff, ↓reduceIte, rd_new_lt, own_new_lt, mp_new_lt, rd_newm_lt, own_newm_lt, mp_newm_lt, rd_wr_ne, own_wr_ne, mp_wr_ne, rd_wrm_ne, own_wrm_ne, mp_wrm_ne, rd_new_eq, own_new_eq, mp_newm_eq, hrd, Int.toNat_natCast, Nat.mul_one, hcell]
    refine Both.dec (fun g1 => ?_) (fun g1 => ?_) <;> simp (disch := (first | omega | (simp only [size_new, size_newm, size_wr, size_wrm] <;> omega) | fail)) only [go_sem, Nat.reduceBEq, Nat.reduceAdd, Nat.reduceMul, Nat.reduceLeDiff, ↓reduceIte, rd_new_lt, own_new_lt, mp_new_lt, rd_newm_lt, own_newm_lt, mp_newm_lt, rd_wr_ne, own_wr_ne, mp_wr_ne, rd_wrm_ne, own_wrm_ne, mp_wrm_ne, rd_new_eq, own_new_eq, mp_newm_eq, rd_of_own b3]
    · exact ⟨f3, false, rfl, iff_of_false (by simp) fun hs => by have := (hs.ins i hmem).1; omega⟩
    refine Both.dec (fun g2 => ?_) (fun g2 => ?_) <;> simp (disch := (first | omega | (simp only [size_new, size_newm, size_wr, size_wrm] <;> omega) | fail)) only [go_sem, Nat.reduceBEq, Nat.reduceAdd, Nat.reduceMul, Nat.reduceLeDiff, ↓reduceIte, rd_new_lt, own_new_lt, mp_new_lt, rd_newm_lt, own_newm_lt, mp_newm_lt, rd_wr_ne, own_wr_ne, mp_wr_ne, rd_wrm_ne, own_wrm_ne, mp_wrm_ne, rd_new_eq, own_new_eq, mp_newm_eq, rd_of_own b3]
    · exact ⟨f3, false, rfl, iff_of_false (by simp) fun hs => by have := (hs.ins i hmem).2; omega⟩
    have hIn : InE es i := ⟨by omega, by omega⟩
    obtain ⟨ik, e, rfl, he, hik⟩ := hIn.get
    obtain ⟨ef0, ef1, et0, et1⟩ := hr.ends e (List.mem_of_getElem? he)
    obtain ⟨_, be, oe, le, rfl, hrde, hle, hcells, hc0, hc1, hc2⟩ := RdS.edgeAt h3 he
    obtain ⟨a2, hv2, hr2, hc2', hl2⟩ := slc_ints h3' (lo := 0) (hi := k) (lo' := ((0 : Nat) : Int)) (hi' := (k : Int)) rfl rfl (by omega) (by omega) hc'
    rw [List.drop_zero, Nat.sub_zero] at hr2 hl2
    refine ⟨⟨by omega, by omega, by omega, by omega⟩, ?_⟩
    simp (disch := (first | omega | (simp only [size_new, size_newm, size_wr, size_wrm] <;> omega) | fail)) only [go_sem, Nat.reduceBEq, Nat.reduceAdd, Nat.reduceMul, Nat.reduceLeDiff, ↓reduceIte, rd_new_lt, own_new_lt, mp_new_lt, rd_newm_lt, own_newm_lt, mp_newm_lt, rd_wr_ne, own_wr_ne, mp_wr_ne, rd_wrm_ne, own_wrm_ne, mp_wrm_ne, rd_new_eq, own_new_eq, mp_newm_eq]
    rw [hv2]
    have hsp := ref24_Parts_spec (ks := ks.take k) (a' := a2) (c' := c' - 0) h3 (by rw [hl2]; exact hr2) hr hin (by omega)
    rw [hl2] at hsp
    refine hsp.mono ?_
    rintro u H4 ⟨f4, bu, hbu, s4⟩
    have b4 := f4.own b3 (fun h => h)
    have h4 := h3.fresh f4
    obtain ⟨_, be4, oe4, le4, hae4, hrde4, hle4, hcells4, hd0, hd1, hd2⟩ := RdS.edgeAt h4 he
    injection hae4 with hae4
    injection hae4 with hae4 hoe4
    subst hae4; subst hoe4
    obtain ⟨wa, wc, rfl, _⟩ := slv_val s4
    obtain ⟨_, rfl, lw, how, hw1⟩ := Sl.num s4 (partL_get ((ks.take k).map (fE es)) (v := e.f.toNat) (by omega))
    obtain ⟨_, _, lw', how', hw2⟩ := Sl.num s4 (partL_get ((ks.take k).map (fE es)) (v := e.t.toNat) (by omega))
    rw [how] at how'
    injection how' with how'
    subst how'
    simp (disch := (first | omega | (simp only [size_new, size_newm, size_wr, size_wrm] <;> omega) | fail)) only [go_sem, Nat.reduceBEq, Nat.reduceAdd, Nat.reduceMul, Nat.reduceLeDiff, ↓reduceIte, rd_new_lt, own_new_lt, mp_new_lt, rd_newm_lt, own_newm_lt, mp_newm_lt, rd_wr_ne, own_wr_ne, mp_wr_ne, rd_wrm_ne, own_wrm_ne, mp_wrm_ne, rd_new_eq, own_new_eq, mp_newm_eq, rd_of_own b4]
    refine ⟨⟨by omega, by omega⟩, ?_⟩
    simp (disch := (first | omega | (simp only [size_new, size_newm, size_wr, size_wrm] <;> omega) | fail)) only [go_sem, Nat.reduceBEq, Nat.reduceAdd, Nat.reduceMul, Nat.reduceLeDiff, ↓reduceIte, rd_new_lt, own_new_lt, mp_new_lt, rd_newm_lt, own_newm_lt, mp_newm_lt, rd_wr_ne, own_wr_ne, mp_wr_ne, rd_wrm_ne, own_wrm_ne, mp_wrm_ne, rd_new_eq, own_new_eq, mp_newm_eq, hrde4, Int.toNat_natCast, hcells4, cellsE]
    refine ⟨by omega, ?_⟩
    have q2 := own_new H4 35 [i64 0, i64 0, i64 0]
    simp (disch := (first | omega | (simp only [size_new, size_newm, size_wr, size_wrm] <;> omega) | fail)) only [go_sem, Nat.reduceBEq, Nat.reduceAdd, Nat.reduceMul, Nat.reduceLeDiff, ↓reduceIte, rd_new_lt, own_new_lt, mp_new_lt, rd_newm_lt, own_newm_lt, mp_newm_lt, rd_wr_ne, own_wr_ne, mp_wr_ne, rd_wrm_ne, own_wrm_ne, mp_wrm_ne, rd_new_eq, own_new_eq, mp_newm_eq, hcells4, cellsE, q2]
    have q3 := own_wr_same (l := [i64 e.f, i64 e.t, i64 e.w]) q2
    have f5 : Fresh H4 ((H4.new 35 [i64 0, i64 0, i64 0]).wr H4.size [i64 e.f, i64 e.t, i64 e.w]) := ((Ext.refl _ _).new _ _ : Fresh H4 _).then ((Ext.refl (fun z => z = H4.size) _).wr (fun _ => rfl) _) (fun z hz => by omega)
    generalize (H4.new 35 [i64 0, i64 0, i64 0]).wr H4.size [i64 e.f, i64 e.t, i64 e.w] = H5 at *
    have how5 := f5.own how (fun h => h)
    simp (disch := (first | omega | (simp only [size_new, size_newm, size_wr, size_wrm] <;> omega) | fail)) only [go_sem, Nat.reduceBEq, Nat.reduceAdd, Nat.reduceMul, Nat.reduceLeDiff, ↓reduceIte, rd_new_lt, own_new_lt, mp_new_lt, rd_newm_lt, own_newm_lt, mp_newm_lt, rd_wr_ne, own_wr_ne, mp_wr_ne, rd_wrm_ne, own_wrm_ne, mp_wrm_ne, rd_new_eq, own_new_eq, mp_newm_eq, rd_of_own q3]
    refine ⟨⟨by omega, by omega⟩, ?_⟩
    simp (disch := (first | omega | (simp only [size_new, size_newm, size_wr, size_wrm] <;> omega) | fail)) only [go_sem, Nat.reduceBEq, Nat.reduceAdd, Nat.reduceMul, Nat.reduceLeDiff, ↓reduceIte, rd_new_lt, own_new_lt, mp_new_lt, rd_newm_lt, own_newm_lt, mp_newm_lt, rd_wr_ne, own_wr_ne, mp_wr_ne, rd_wrm_ne, own_wrm_ne, mp_wrm_ne, rd_new_eq, own_new_eq, mp_newm_eq, rd_of_own how5, Nat.mul_one, Nat.zero_add, hw1, rd_of_own q3]
    refine ⟨⟨by omega, by omega⟩, ?_⟩
    simp (disch := (first | omega | (simp only [size_new, size_newm, size_wr, size_wrm] <;> omega) | fail)) only [go_sem, Nat.reduceBEq, Nat.reduceAdd, Nat.reduceMul, Nat.reduceLeDiff, ↓reduceIte, rd_new_lt, own_new_lt, mp_new_lt, rd_newm_lt, own_newm_lt, mp_newm_lt, rd_wr_ne, own_wr_ne, mp_wr_ne, rd_wrm_ne, own_wrm_ne, mp_wrm_ne, rd_new_eq, own_new_eq, mp_newm_eq, rd_of_own how5, Nat.mul_one, Nat.zero_add, hw2]
    have htk1 : ks.take (k + 1) = ks.take k ++ [(ik : Int)] := by rw [List.take_add_one, hi]; rfl
    have f35 := f3.trans (f4.trans f5)
    refine Both.dec (fun g3 => ?_) (fun g3 => ?_) <;> simp (disch := (first | omega | (simp only [size_new, size_newm, size_wr, size_wrm] <;> omega) | fail)) only [go_sem, Nat.reduceBEq, Nat.reduceAdd, Nat.reduceMul, Nat.reduceLeDiff, ↓reduceIte, rd_new_lt, own_new_lt, mp_new_lt, rd_newm_lt, own_newm_lt, mp_newm_lt, rd_wr_ne, own_wr_ne, mp_wr_ne, rd_wrm_ne, own_wrm_ne, mp_wrm_ne, rd_new_eq, own_new_eq, mp_newm_eq]
    · refine ⟨f35, false, rfl, iff_of_false (by simp) fun hs => ?_⟩
      have hac2 : Acyc ((ks.take (k + 1)).map (fE es)) := acyc_sub hs.acyc ((List.take_sublist _ _).map _)
      rw [htk1, List.map_append, List.map_singleton, acyc_snoc, fE_at he] at hac2
      exact hac2.2 (by show partF _ _ = partF _ _; simp only; omega)
    · rw [wrap64 (n := (k : Int) + 1) (by omega) (by omega)]
      refine ⟨ks.length - (k + 1), by omega, f35, f5.own b4 (fun h => h), k + 1, rfl, by omega, fun i hi' => ?_, ?_, rfl⟩
      · rw [htk1] at hi'
        rcases List.mem_append.1 hi' with hi' | hi'
        · exact hin i hi'
        · rw [List.mem_singleton.1 hi']; exact hIn
      · rw [htk1, List.map_append, List.map_singleton, acyc_snoc]
        refine ⟨hac, fun hh => g3 ?_⟩
        rw [fE_at he] at hh
        have : partF ((ks.take k).map (fE es)) e.f.toNat = partF ((ks.take k).map (fE es)) e.t.toNat := hh
        rw [this]
  · have hk2 : k = ks.length := by omega
    subst hk2
    rw [List.take_length] at hin hac
    have hsp := span_parts hr hin hac
    simp (disch := (first | omega | (simp only [size_new, size_newm, size_wr, size_wrm] <;> omega) | fail)) only [go_sem, Nat.reduceBEq, Nat.reduceAdd, Nat.reduceMul, Nat.reduceLeDiff, ↓reduceIte, rd_new_lt, own_new_lt, mp_new_lt, rd_newm_lt, own_newm_lt, mp_newm_lt, rd_wr_ne, own_wr_ne, mp_wr_ne, rd_wrm_ne, own_wrm_ne, mp_wrm_ne, rd_new_eq, own_new_eq, mp_newm_eq, rd_of_own b3]
    refine (ref24_Parts_spec h3 h3' hr hin hl).mono ?_
    rintro u H4 ⟨f4, bu, hbu, s4⟩
    have b4 := f4.own b3 (fun h => h)
    obtain ⟨wa, wc, rfl, _⟩ := slv_val s4
    simp (disch := (first | omega | (simp only [size_new, size_newm, size_wr, size_wrm] <;> omega) | fail)) only [go_sem, Nat.reduceBEq, Nat.reduceAdd, Nat.reduceMul, Nat.reduceLeDiff, ↓reduceIte, rd_new_lt, own_new_lt, mp_new_lt, rd_newm_lt, own_newm_lt, mp_newm_lt, rd_wr_ne, own_wr_ne, mp_wr_ne, rd_wrm_ne, own_wrm_ne, mp_wrm_ne, rd_new_eq, own_new_eq, mp_newm_eq]
    refine InvV.intro (fun H' => H'.own H.size = some [i64 n, .slice a es.length c]) b4 ?_
    simp (disch := (first | omega | (simp only [size_new, size_newm, size_wr, size_wrm] <;> omega) | fail)) only [go_sem, Nat.reduceBEq, Nat.reduceAdd, Nat.reduceMul, Nat.reduceLeDiff, ↓reduceIte, rd_new_lt, own_new_lt, mp_new_lt, rd_newm_lt, own_newm_lt, mp_newm_lt, rd_wr_ne, own_wr_ne, mp_wr_ne, rd_wrm_ne, own_wrm_ne, mp_wrm_ne, rd_new_eq, own_new_eq, mp_newm_eq]
    refine StbV.intro (grV n (.slice a es.length c)) (fun H' hI => by simp (disch := (first | omega | (simp only [size_new, size_newm, size_wr, size_wrm] <;> omega) | fail)) only [go_sem, Nat.reduceBEq, Nat.reduceAdd, Nat.reduceMul, Nat.reduceLeDiff, ↓reduceIte, rd_new_lt, own_new_lt, mp_new_lt, rd_newm_lt, own_newm_lt, mp_newm_lt, rd_wr_ne, own_wr_ne, mp_wr_ne, rd_wrm_ne, own_wrm_ne, mp_wrm_ne, rd_new_eq, own_new_eq, mp_newm_eq, rd_of_own hI]; exact ⟨rfl, trivial⟩) ?_
    simp (disch := (first | omega | (simp only [size_new, size_newm, size_wr, size_wrm] <;> omega) | fail)) only [go_sem, Nat.reduceBEq, Nat.reduceAdd, Nat.reduceMul, Nat.reduceLeDiff, ↓reduceIte, rd_new_lt, own_new_lt, mp_new_lt, rd_newm_lt, own_newm_lt, mp_newm_lt, rd_wr_ne, own_wr_ne, mp_wr_ne, rd_wrm_ne, own_wrm_ne, mp_wrm_ne, rd_new_eq, own_new_eq, mp_newm_eq, rd_of_own b4]
    refine And.intro b4 ?_
    simp (disch := (first | omega | (simp only [size_new, size_newm, size_wr, size_wrm] <;> omega) | fail)) only [go_sem, Nat.reduceBEq, Nat.reduceAdd, Nat.reduceMul, Nat.reduceLeDiff, ↓reduceIte, rd_new_lt, own_new_lt, mp_new_lt, rd_newm_lt, own_newm_lt, mp_newm_lt, rd_wr_ne, own_wr_ne, mp_wr_ne, rd_wrm_ne, own_wrm_ne, mp_wrm_ne, rd_new_eq, own_new_eq, mp_newm_eq]
    refine (ref24_All_spec (n := n) (a := a) (c := c) (k := es.length) (by omega)).mono ?_
    rintro v5 H5 ⟨f5, b5', hb5, s5⟩
    have b5 := f5.own b4 (fun h => h)
    obtain ⟨va, vc', rfl, _⟩ := slv_val s5
    refine And.intro b5 ?_
    simp (disch := (first | omega | (simp only [size_new, size_newm, size_wr, size_wrm] <;> omega) | fail)) only [go_sem, Nat.reduceBEq, Nat.reduceAdd, Nat.reduceMul, Nat.reduceLeDiff, ↓reduceIte, rd_new_lt, own_new_lt, mp_new_lt, rd_newm_lt, own_newm_lt, mp_newm_lt, rd_wr_ne, own_wr_ne, mp_wr_ne, rd_wrm_ne, own_wrm_ne, mp_wrm_ne, rd_new_eq, own_new_eq, mp_newm_eq]
    refine (ref24_Parts_spec ((h3.fresh f4).fresh f5) s5.rd hr (fun i hi => all_in.1 hi) (by rw [allI_len]; omega)).mono ?_
    rintro v6 H6 ⟨f6, b6', hb6, s6⟩
    obtain ⟨xa, xc, rfl, _⟩ := slv_val s6
    refine And.intro (f6.own b5 (fun h => h)) ?_
    simp (disch := (first | omega | (simp only [size_new, size_newm, size_wr, size_wrm] <;> omega) | fail)) only [go_sem, Nat.reduceBEq, Nat.reduceAdd, Nat.reduceMul, Nat.reduceLeDiff, ↓reduceIte, rd_new_lt, own_new_lt, mp_new_lt, rd_newm_lt, own_newm_lt, mp_newm_lt, rd_wr_ne, own_wr_ne, mp_wr_ne, rd_wrm_ne, own_wrm_ne, mp_wrm_ne, rd_new_eq, own_new_eq, mp_newm_eq]
    have s46 := s4.ext (f5.trans f6) (fun _ _ h => h)
    have f36 := f3.trans (f4.trans (f5.trans f6))
    have hp1 := partL_len n.toNat (ks.map (fE es))
    have hp2 := partL_len n.toNat ((allI es.length).map (fE es))
    have hn0 := hr.n0
    have hn1 := hr.n1
    refine LoopV.intro (fun m env H' => H' = H6 ∧ ∃ (j : Nat), m = n.toNat - j ∧ j ≤ n.toNat ∧ (∀ v, v < j → partF (ks.map (fE es)) v = partF ((allI es.length).map (fE es)) v) ∧
      env = [(9, .slice wa n.toNat wc), (56, .slice xa n.toNat xc), (57, i64 n.toNat), (58, i64 j)]) n.toNat ⟨rfl, 0, by omega, by omega, by omega, rfl⟩ ?_
    rintro m env _ ⟨rfl, j, hmj, hj, hall, rfl⟩
    simp (disch := (first | omega | (simp only [size_new, size_newm, size_wr, size_wrm] <;> omega) | fail)) only [go_sem, Nat.reduceBEq, Nat.reduceAdd, Nat.reduceMul, Nat.reduceLeDiff, ↓reduceIte, rd_new_lt, own_new_lt, mp_new_lt, rd_newm_lt, own_newm_lt, mp_newm_lt, rd_wr_ne, own_wr_ne, mp_wr_ne, rd_wrm_ne, own_wrm_ne, mp_wrm_ne, rd_new_eq, own_new_eq, mp_newm_eq]
    refine Both.dec (fun hlt2 => ?_) (fun hlt2 => ?_) <;> simp (disch := (first | omega | (simp only [size_new, size_newm, size_wr, size_wrm] <;> omega) | fail)) only [go_sem, Nat.reduceBEq, Nat.reduceAdd, Nat.reduceMul, Nat.reduceLeDiff, ↓reduceIte, rd_new_lt, own_new_lt, mp_new_lt, rd_newm_lt, own_newm_lt, mp_newm_lt, rd_wr_ne, own_wr_ne, mp_wr_ne, rd_wrm_ne, own_wrm_ne, mp_wrm_ne, rd_new_eq, own_new_eq, mp_newm_eq]
    · have hjn : j < n.toNat := by omega
      obtain ⟨_, rfl, l1, ho1, hx1⟩ := Sl.num s46 (partL_get (ks.map (fE es)) hjn)
      obtain ⟨_, rfl, l2, ho2, hx2⟩ := Sl.num s6 (partL_get ((allI es.length).map (fE es)) hjn)
      refine ⟨⟨by omega, by omega⟩, ?_⟩
      simp (disch := (first | omega | (simp only [size_new, size_newm, size_wr, size_wrm] <;> omega) | fail)) only [go_sem, Nat.reduceBEq, Nat.reduceAdd, Nat.reduceMul, Nat.reduceLeDiff, ↓reduceIte, rd_new_lt, own_new_lt, mp_new_lt, rd_newm_lt, own_newm_lt, mp_newm_lt, rd_wr_ne, own_wr_ne, mp_wr_ne, rd_wrm_ne, own_wrm_ne, mp_wrm_ne, rd_new_eq, own_new_eq, mp_newm_eq, rd_of_own ho2, Int.toNat_natCast, Nat.mul_one, Nat.zero_add, hx2]
      refine ⟨⟨by omega, by omega⟩, ?_⟩
      simp (disch := (first | omega | (simp only [size_new, size_newm, size_wr, size_wrm] <;> omega) | fail)) only [go_sem, Nat.reduceBEq, Nat.reduceAdd, Nat.reduceMul, Nat.reduceLeDiff, ↓reduceIte, rd_new_lt, own_new_lt, mp_new_lt, rd_newm_lt, own_newm_lt, mp_newm_lt, rd_wr_ne, own_wr_ne, mp_wr_ne, rd_wrm_ne, own_wrm_ne, mp_wrm_ne, rd_new_eq, own_new_eq, mp_newm_eq, rd_of_own ho1, Int.toNat_natCast, Nat.mul_one, Nat.zero_add, hx1]
      refine Both.dec (fun g3 => ?_) (fun g3 => ?_) <;> simp (disch := (first | omega | (simp only [size_new, size_newm, size_wr, size_wrm] <;> omega) | fail)) only [go_sem, Nat.reduceBEq, Nat.reduceAdd, Nat.reduceMul, Nat.reduceLeDiff, ↓reduceIte, rd_new_lt, own_new_lt, mp_new_lt, rd_newm_lt, own_newm_lt, mp_newm_lt, rd_wr_ne, own_wr_ne, mp_wr_ne, rd_wrm_ne, own_wrm_ne, mp_wrm_ne, rd_new_eq, own_new_eq, mp_newm_eq]
      · rw [wrap64 (n := (j : Int) + 1) (by omega) (by omega)]
        refine ⟨n.toNat - (j + 1), by omega, trivial, j + 1, rfl, by omega, fun v hv => ?_, rfl⟩
        by_cases hvj : v = j
        · rw [hvj]; omega
        · exact hall v (by omega)
      · refine ⟨f36, false, rfl, iff_of_false (by simp) fun hs => ?_⟩
        have := hsp.1 hs j hjn
        omega
    · exact ⟨f36, true, rfl, iff_of_true rfl (hsp.2 fun v hv => hall v (by omega))⟩

set_option maxHeartbeats 4000000 in
theorem ref24_lightest_spec {H : Hp} {n : Int} {a : Option Addr} {c : Nat} {es : List Ed} (h : RdS H 3 (.slice a es.length c) es.length (flatE es)) (hl : es.length ≤ 1000000000) :
    CallH Try.prog n_ref24_lightest [grV n (.slice a es.length c)] H fun v H' => Post (Fresh H H' ∧ ∃ (L : List Int) (b : Nat), L.Perm (allI es.length) ∧ L.Pairwise (fun i j => wE es i ≤ wE es j) ∧ H.size ≤ b ∧ Sl H' 1 v L.length (L.map i64) (some b)) := by
  refine c_ref24_lightest ⟨rfl, ?_⟩
  have f0 : Fresh H (H.new 24 [i64 n, .slice a es.length c]) := (Ext.refl _ _).new _ _
  have b0 := own_new H 24 [i64 n, .slice a es.length c]
  have hz0 : (H.new 24 [i64 n, .slice a es.length c]).size = H.size + 1 := by rw [size_new]
  simp (disch := (first | omega | (simp only [size_new, size_newm, size_wr, size_wrm] <;> omega) | fail)) only [go_sem, Nat.reduceBEq, Nat.reduceAdd, Nat.reduceMul, Nat.reduceLeDiff, ↓reduceIte, rd_new_lt, own_new_lt, mp_new_lt, rd_newm_lt, own_newm_lt, mp_newm_lt, rd_wr_ne, own_wr_ne, mp_wr_ne, rd_wrm_ne, own_wrm_ne, mp_wrm_ne, rd_new_eq, own_new_eq, mp_newm_eq, s_ref24_lightest, grV]
  generalize H.new 24 [i64 n, .slice a es.length c] = H0 at *
  have fo : Fresh H0 (H0.new 3 []) := (Ext.refl _ _).new _ _
  have s0 : Sl (H0.new 3 []) 1 (.slice (some ⟨H.size + 1, 0, none⟩) 0 0) ([] : List Int).length (([] : List Int).map i64) (some (H.size + 1)) := Sl.lit_at (size := 1) (n := 0) (xs := []) rfl hz0.symm
  have b1 := fo.own b0 (fun h => h)
  generalize H0.new 3 [] = H1 at *
  refine LoopV.intro (fun m env H' => Fresh H H' ∧ H'.own H.size = some [i64 n, .slice a es.length c] ∧ ∃ (j : Nat) (w : Value) (b : Nat) (L : List Int), m = es.length - j ∧ j ≤ es.length ∧ H.size + 1 ≤ b ∧ L.Perm (allI j) ∧ L.Pairwise (fun i j => wE es i ≤ wE es j) ∧ Sl H' 1 w L.length (L.map i64) (some b) ∧
    env = [(1, ptr H.size), (3, w), (10, .slice a es.length c), (11, i64 es.length), (12, i64 j)]) es.length ⟨f0.trans fo, b1, 0, _, H.size + 1, [], by omega, by omega, by omega, .refl _, .nil, s0, rfl⟩ ?_
  clear s0 b1 fo b0 f0
  rintro m env H2 ⟨f2, b2, j, w, b, L, hm, hj, hb, hperm, hpw, s2, rfl⟩
  have hz2 := own_lt b2
  have h2 := h.fresh f2
  have hLl : L.length = j := by rw [hperm.length_eq, allI_len]
  simp (disch := (first | omega | (simp only [size_new, size_newm, size_wr, size_wrm] <;> omega) | fail)) only [go_sem, Nat.reduceBEq, Nat.reduceAdd, Nat.reduceMul, Nat.reduceLeDiff, ↓reduceIte, rd_new_lt, own_new_lt, mp_new_lt, rd_newm_lt, own_newm_lt, mp_newm_lt, rd_wr_ne, own_wr_ne, mp_wr_ne, rd_wrm_ne, own_wrm_ne, mp_wrm_ne, rd_new_eq, own_new_eq, mp_newm_eq]
  refine Both.dec (fun hlt => ?_) (fun hlt => ?_) <;> simp (disch := (first | omega | (simp only [size_new, size_newm, size_wr, size_wrm] <;> omega) | fail)) only [go_sem, Nat.reduceBEq, Nat.reduceAdd, Nat.reduceMul, Nat.reduceLeDiff, ↓reduceIte, rd_new_lt, own_new_lt, mp_new_lt, rd_newm_lt, own_newm_lt, mp_newm_lt, rd_wr_ne, own_wr_ne, mp_wr_ne, rd_wrm_ne, own_wrm_ne, mp_wrm_ne, rd_new_eq, own_new_eq, mp_newm_eq]
  rotate_left
  · have hj2 : j = es.length := by omega
    subst hj2
    exact ⟨f2, L, b, hperm, hpw, by omega, s2⟩
  obtain ⟨e, he⟩ : ∃ e, es[j]? = some e := ⟨_, List.getElem?_eq_getElem (by omega)⟩
  obtain ⟨_, be, o, lb, rfl, hrd, hle, hcells, hc0, hc1, hc2⟩ := RdS.edgeAt h2 he
  refine ⟨⟨by omega, by omega⟩, ?_⟩
  simp (disch := (first | omega | (simp only [size_new, size_newm, size_wr, size_wrm] <;> omega) | fail)) only [go_sem, Nat.reduceBEq, Nat.reduceAdd, Nat.reduceMul, Nat.reduceLeDiff, ↓reduceIte, rd_new_lt, own_new_lt, mp_new_lt, rd_newm_lt, own_newm_lt, mp_newm_lt, rd_wr_ne, own_wr_ne, mp_wr_ne, rd_wrm_ne, own_wrm_ne, mp_wrm_ne, rd_new_eq, own_new_eq, mp_newm_eq, hrd, Int.toNat_natCast, hcells, cellsE]
  refine ⟨by omega, ?_⟩
  have q2 := own_new H2 35 [i64 0, i64 0, i64 0]
  simp (disch := (first | omega | (simp only [size_new, size_newm, size_wr, size_wrm] <;> omega) | fail)) only [go_sem, Nat.reduceBEq, Nat.reduceAdd, Nat.reduceMul, Nat.reduceLeDiff, ↓reduceIte, rd_new_lt, own_new_lt, mp_new_lt, rd_newm_lt, own_newm_lt, mp_newm_lt, rd_wr_ne, own_wr_ne, mp_wr_ne, rd_wrm_ne, own_wrm_ne, mp_wrm_ne, rd_new_eq, own_new_eq, mp_newm_eq, hcells, cellsE, q2]
  have q3 := own_wr_same (l := [i64 e.f, i64 e.t, i64 e.w]) q2
  have f3 : Fresh H2 ((H2.new 35 [i64 0, i64 0, i64 0]).wr H2.size [i64 e.f, i64 e.t, i64 e.w]) := ((Ext.refl _ _).new _ _ : Fresh H2 _).then ((Ext.refl (fun z => z = H2.size) _).wr (fun _ => rfl) _) (fun z hz => by omega)
  generalize (H2.new 35 [i64 0, i64 0, i64 0]).wr H2.size [i64 e.f, i64 e.t, i64 e.w] = H3 at *
  have b3 := f3.own b2 (fun h => h)
  have h3 := h2.fresh f3
  have s3 := s2.ext f3 (fun _ _ h => h)
  obtain ⟨wa, wc, rfl, hwc⟩ := slv_val s3
  refine LoopV.intro (fun m env H' => H' = H3 ∧ ∃ k : Nat, m = L.length - k ∧ k ≤ L.length ∧ (∀ x ∈ L.take k, wE es x ≤ e.w) ∧
    env = [(1, ptr H.size), (3, .slice wa L.length wc), (4, i64 j), (5, ptr H2.size), (6, i64 k), (10, .slice (some ⟨be, o, none⟩) es.length c), (11, i64 es.length), (12, i64 j)]) L.length ⟨rfl, 0, by omega, by omega, by simp, rfl⟩ ?_
  rintro m2 env H3 ⟨rfl, k, hm2, hk, hlo, rfl⟩
  simp (disch := (first | omega | (simp only [size_new, size_newm, size_wr, size_wrm] <;> omega) | fail)) only [go_sem, Nat.reduceBEq, Nat.reduceAdd, Nat.reduceMul, Nat.reduceLeDiff, ↓reduceIte, rd_new_lt, own_new_lt, mp_new_lt, rd_newm_lt, own_newm_lt, mp_newm_lt, rd_wr_ne, own_wr_ne, mp_wr_ne, rd_wrm_ne, own_wrm_ne, mp_wrm_ne, rd_new_eq, own_new_eq, mp_newm_eq]
  refine Both.dec (fun hkl => ?_) (fun hkl => ?_) <;> simp (disch := (first | omega | (simp only [size_new, size_newm, size_wr, size_wrm] <;> omega) | fail)) only [go_sem, Nat.reduceBEq, Nat.reduceAdd, Nat.reduceMul, Nat.reduceLeDiff, ↓reduceIte, rd_new_lt, own_new_lt, mp_new_lt, rd_newm_lt, own_newm_lt, mp_newm_lt, rd_wr_ne, own_wr_ne, mp_wr_ne, rd_wrm_ne, own_wrm_ne, mp_wrm_ne, rd_new_eq, own_new_eq, mp_newm_eq]
  · obtain ⟨x, hx⟩ : ∃ x, L[k]? = some x := ⟨_, List.getElem?_eq_getElem (by omega)⟩
    have hxin : InE es x := by
      have := allI_mem.1 (hperm.mem_iff.1 (List.mem_of_getElem? hx))
      exact ⟨this.1, by omega⟩
    obtain ⟨ix, ex, rfl, hex, hixl⟩ := hxin.get
    obtain ⟨_, rfl, lw, how, hwx⟩ := Sl.num s3 hx
    obtain ⟨_, be2, oe2, le2, hae, hrd2, hle2, hcells2, hd0, hd1, hd2⟩ := RdS.edgeAt h3 hex
    injection hae with hae
    injection hae with hae hoe
    subst hae; subst hoe
    simp (disch := (first | omega | (simp only [size_new, size_newm, size_wr, size_wrm] <;> omega) | fail)) only [go_sem, Nat.reduceBEq, Nat.reduceAdd, Nat.reduceMul, Nat.reduceLeDiff, ↓reduceIte, rd_new_lt, own_new_lt, mp_new_lt, rd_newm_lt, own_newm_lt, mp_newm_lt, rd_wr_ne, own_wr_ne, mp_wr_ne, rd_wrm_ne, own_wrm_ne, mp_wrm_ne, rd_new_eq, own_new_eq, mp_newm_eq, rd_of_own b3]
    refine ⟨⟨by omega, by omega⟩, ?_⟩
    simp (disch := (first | omega | (simp only [size_new, size_newm, size_wr, size_wrm] <;> omega) | fail)) only [go_sem, Nat.reduceBEq, Nat.reduceAdd, Nat.reduceMul, Nat.reduceLeDiff, ↓reduceIte, rd_new_lt, own_new_lt, mp_new_lt, rd_newm_lt, own_newm_lt, mp_newm_lt, rd_wr_ne, own_wr_ne, mp_wr_ne, rd_wrm_ne, own_wrm_ne, mp_wrm_ne, rd_new_eq, own_new_eq, mp_newm_eq, rd_of_own how, Int.toNat_natCast, Nat.mul_one, Nat.zero_add, hwx]
    refine ⟨⟨by omega, by omega⟩, ?_⟩
    simp (disch := (first | omega | (simp only [size_new, size_newm, size_wr, size_wrm] <;> omega) | fail)) only [go_sem, Nat.reduceBEq, Nat.reduceAdd, Nat.reduceMul, Nat.reduceLeDiff, ↓reduceIte, rd_new_lt, own_new_lt, mp_new_lt, rd_newm_lt, own_newm_lt, mp_newm_lt, rd_wr_ne, own_wr_ne, mp_wr_ne, rd_wrm_ne, own_wrm_ne, mp_wrm_ne, rd_new_eq, own_new_eq, mp_newm_eq, hrd2, Int.toNat_natCast, hd2, rd_of_own q3]
    refine Both.dec (fun hle3 => ?_) (fun hle3 => ?_) <;> simp (disch := (first | omega | (simp only [size_new, size_newm, size_wr, size_wrm] <;> omega) | fail)) only [go_sem, Nat.reduceBEq, Nat.reduceAdd, Nat.reduceMul, Nat.reduceLeDiff, ↓reduceIte, rd_new_lt, own_new_lt, mp_new_lt, rd_newm_lt, own_newm_lt, mp_newm_lt, rd_wr_ne, own_wr_ne, mp_wr_ne, rd_wrm_ne, own_wrm_ne, mp_wrm_ne, rd_new_eq, own_new_eq, mp_newm_eq]
    · rw [wrap64 (n := (k : Int) + 1) (by omega) (by omega)]
      refine ⟨L.length - (k + 1), by omega, trivial, k + 1, rfl, by omega, fun y hy => ?_, rfl⟩
      rw [List.take_add_one, hx] at hy
      rcases List.mem_append.1 hy with hy | hy
      · exact hlo y hy
      · have : y = (ix : Int) := by simpa using hy
        rw [this, wE_at hex]; exact hle3
    have hhi : ∀ x ∈ L.drop k, e.w ≤ wE es x := by
      intro y hy
      have hdr : L.drop k = (ix : Int) :: L.drop (k + 1) := by
        rw [List.drop_eq_getElem_cons (by omega)]
        rw [List.getElem?_eq_getElem (by omega)] at hx
        injection hx with hx
        rw [hx]
      have hpd := List.Pairwise.sublist (List.drop_sublist k L) hpw
      rw [hdr, List.pairwise_cons] at hpd
      rw [hdr] at hy
      rcases List.mem_cons.1 hy with rfl | hy
      · rw [wE_at hex]; omega
      · have := hpd.1 y hy
        rw [wE_at hex] at this
        omega
    have sp1 := slc_ints s3.rd (lo := 0) (hi := k) (lo' := ((0 : Nat) : Int)) (hi' := (k : Int)) rfl rfl (by omega) (by omega) hwc
    obtain ⟨a5, hv5, hr5, hc5, hl5⟩ := sp1
    rw [List.drop_zero, Nat.sub_zero] at hr5 hl5
    have sp2 := slc_ints s3.rd (lo := k) (hi := L.length) (lo' := (k : Int)) (hi' := (L.length : Int)) rfl rfl (by omega) (by omega) hwc
    obtain ⟨a6, hv6, hr6, hc6, hl6⟩ := sp2
    rw [List.take_of_length_le (by rw [List.length_drop]; omega)] at hr6
    have hz3 := own_lt b3
    have fl : Fresh H3 (H3.new 3 []) := (Ext.refl _ _).new _ _
    have sl : Sl (H3.new 3 []) 1 (.slice (some ⟨H3.size, 0, none⟩) 0 0) ([] : List Int).length (([] : List Int).map i64) (some H3.size) := Sl.lit_at (size := 1) (n := 0) (xs := []) rfl rfl
    have hr5' := hr5.fresh fl
    have hr6' := hr6.fresh fl
    have b4 := fl.own b3 (fun h => h)
    refine ⟨⟨by omega, by omega, by omega, by omega⟩, ?_⟩
    simp (disch := (first | omega | (simp only [size_new, size_newm, size_wr, size_wrm] <;> omega) | fail)) only [go_sem, Nat.reduceBEq, Nat.reduceAdd, Nat.reduceMul, Nat.reduceLeDiff, ↓reduceIte, rd_new_lt, own_new_lt, mp_new_lt, rd_newm_lt, own_newm_lt, mp_newm_lt, rd_wr_ne, own_wr_ne, mp_wr_ne, rd_wrm_ne, own_wrm_ne, mp_wrm_ne, rd_new_eq, own_new_eq, mp_newm_eq]
    rw [hv5]
    have hz4 : (H3.new 3 []).size = H3.size + 1 := by rw [size_new]
    generalize H3.new 3 [] = H4 at *
    refine pushL (B := H3.size) (xs := []) (ys := L.take k) (fun b hb => by injection hb with hb; omega) (by omega) sl (by rw [hl5]; exact hr5') (by simp; omega) ?_
    intro w5 H5 fp5 hfp5 s5 e5
    rw [List.nil_append] at s5
    simp (disch := (first | omega | (simp only [size_new, size_newm, size_wr, size_wrm] <;> omega) | fail)) only [go_sem, Nat.reduceBEq, Nat.reduceAdd, Nat.reduceMul, Nat.reduceLeDiff, ↓reduceIte, rd_new_lt, own_new_lt, mp_new_lt, rd_newm_lt, own_newm_lt, mp_newm_lt, rd_wr_ne, own_wr_ne, mp_wr_ne, rd_wrm_ne, own_wrm_ne, mp_wrm_ne, rd_new_eq, own_new_eq, mp_newm_eq]
    have f45 : Fresh H2 H5 := (f3.trans fl).then e5 (fun z hz => by have := f3.size; omega)
    have b5 := e5.own b4 (fun h => by omega)
    have hr6'' := hr6'.ext e5
    refine pushO (B := H3.size) hfp5 (by have := e5.size; omega) s5 _ (by rw [List.length_take]; omega) ?_
    intro w6 H6 fp6 hfp6 s6 e6
    have b6 := e6.own b5 (fun h => by omega)
    have f36 : Fresh H3 H6 := (fl.then e5 (fun z hz => hz)).then e6 (fun z hz => hz)
    obtain ⟨w6a, w6c, rfl, _⟩ := slv_val s6
    simp (disch := (first | omega | (simp only [size_new, size_newm, size_wr, size_wrm] <;> omega) | fail)) only [go_sem, Nat.reduceBEq, Nat.reduceAdd, Nat.reduceMul, Nat.reduceLeDiff, ↓reduceIte, rd_new_lt, own_new_lt, mp_new_lt, rd_newm_lt, own_newm_lt, mp_newm_lt, rd_wr_ne, own_wr_ne, mp_wr_ne, rd_wrm_ne, own_wrm_ne, mp_wrm_ne, rd_new_eq, own_new_eq, mp_newm_eq]
    refine ⟨⟨by omega, by omega, by omega, by omega⟩, ?_⟩
    simp (disch := (first | omega | (simp only [size_new, size_newm, size_wr, size_wrm] <;> omega) | fail)) only [go_sem, Nat.reduceBEq, Nat.reduceAdd, Nat.reduceMul, Nat.reduceLeDiff, ↓reduceIte, rd_new_lt, own_new_lt, mp_new_lt, rd_newm_lt, own_newm_lt, mp_newm_lt, rd_wr_ne, own_wr_ne, mp_wr_ne, rd_wrm_ne, own_wrm_ne, mp_wrm_ne, rd_new_eq, own_new_eq, mp_newm_eq]
    rw [hv6]
    refine pushL (B := H3.size) (ys := L.drop k) hfp6 (f36.size) s6 (by have := hr6.fresh f36; rw [List.length_drop]; exact this) (by simp; omega) ?_
    intro w7 H7 fp7 hfp7 s7 e7
    have b7 := e7.own b6 (fun h => by omega)
    have eL : L.take k ++ [(j : Int)] ++ L.drop k = L.take k ++ ((j : Int) :: L.drop k) := by simp
    have hp7 : (L.take k ++ [(j : Int)] ++ L.drop k).Perm (allI (j + 1)) := by
      rw [eL, allI_succ]
      have h1 : (L.take k ++ (j : Int) :: L.drop k).Perm ((j : Int) :: (L.take k ++ L.drop k)) := List.perm_middle
      rw [List.take_append_drop] at h1
      exact h1.trans ((hperm.cons _).trans (List.perm_append_singleton _ _).symm)
    have hw7 : (L.take k ++ [(j : Int)] ++ L.drop k).Pairwise (fun i j => wE es i ≤ wE es j) := by
      have h0 := hpw
      rw [← List.take_append_drop k L, List.pairwise_append] at h0
      rw [eL, List.pairwise_append, List.pairwise_cons]
      refine ⟨h0.1, ⟨fun x hx => by rw [wE_at he]; exact hhi x hx, h0.2.1⟩, fun x hx y hy => ?_⟩
      rcases List.mem_cons.1 hy with rfl | hy
      · rw [wE_at he]; exact hlo x hx
      · exact h0.2.2 x hx y hy
    obtain ⟨b7', rfl, hb7⟩ : ∃ b', fp7 = some b' ∧ H3.size ≤ b' := by
      cases fp7 with
      | none => obtain ⟨_, h0, _⟩ := s7; simp at h0
      | some b' => exact ⟨b', rfl, hfp7 b' rfl⟩
    simp (disch := (first | omega | (simp only [size_new, size_newm, size_wr, size_wrm] <;> omega) | fail)) only [go_sem, Nat.reduceBEq, Nat.reduceAdd, Nat.reduceMul, Nat.reduceLeDiff, ↓reduceIte, rd_new_lt, own_new_lt, mp_new_lt, rd_newm_lt, own_newm_lt, mp_newm_lt, rd_wr_ne, own_wr_ne, mp_wr_ne, rd_wrm_ne, own_wrm_ne, mp_wrm_ne, rd_new_eq, own_new_eq, mp_newm_eq]
    rw [wrap64 (n := (j : Int) + 1) (by omega) (by omega)]
    exact ⟨es.length - (j + 1), by omega, (f2.trans (f3.trans f36)).then e7 (fun z hz => by have := f3.size; omega), b7, j + 1, w7, b7', _, rfl, by omega, by omega, hp7, hw7, s7, rfl⟩
  · have hhi : ∀ x ∈ L.drop k, e.w ≤ wE es x := by rw [List.drop_eq_nil_of_le (by omega)]; simp
    have sp1 := slc_ints s3.rd (lo := 0) (hi := k) (lo' := ((0 : Nat) : Int)) (hi' := (k : Int)) rfl rfl (by omega) (by omega) hwc
    obtain ⟨a5, hv5, hr5, hc5, hl5⟩ := sp1
    rw [List.drop_zero, Nat.sub_zero] at hr5 hl5
    have sp2 := slc_ints s3.rd (lo := k) (hi := L.length) (lo' := (k : Int)) (hi' := (L.length : Int)) rfl rfl (by omega) (by omega) hwc
    obtain ⟨a6, hv6, hr6, hc6, hl6⟩ := sp2
    rw [List.take_of_length_le (by rw [List.length_drop]; omega)] at hr6
    have hz3 := own_lt b3
    have fl : Fresh H3 (H3.new 3 []) := (Ext.refl _ _).new _ _
    have sl : Sl (H3.new 3 []) 1 (.slice (some ⟨H3.size, 0, none⟩) 0 0) ([] : List Int).length (([] : List Int).map i64) (some H3.size) := Sl.lit_at (size := 1) (n := 0) (xs := []) rfl rfl
    have hr5' := hr5.fresh fl
    have hr6' := hr6.fresh fl
    have b4 := fl.own b3 (fun h => h)
    refine ⟨⟨by omega, by omega, by omega, by omega⟩, ?_⟩
    simp (disch := (first | omega | (simp only [size_new, size_newm, size_wr, size_wrm] <;> omega) | fail)) only [go_sem, Nat.reduceBEq, Nat.reduceAdd, Nat.reduceMul, Nat.reduceLeDiff, ↓reduceIte, rd_new_lt, own_new_lt, mp_new_lt, rd_newm_lt, own_newm_lt, mp_newm_lt, rd_wr_ne, own_wr_ne, mp_wr_ne, rd_wrm_ne, own_wrm_ne, mp_wrm_ne, rd_new_eq, own_new_eq, mp_newm_eq]
    rw [hv5]
    have hz4 : (H3.new 3 []).size = H3.size + 1 := by rw [size_new]
    generalize H3.new 3 [] = H4 at *
    refine pushL (B := H3.size) (xs := []) (ys := L.take k) (fun b hb => by injection hb with hb; omega) (by omega) sl (by rw [hl5]; exact hr5') (by simp; omega) ?_
    intro w5 H5 fp5 hfp5 s5 e5
    rw [List.nil_append] at s5
    simp (disch := (first | omega | (simp only [size_new, size_newm, size_wr, size_wrm] <;> omega) | fail)) only [go_sem, Nat.reduceBEq, Nat.reduceAdd, Nat.reduceMul, Nat.reduceLeDiff, ↓reduceIte, rd_new_lt, own_new_lt, mp_new_lt, rd_newm_lt, own_newm_lt, mp_newm_lt, rd_wr_ne, own_wr_ne, mp_wr_ne, rd_wrm_ne, own_wrm_ne, mp_wrm_ne, rd_new_eq, own_new_eq, mp_newm_eq]
    have f45 : Fresh H2 H5 := (f3.trans fl).then e5 (fun z hz => by have := f3.size; omega)
    have b5 := e5.own b4 (fun h => by omega)
    have hr6'' := hr6'.ext e5
    refine pushO (B := H3.size) hfp5 (by have := e5.size; omega) s5 _ (by rw [List.length_take]; omega) ?_
    intro w6 H6 fp6 hfp6 s6 e6
    have b6 := e6.own b5 (fun h => by omega)
    have f36 : Fresh H3 H6 := (fl.then e5 (fun z hz => hz)).then e6 (fun z hz => hz)
    obtain ⟨w6a, w6c, rfl, _⟩ := slv_val s6
    simp (disch := (first | omega | (simp only [size_new, size_newm, size_wr, size_wrm] <;> omega) | fail)) only [go_sem, Nat.reduceBEq, Nat.reduceAdd, Nat.reduceMul, Nat.reduceLeDiff, ↓reduceIte, rd_new_lt, own_new_lt, mp_new_lt, rd_newm_lt, own_newm_lt, mp_newm_lt, rd_wr_ne, own_wr_ne, mp_wr_ne, rd_wrm_ne, own_wrm_ne, mp_wrm_ne, rd_new_eq, own_new_eq, mp_newm_eq]
    refine ⟨⟨by omega, by omega, by omega, by omega⟩, ?_⟩
    simp (disch := (first | omega | (simp only [size_new, size_newm, size_wr, size_wrm] <;> omega) | fail)) only [go_sem, Nat.reduceBEq, Nat.reduceAdd, Nat.reduceMul, Nat.reduceLeDiff, ↓reduceIte, rd_new_lt, own_new_lt, mp_new_lt, rd_newm_lt, own_newm_lt, mp_newm_lt, rd_wr_ne, own_wr_ne, mp_wr_ne, rd_wrm_ne, own_wrm_ne, mp_wrm_ne, rd_new_eq, own_new_eq, mp_newm_eq]
    rw [hv6]
    refine pushL (B := H3.size) (ys := L.drop k) hfp6 (f36.size) s6 (by have := hr6.fresh f36; rw [List.length_drop]; exact this) (by simp; omega) ?_
    intro w7 H7 fp7 hfp7 s7 e7
    have b7 := e7.own b6 (fun h => by omega)
    have eL : L.take k ++ [(j : Int)] ++ L.drop k = L.take k ++ ((j : Int) :: L.drop k) := by simp
    have hp7 : (L.take k ++ [(j : Int)] ++ L.drop k).Perm (allI (j + 1)) := by
      rw [eL, allI_succ]
      have h1 : (L.take k ++ (j : Int) :: L.drop k).Perm ((j : Int) :: (L.take k ++ L.drop k)) := List.perm_middle
      rw [List.take_append_drop] at h1
      exact h1.trans ((hperm.cons _).trans (List.perm_append_singleton _ _).symm)
    have hw7 : (L.take k ++ [(j : Int)] ++ L.drop k).Pairwise (fun i j => wE es i ≤ wE es j) := by
      have h0 := hpw
      rw [← List.take_append_drop k L, List.pairwise_append] at h0
      rw [eL, List.pairwise_append, List.pairwise_cons]
      refine ⟨h0.1, ⟨fun x hx => by rw [wE_at he]; exact hhi x hx, h0.2.1⟩, fun x hx y hy => ?_⟩
      rcases List.mem_cons.1 hy with rfl | hy
      · rw [wE_at he]; exact hlo x hx
      · exact h0.2.2 x hx y hy
    obtain ⟨b7', rfl, hb7⟩ : ∃ b', fp7 = some b' ∧ H3.size ≤ b' := by
      cases fp7 with
      | none => obtain ⟨_, h0, _⟩ := s7; simp at h0
      | some b' => exact ⟨b', rfl, hfp7 b' rfl⟩
    simp (disch := (first | omega | (simp only [size_new, size_newm, size_wr, size_wrm] <;> omega) | fail)) only [go_sem, Nat.reduceBEq, Nat.reduceAdd, Nat.reduceMul, Nat.reduceLeDiff, ↓reduceIte, rd_new_lt, own_new_lt, mp_new_lt, rd_newm_lt, own_newm_lt, mp_newm_lt, rd_wr_ne, own_wr_ne, mp_wr_ne, rd_wrm_ne, own_wrm_ne, mp_wrm_ne, rd_new_eq, own_new_eq, mp_newm_eq]
    rw [wrap64 (n := (j : Int) + 1) (by omega) (by omega)]
    exact ⟨es.length - (j + 1), by omega, (f2.trans (f3.trans f36)).then e7 (fun z hz => by have := f3.size; omega), b7, j + 1, w7, b7', _, rfl, by omega, by omega, hp7, hw7, s7, rfl⟩

theorem greedy_len {α : Type} {e : α → E2} : ∀ L : List α, (greedy e L).length ≤ L.length := by
  refine snocInd (by simp [greedy]) fun L i ih => ?_
  rw [greedy_snoc]
  split
  · simp; omega
  · simp; omega

set_option maxHeartbeats 4000000 in
theorem ref24_Least_spec {H : Hp} {n : Int} {a : Option Addr} {c : Nat} {es : List Ed} (h : RdS H 3 (.slice a es.length c) es.length (flatE es)) (hr : RightG n es) :
    CallH Try.prog n_ref24_Least [grV n (.slice a es.length c)] H fun v H' => Post (Fresh H H' ∧ ∃ (L : List Int) (b : Nat), L.Perm (allI es.length) ∧ L.Pairwise (fun i j => wE es i ≤ wE es j) ∧ H.size ≤ b ∧ Sl H' 1 v (greedy (fE es) L).length ((greedy (fE es) L).map i64) (some b)) := by
  refine c_ref24_Least ⟨rfl, ?_⟩
  have hel := hr.len
  have f0 : Fresh H (H.new 24 [i64 n, .slice a es.length c]) := (Ext.refl _ _).new _ _
  have b0 := own_new H 24 [i64 n, .slice a es.length c]
  have hz0 : (H.new 24 [i64 n, .slice a es.length c]).size = H.size + 1 := by rw [size_new]
  simp (disch := (first | omega | (simp only [size_new, size_newm, size_wr, size_wrm] <;> omega) | fail)) only [go_sem, Nat.reduceBEq, Nat.reduceAdd, Nat.reduceMul, Nat.reduceLeDiff, ↓reduceIte, rd_new_lt, own_new_lt, mp_new_lt, rd_newm_lt, own_newm_lt, mp_newm_lt, rd_wr_ne, own_wr_ne, mp_wr_ne, rd_wrm_ne, own_wrm_ne, mp_wrm_ne, rd_new_eq, own_new_eq, mp_newm_eq, s_ref24_Least, grV]
  generalize H.new 24 [i64 n, .slice a es.length c] = H0 at *
  have fo : Fresh H0 (H0.new 3 []) := (Ext.refl _ _).new _ _
  have s0 : Sl (H0.new 3 []) 1 (.slice (some ⟨H.size + 1, 0, none⟩) 0 0) ([] : List Int).length (([] : List Int).map i64) (some (H.size + 1)) := Sl.lit_at (size := 1) (n := 0) (xs := []) rfl hz0.symm
  have b1 := fo.own b0 (fun h => h)
  generalize H0.new 3 [] = H1 at *
  have f01 := f0.trans fo
  refine (ref24_lightest_spec (n := n) (h.fresh f01) (by omega)).mono ?_
  rintro u H2 ⟨f2, L, bl, hperm, hpw, hbl, sL⟩
  obtain ⟨la, lc, rfl, _⟩ := slv_val sL
  have b2 := f2.own b1 (fun h => h)
  have s2 := s0.ext f2 (fun _ _ h => h)
  have hLl : L.length = es.length := by rw [hperm.length_eq, allI_len]
  have hrL := sL.rd
  have hz1 : H1.size ≤ H2.size := f2.size
  have hz11 : H.size < H1.size := own_lt b1
  have hs0 : H.size + 1 < H1.size := Sl.lt s0
  simp (disch := (first | omega | (simp only [size_new, size_newm, size_wr, size_wrm] <;> omega) | fail)) only [go_sem, Nat.reduceBEq, Nat.reduceAdd, Nat.reduceMul, Nat.reduceLeDiff, ↓reduceIte, rd_new_lt, own_new_lt, mp_new_lt, rd_newm_lt, own_newm_lt, mp_newm_lt, rd_wr_ne, own_wr_ne, mp_wr_ne, rd_wrm_ne, own_wrm_ne, mp_wrm_ne, rd_new_eq, own_new_eq, mp_newm_eq]
  refine LoopV.intro (fun m env H' => Fresh H H' ∧ Ext (fun z => H.size + 1 ≤ z ∧ z < bl ∨ H2.size ≤ z) H2 H' ∧ H'.own H.size = some [i64 n, .slice a es.length c] ∧ ∃ (j : Nat) (w : Value) (b : Nat), m = L.length - j ∧ j ≤ L.length ∧ H.size + 1 ≤ b ∧ (b < bl ∨ H2.size ≤ b) ∧ Sl H' 1 w (greedy (fE es) (L.take j)).length ((greedy (fE es) (L.take j)).map i64) (some b) ∧
    env = [(1, ptr H.size), (3, w), (9, .slice la L.length lc), (10, i64 L.length), (11, i64 j)]) L.length ⟨f01.trans f2, Ext.refl _ _, b2, 0, _, H.size + 1, by omega, by omega, by omega, .inl (by omega), s2, rfl⟩ ?_
  clear s0 b1 fo b0 f0 s2
  rintro m env H3 ⟨f3, e3, b3, j, w, b, hm, hj, hb, hbb, s3, rfl⟩
  have hz3 := own_lt b3
  have h3 := h.fresh f3
  have hbll : bl < H2.size := Sl.lt sL
  have rL3 := (sL.ext e3 (fun x hx h => by injection hx with hx; omega)).rd
  obtain ⟨g1, g2, g3⟩ := greedy_ok (e := fE es) (L.take j)
  have gin : ∀ i ∈ greedy (fE es) (L.take j), InE es i := fun i hi => all_in.1 (hperm.mem_iff.1 (List.mem_of_mem_take (g2 i hi)))
  have hgl : (greedy (fE es) (L.take j)).length ≤ 65536 := by
    have := greedy_len (e := fE es) (L.take j)
    rw [List.length_take] at this
    omega
  simp (disch := (first | omega | (simp only [size_new, size_newm, size_wr, size_wrm] <;> omega) | fail)) only [go_sem, Nat.reduceBEq, Nat.reduceAdd, Nat.reduceMul, Nat.reduceLeDiff, ↓reduceIte, rd_new_lt, own_new_lt, mp_new_lt, rd_newm_lt, own_newm_lt, mp_newm_lt, rd_wr_ne, own_wr_ne, mp_wr_ne, rd_wrm_ne, own_wrm_ne, mp_wrm_ne, rd_new_eq, own_new_eq, mp_newm_eq]
  refine Both.dec (fun hlt => ?_) (fun hlt => ?_) <;> simp (disch := (first | omega | (simp only [size_new, size_newm, size_wr, size_wrm] <;> omega) | fail)) only [go_sem, Nat.reduceBEq, Nat.reduceAdd, Nat.reduceMul, Nat.reduceLeDiff, ↓reduceIte, rd_new_lt, own_new_lt, mp_new_lt, rd_newm_lt, own_newm_lt, mp_newm_lt, rd_wr_ne, own_wr_ne, mp_wr_ne, rd_wrm_ne, own_wrm_ne, mp_wrm_ne, rd_new_eq, own_new_eq, mp_newm_eq]
  rotate_left
  · have hj2 : j = L.length := by omega
    subst hj2
    rw [List.take_length] at s3
    exact ⟨f3, L, b, hperm, hpw, by omega, s3⟩
  obtain ⟨x, hx⟩ : ∃ x, L[j]? = some x := ⟨_, List.getElem?_eq_getElem (by omega)⟩
  have hxin : InE es x := all_in.1 (hperm.mem_iff.1 (List.mem_of_getElem? hx))
  obtain ⟨ix, ex, rfl, hex, hixl⟩ := hxin.get
  obtain ⟨_, bx, ox, lx, rfl, hrdx, hcx⟩ := RdS.num rL3 hx
  obtain ⟨wa, wc, rfl, _⟩ := slv_val s3
  refine ⟨⟨by omega, by omega⟩, ?_⟩
  simp (disch := (first | omega | (simp only [size_new, size_newm, size_wr, size_wrm] <;> omega) | fail)) only [go_sem, Nat.reduceBEq, Nat.reduceAdd, Nat.reduceMul, Nat.reduceLeDiff, ↓reduceIte, rd_new_lt, own_new_lt, mp_new_lt, rd_newm_lt, own_newm_lt, mp_newm_lt, rd_wr_ne, own_wr_ne, mp_wr_ne, rd_wrm_ne, own_wrm_ne, mp_wrm_ne, rd_new_eq, own_new_eq, mp_newm_eq, hrdx, Int.toNat_natCast, Nat.mul_one, hcx, rd_of_own b3]
  refine (ref24_Parts_spec h3 s3.rd hr gin (by omega)).mono ?_
  rintro u H4 ⟨f4, bp, hbp, s4⟩
  have b4 := f4.own b3 (fun h => h)
  obtain ⟨ef0, ef1, et0, et1⟩ := hr.ends ex (List.mem_of_getElem? hex)
  obtain ⟨pa, pc, rfl, _⟩ := slv_val s4
  obtain ⟨_, rfl, lp, hop, hp1⟩ := Sl.num s4 (partL_get ((greedy (fE es) (L.take j)).map (fE es)) (v := ex.f.toNat) (by omega))
  obtain ⟨_, _, lp', hop', hp2⟩ := Sl.num s4 (partL_get ((greedy (fE es) (L.take j)).map (fE es)) (v := ex.t.toNat) (by omega))
  rw [hop] at hop'
  injection hop' with hop'
  subst hop'
  obtain ⟨_, be, oe, le, rfl, hrd2, hle2, hcells2, hd0, hd1, hd2⟩ := RdS.edgeAt (h3.fresh f4) hex
  simp (disch := (first | omega | (simp only [size_new, size_newm, size_wr, size_wrm] <;> omega) | fail)) only [go_sem, Nat.reduceBEq, Nat.reduceAdd, Nat.reduceMul, Nat.reduceLeDiff, ↓reduceIte, rd_new_lt, own_new_lt, mp_new_lt, rd_newm_lt, own_newm_lt, mp_newm_lt, rd_wr_ne, own_wr_ne, mp_wr_ne, rd_wrm_ne, own_wrm_ne, mp_wrm_ne, rd_new_eq, own_new_eq, mp_newm_eq, rd_of_own b4]
  refine ⟨⟨by omega, by omega⟩, ?_⟩
  simp (disch := (first | omega | (simp only [size_new, size_newm, size_wr, size_wrm] <;> omega) | fail)) only [go_sem, Nat.reduceBEq, Nat.reduceAdd, Nat.reduceMul, Nat.reduceLeDiff, ↓reduceIte, rd_new_lt, own_new_lt, mp_new_lt, rd_newm_lt, own_newm_lt, mp_newm_lt, rd_wr_ne, own_wr_ne, mp_wr_ne, rd_wrm_ne, own_wrm_ne, mp_wrm_ne, rd_new_eq, own_new_eq, mp_newm_eq, hrd2, Int.toNat_natCast, Nat.add_zero, hd0]
  refine ⟨⟨by omega, by omega⟩, ?_⟩
  simp (disch := (first | omega | (simp only [size_new, size_newm, size_wr, size_wrm] <;> omega) | fail)) only [go_sem, Nat.reduceBEq, Nat.reduceAdd, Nat.reduceMul, Nat.reduceLeDiff, ↓reduceIte, rd_new_lt, own_new_lt, mp_new_lt, rd_newm_lt, own_newm_lt, mp_newm_lt, rd_wr_ne, own_wr_ne, mp_wr_ne, rd_wrm_ne, own_wrm_ne, mp_wrm_ne, rd_new_eq, own_new_eq, mp_newm_eq, rd_of_own hop, Nat.mul_one, Nat.zero_add, hp1, rd_of_own b4]
  refine ⟨⟨by omega, by omega⟩, ?_⟩
  simp (disch := (first | omega | (simp only [size_new, size_newm, size_wr, size_wrm] <;> omega) | fail)) only [go_sem, Nat.reduceBEq, Nat.reduceAdd, Nat.reduceMul, Nat.reduceLeDiff, ↓reduceIte, rd_new_lt, own_new_lt, mp_new_lt, rd_newm_lt, own_newm_lt, mp_newm_lt, rd_wr_ne, own_wr_ne, mp_wr_ne, rd_wrm_ne, own_wrm_ne, mp_wrm_ne, rd_new_eq, own_new_eq, mp_newm_eq, hrd2, Int.toNat_natCast, hd1]
  refine ⟨⟨by omega, by omega⟩, ?_⟩
  simp (disch := (first | omega | (simp only [size_new, size_newm, size_wr, size_wrm] <;> omega) | fail)) only [go_sem, Nat.reduceBEq, Nat.reduceAdd, Nat.reduceMul, Nat.reduceLeDiff, ↓reduceIte, rd_new_lt, own_new_lt, mp_new_lt, rd_newm_lt, own_newm_lt, mp_newm_lt, rd_wr_ne, own_wr_ne, mp_wr_ne, rd_wrm_ne, own_wrm_ne, mp_wrm_ne, rd_new_eq, own_new_eq, mp_newm_eq, rd_of_own hop, Nat.mul_one, Nat.zero_add, hp2]
  have htk : greedy (fE es) (L.take (j + 1)) = if Hang ((greedy (fE es) (L.take j)).map (fE es)) ex.f.toNat ex.t.toNat then greedy (fE es) (L.take j) else greedy (fE es) (L.take j) ++ [(ix : Int)] := by
    have : L.take (j + 1) = L.take j ++ [(ix : Int)] := by rw [List.take_add_one, hx]; rfl
    rw [this, greedy_snoc, fE_at hex]
  have hw1 := wrap64 (n := (j : Int) + 1) (by omega) (by omega)
  have e4 : Ext (fun z => H.size + 1 ≤ z ∧ z < bl ∨ H2.size ≤ z) H2 H4 := e3.trans (f4.mono fun _ _ h => h.elim)
  have s34 := s3.ext f4 (fun _ _ h => h)
  refine Both.dec (fun hq => ?_) (fun hq => ?_) <;> simp (disch := (first | omega | (simp only [size_new, size_newm, size_wr, size_wrm] <;> omega) | fail)) only [go_sem, Nat.reduceBEq, Nat.reduceAdd, Nat.reduceMul, Nat.reduceLeDiff, ↓reduceIte, rd_new_lt, own_new_lt, mp_new_lt, rd_newm_lt, own_newm_lt, mp_newm_lt, rd_wr_ne, own_wr_ne, mp_wr_ne, rd_wrm_ne, own_wrm_ne, mp_wrm_ne, rd_new_eq, own_new_eq, mp_newm_eq]
  · have hh : Hang ((greedy (fE es) (L.take j)).map (fE es)) ex.f.toNat ex.t.toNat := by show partF _ _ = partF _ _; omega
    rw [if_pos hh] at htk
    rw [hw1]
    exact ⟨L.length - (j + 1), by omega, f3.trans f4, e4, b4, j + 1, _, b, rfl, by omega, hb, hbb, by rw [htk]; exact s34, rfl⟩
  · have hh : ¬ Hang ((greedy (fE es) (L.take j)).map (fE es)) ex.f.toNat ex.t.toNat := fun h => hq (by have : partF ((greedy (fE es) (L.take j)).map (fE es)) ex.f.toNat = partF ((greedy (fE es) (L.take j)).map (fE es)) ex.t.toNat := h; rw [this])
    rw [if_neg hh] at htk
    have fl : Fresh H4 (H4.new 3 [i64 ix]) := (Ext.refl _ _).new _ _
    refine Sl.append (s34.ext fl (fun _ _ h => h)) (Sl.lit_at (size := 1) (n := 1) (xs := [i64 ix]) rfl rfl).rd rfl (ones_is [(ix : Int)]) (by omega) ?_
    intro w' H5 fp' s5 e5 hfp'
    have hz34 : H3.size ≤ H4.size := f4.size
    have hz23 : H2.size ≤ H3.size := e3.size
    have hz45 := fl.size
    obtain ⟨b', rfl, hb', hbb'⟩ : ∃ b', fp' = some b' ∧ H.size + 1 ≤ b' ∧ (b' < bl ∨ H2.size ≤ b') := by
      rcases hfp' with h | ⟨b', h, h1, h2⟩
      · exact ⟨b, h, hb, hbb⟩
      · rw [size_new] at h1
        exact ⟨b', h, by omega, .inr (by omega)⟩
    simp (disch := (first | omega | (simp only [size_new, size_newm, size_wr, size_wrm] <;> omega) | fail)) only [go_sem, Nat.reduceBEq, Nat.reduceAdd, Nat.reduceMul, Nat.reduceLeDiff, ↓reduceIte, rd_new_lt, own_new_lt, mp_new_lt, rd_newm_lt, own_newm_lt, mp_newm_lt, rd_wr_ne, own_wr_ne, mp_wr_ne, rd_wrm_ne, own_wrm_ne, mp_wrm_ne, rd_new_eq, own_new_eq, mp_newm_eq]
    rw [hw1]
    exact ⟨L.length - (j + 1), by omega, (f3.trans (f4.trans fl)).then e5 (fun z (hz : some b = some z) => by injection hz with hz; omega), (e4.trans (fl.mono fun _ _ h => h.elim)).trans' e5 (fun z _ (hz : some b = some z) => by injection hz with hz; omega), (e5.own (fl.own b4 (fun h => h)) (fun (hz : some b = some _) => by injection hz with hz; omega)), j + 1, w', b', rfl, by omega, hb', hbb', by rw [htk, List.length_append, List.map_append]; exact s5, rfl⟩

theorem ref24_Weight_spec {H : Hp} {n : Int} {a a' : Option Addr} {c c' : Nat} {es : List Ed} {ks : List Int} (h : RdS H 3 (.slice a es.length c) es.length (flatE es)) (h' : RdS H 1 (.slice a' ks.length c') ks.length (ks.map i64))
    (hk : ∀ i ∈ ks, InE es i) (hl : ks.length ≤ 1000000) (hw : ∀ e ∈ es, -9223372036854775808 ≤ e.w ∧ e.w ≤ 9223372036854775807) (hel : es.length ≤ 1000000000) :
    CallH Try.prog n_ref24_Weight [grV n (.slice a es.length c), .slice a' ks.length c'] H fun v H' => Post (v = sumV (valS (ks.map (wE es)).sum) ∧ Fresh H H') := by
  refine c_ref24_Weight ⟨rfl, ?_⟩
  have f0 : Fresh H (H.new 24 [i64 n, .slice a es.length c]) := (Ext.refl _ _).new _ _
  have b0 := own_new H 24 [i64 n, .slice a es.length c]
  have hz0 : (H.new 24 [i64 n, .slice a es.length c]).size = H.size + 1 := by rw [size_new]
  simp (disch := (first | omega | (simp only [size_new, size_newm, size_wr, size_wrm] <;> omega) | fail)) only [go_sem, Nat.reduceBEq, Nat.reduceAdd, Nat.reduceMul, Nat.reduceLeDiff, ↓reduceIte, rd_new_lt, own_new_lt, mp_new_lt, rd_newm_lt, own_newm_lt, mp_newm_lt, rd_wr_ne, own_wr_ne, mp_wr_ne, rd_wrm_ne, own_wrm_ne, mp_wrm_ne, rd_new_eq, own_new_eq, mp_newm_eq, s_ref24_Weight, grV]
  generalize H.new 24 [i64 n, .slice a es.length c] = H0 at *
  have fr : Fresh H0 (H0.new 78 [i64 0, u64 0]) := (Ext.refl _ _).new _ _
  have r1 : (H0.new 78 [i64 0, u64 0]).own (H.size + 1) = some [i64 0, u64 0] := own_new_eq hz0.symm
  have hz1 : (H0.new 78 [i64 0, u64 0]).size = H.size + 2 := by rw [size_new, hz0]
  have b1 := fr.own b0 (fun h => h)
  generalize H0.new 78 [i64 0, u64 0] = H1 at *
  have fo : Fresh H1 (H1.new 2 []) := (Ext.refl _ _).new _ _
  have s0 : Sl (H1.new 2 []) 1 (.slice (some ⟨H.size + 2, 0, none⟩) 0 0) ([] : List Int).length (([] : List Int).map i64) (some (H.size + 2)) := Sl.lit_at (size := 1) (n := 0) (xs := []) rfl hz1.symm
  have b2 := fo.own b1 (fun h => h)
  have r2 := fo.own r1 (fun h => h)
  generalize H1.new 2 [] = H2 at *
  have f02 := f0.trans (fr.trans fo)
  refine LoopV.intro (fun m env H' => Fresh H H' ∧ H'.own H.size = some [i64 n, .slice a es.length c] ∧ H'.own (H.size + 1) = some [i64 0, u64 0] ∧ ∃ (j : Nat) (w : Value) (b : Nat), m = ks.length - j ∧ j ≤ ks.length ∧ H.size + 2 ≤ b ∧ Sl H' 1 w ((ks.take j).map (wE es)).length (((ks.take j).map (wE es)).map i64) (some b) ∧
    env = [(2, ptr H.size), (4, ptr (H.size + 1)), (5, w), (9, .slice a' ks.length c'), (10, i64 ks.length), (11, i64 j)]) ks.length ⟨f02, b2, r2, 0, _, H.size + 2, by omega, by omega, by omega, s0, rfl⟩ ?_
  clear s0 b1 fo b0 f0 b2 r2 r1
  rintro m env H3 ⟨f3, b3, r3, j, w, b, hm, hj, hb, s3, rfl⟩
  have hz3 := own_lt r3
  have h3 := h.fresh f3
  have h3' := h'.fresh f3
  simp (disch := (first | omega | (simp only [size_new, size_newm, size_wr, size_wrm] <;> omega) | fail)) only [go_sem, Nat.reduceBEq, Nat.reduceAdd, Nat.reduceMul, Nat.reduceLeDiff, ↓reduceIte, rd_new_lt, own_new_lt, mp_new_lt, rd_newm_lt, own_newm_lt, mp_newm_lt, rd_wr_ne, own_wr_ne, mp_wr_ne, rd_wrm_ne, own_wrm_ne, mp_wrm_ne, rd_new_eq, own_new_eq, mp_newm_eq]
  refine Both.dec (fun hlt => ?_) (fun hlt => ?_) <;> simp (disch := (first | omega | (simp only [size_new, size_newm, size_wr, size_wrm] <;> omega) | fail)) only [go_sem, Nat.reduceBEq, Nat.reduceAdd, Nat.reduceMul, Nat.reduceLeDiff, ↓reduceIte, rd_new_lt, own_new_lt, mp_new_lt, rd_newm_lt, own_newm_lt, mp_newm_lt, rd_wr_ne, own_wr_ne, mp_wr_ne, rd_wrm_ne, own_wrm_ne, mp_wrm_ne, rd_new_eq, own_new_eq, mp_newm_eq]
  · obtain ⟨x, hx⟩ : ∃ x, ks[j]? = some x := ⟨_, List.getElem?_eq_getElem (by omega)⟩
    obtain ⟨ix, ex, rfl, hex, hixl⟩ := (hk x (List.mem_of_getElem? hx)).get
    obtain ⟨_, bx, ox, lx, rfl, hrdx, hcx⟩ := RdS.num h3' hx
    obtain ⟨_, be, oe, le, rfl, hrd2, hle2, hcells2, hd0, hd1, hd2⟩ := RdS.edgeAt h3 hex
    refine ⟨⟨by omega, by omega⟩, ?_⟩
    simp (disch := (first | omega | (simp only [size_new, size_newm, size_wr, size_wrm] <;> omega) | fail)) only [go_sem, Nat.reduceBEq, Nat.reduceAdd, Nat.reduceMul, Nat.reduceLeDiff, ↓reduceIte, rd_new_lt, own_new_lt, mp_new_lt, rd_newm_lt, own_newm_lt, mp_newm_lt, rd_wr_ne, own_wr_ne, mp_wr_ne, rd_wrm_ne, own_wrm_ne, mp_wrm_ne, rd_new_eq, own_new_eq, mp_newm_eq, hrdx, Int.toNat_natCast, Nat.mul_one, hcx, rd_of_own b3]
    refine ⟨⟨by omega, by omega⟩, ?_⟩
    simp (disch := (first | omega | (simp only [size_new, size_newm, size_wr, size_wrm] <;> omega) | fail)) only [go_sem, Nat.reduceBEq, Nat.reduceAdd, Nat.reduceMul, Nat.reduceLeDiff, ↓reduceIte, rd_new_lt, own_new_lt, mp_new_lt, rd_newm_lt, own_newm_lt, mp_newm_lt, rd_wr_ne, own_wr_ne, mp_wr_ne, rd_wrm_ne, own_wrm_ne, mp_wrm_ne, rd_new_eq, own_new_eq, mp_newm_eq, hrd2, Int.toNat_natCast, hd2]
    have htk : (ks.take (j + 1)).map (wE es) = (ks.take j).map (wE es) ++ [ex.w] := by rw [List.take_add_one, hx, List.map_append]; simp [wE_at hex]
    refine pushS (B := H.size + 2) hb (by omega) s3 _ (by simp; omega) ?_
    intro w' H' b' hb' s' e'
    rw [← htk] at s'
    simp (disch := (first | omega | (simp only [size_new, size_newm, size_wr, size_wrm] <;> omega) | fail)) only [go_sem, Nat.reduceBEq, Nat.reduceAdd, Nat.reduceMul, Nat.reduceLeDiff, ↓reduceIte, rd_new_lt, own_new_lt, mp_new_lt, rd_newm_lt, own_newm_lt, mp_newm_lt, rd_wr_ne, own_wr_ne, mp_wr_ne, rd_wrm_ne, own_wrm_ne, mp_wrm_ne, rd_new_eq, own_new_eq, mp_newm_eq]
    rw [wrap64 (n := (j : Int) + 1) (by omega) (by omega)]
    exact ⟨ks.length - (j + 1), by omega, f3.then e' (fun z hz => by omega), e'.own b3 (fun h => by omega), e'.own r3 (fun h => by omega), j + 1, w', b', rfl, by omega, hb', s', rfl⟩
  · have hj2 : j = ks.length := by omega
    subst hj2
    rw [List.take_length] at s3
    obtain ⟨wa, wc, rfl, _⟩ := slv_val s3
    have hrange : ∀ x ∈ ks.map (wE es), -9223372036854775808 ≤ x ∧ x ≤ 9223372036854775807 := fun x hx => by
      obtain ⟨i, hi, rfl⟩ := List.mem_map.1 hx
      obtain ⟨ik, e, rfl, he, _⟩ := (hk i hi).get
      rw [wE_at he]
      exact hw e (List.mem_of_getElem? he)
    refine (ref21_Total_spec s3.rd (by simp; omega) hrange).mono ?_
    rintro _ H4 ⟨rfl, f4⟩
    rw [totS_val hrange (by simp; omega)]
    have r4 := f4.own r3 (fun h => h)
    have r5 := own_wr_same (l := [i64 (valS (ks.map (wE es)).sum).1, u64 (valS (ks.map (wE es)).sum).2]) r4
    simp (disch := (first | omega | (simp only [size_new, size_newm, size_wr, size_wrm] <;> omega) | fail)) only [go_sem, Nat.reduceBEq, Nat.reduceAdd, Nat.reduceMul, Nat.reduceLeDiff, ↓reduceIte, rd_new_lt, own_new_lt, mp_new_lt, rd_newm_lt, own_newm_lt, mp_newm_lt, rd_wr_ne, own_wr_ne, mp_wr_ne, rd_wrm_ne, own_wrm_ne, mp_wrm_ne, rd_new_eq, own_new_eq, mp_newm_eq, sumV, r4, rd_of_own r5]
    exact ⟨rfl, (f3.trans f4).then ((Ext.refl (fun z => z = H.size + 1) _).wr (fun _ => rfl) _) (fun z hz => by omega)⟩

end Go.Proofs.Ytbnaicgmnadkgaa
