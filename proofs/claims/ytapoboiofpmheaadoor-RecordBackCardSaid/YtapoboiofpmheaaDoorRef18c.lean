/-
  The document's pieces of a text; its small numbers.
-/
import Derived.Test.YtapoboiofpmheaaDoorRef18
set_option linter.unusedVariables false
set_option linter.unusedSimpArgs false
namespace Go.Proofs.YtapoboiofpmheaaDoor
open Go Go.Vc

theorem ones_str (ws : List (List UInt8)) : allOne (ws.map strV) := fun v hv => by
  obtain ⟨x, _, rfl⟩ := List.mem_map.1 hv
  rfl

theorem ref18_cut_spec (H : Hp) (l : List UInt8) (hl : l.length ≤ 1000000) (c : UInt8) : CallH Tryd.prog n_ref18_cut [strV l, .int .u8 c.toNat] H fun v H' => Post (
    Fresh H H' ∧ ∃ b, H.size ≤ b ∧ Sl H' 1 v (pieces c l).length ((pieces c l).map strV) (some b)) := by
  refine c_ref18_cut ⟨rfl, ?_⟩
  simp (disch := (first | omega | (simp only [size_new, size_newm, size_wr, size_wrm] <;> omega) | fail)) only [go_sem, Nat.reduceBEq, Nat.reduceAdd, Nat.reduceMul, Nat.reduceLeDiff, ↓reduceIte, rd_new_lt, own_new_lt, mp_new_lt, rd_newm_lt, own_newm_lt, mp_newm_lt, rd_wr_ne, own_wr_ne, mp_wr_ne, rd_wrm_ne, own_wrm_ne, mp_wrm_ne, rd_new_eq, own_new_eq, mp_newm_eq, s_ref18_cut]
  have hz : l.toArray.size = l.length := List.size_toArray ..
  have s0 : Sl (H.new 9 []) 1 (.slice (some ⟨H.size, 0, none⟩) 0 0) 0 ([].map strV) (some H.size) := Sl.lit_at (size := 1) (n := 0) (xs := []) rfl rfl
  have f0 : Fresh H (H.new 9 []) := (Ext.refl _ _).new _ _
  have hz0 : (H.new 9 []).size = H.size + 1 := by rw [size_new]
  generalize H.new 9 [] = H0 at *
  obtain ⟨lp1, lp2⟩ := len_piece c _ l (Nat.le_refl _)
  refine LoopV.intro (fun m env H' => ∃ (i from_ : Nat) (ps : List (List UInt8)) (v : Value) (b : Nat), m = l.length - i ∧ i ≤ l.length ∧ from_ ≤ i ∧ c ∉ (l.take i).drop from_ ∧ pieces c l = ps ++ pieces c (l.drop from_) ∧ env = [(0, strV l), (1, .int .u8 c.toNat), (5, v), (6, i64 from_), (7, i64 i)] ∧ Fresh H H' ∧ H.size ≤ b ∧ Sl H' 1 v ps.length (ps.map strV) (some b)) l.length ⟨0, 0, [], _, H.size, by omega, by omega, by omega, by simp, by simp, rfl, f0, by omega, s0⟩ ?_
  rintro m env H1 ⟨i, fr, ps, v, b, hm, hi, hfr, hc, hps, rfl, f1, hb, s1⟩
  simp (disch := (first | omega | (simp only [size_new, size_newm, size_wr, size_wrm] <;> omega) | fail)) only [go_sem, Nat.reduceBEq, Nat.reduceAdd, Nat.reduceMul, Nat.reduceLeDiff, ↓reduceIte, rd_new_lt, own_new_lt, mp_new_lt, rd_newm_lt, own_newm_lt, mp_newm_lt, rd_wr_ne, own_wr_ne, mp_wr_ne, rd_wrm_ne, own_wrm_ne, mp_wrm_ne, rd_new_eq, own_new_eq, mp_newm_eq]
  refine Both.dec (fun h3 => ?_) (fun h3 => ?_) <;> simp (disch := (first | omega | (simp only [size_new, size_newm, size_wr, size_wrm] <;> omega) | fail)) only [go_sem, Nat.reduceBEq, Nat.reduceAdd, Nat.reduceMul, Nat.reduceLeDiff, ↓reduceIte, rd_new_lt, own_new_lt, mp_new_lt, rd_newm_lt, own_newm_lt, mp_newm_lt, rd_wr_ne, own_wr_ne, mp_wr_ne, rd_wrm_ne, own_wrm_ne, mp_wrm_ne, rd_new_eq, own_new_eq, mp_newm_eq]
  · obtain ⟨x, hx⟩ : ∃ x, l[i]? = some x := ⟨_, List.getElem?_eq_getElem (by omega)⟩
    simp (disch := (first | omega | (simp only [size_new, size_newm, size_wr, size_wrm] <;> omega) | fail)) only [go_sem, Nat.reduceBEq, Nat.reduceAdd, Nat.reduceMul, Nat.reduceLeDiff, ↓reduceIte, rd_new_lt, own_new_lt, mp_new_lt, rd_newm_lt, own_newm_lt, mp_newm_lt, rd_wr_ne, own_wr_ne, mp_wr_ne, rd_wrm_ne, own_wrm_ne, mp_wrm_ne, rd_new_eq, own_new_eq, mp_newm_eq, get_str, Int.toNat_natCast, hx, also_nn]
    refine Both.dec (fun h4 => ?_) (fun h4 => ?_) <;> simp (disch := (first | omega | (simp only [size_new, size_newm, size_wr, size_wrm] <;> omega) | fail)) only [go_sem, Nat.reduceBEq, Nat.reduceAdd, Nat.reduceMul, Nat.reduceLeDiff, ↓reduceIte, rd_new_lt, own_new_lt, mp_new_lt, rd_newm_lt, own_newm_lt, mp_newm_lt, rd_wr_ne, own_wr_ne, mp_wr_ne, rd_wrm_ne, own_wrm_ne, mp_wrm_ne, rd_new_eq, own_new_eq, mp_newm_eq]
    · have hxc : x = c := UInt8.toNat_inj.1 (by omega)
      subst hxc
      refine ⟨⟨by omega, by omega, by omega⟩, ?_⟩
      simp (disch := (first | omega | (simp only [size_new, size_newm, size_wr, size_wrm] <;> omega) | fail)) only [go_sem, Nat.reduceBEq, Nat.reduceAdd, Nat.reduceMul, Nat.reduceLeDiff, ↓reduceIte, rd_new_lt, own_new_lt, mp_new_lt, rd_newm_lt, own_newm_lt, mp_newm_lt, rd_wr_ne, own_wr_ne, mp_wr_ne, rd_wrm_ne, own_wrm_ne, mp_wrm_ne, rd_new_eq, own_new_eq, mp_newm_eq, Int.toNat_natCast, ext_str]
      have f2 : Fresh H1 (H1.new 9 [strV ((l.take i).drop fr)]) := (Ext.refl _ _).new _ _
      have hlen : ps.length ≤ 1000001 := by
        have := congrArg List.length hps
        rw [List.length_append] at this
        omega
      refine Sl.append (s1.ext f2 (fun _ _ h => h)) (Sl.lit_at (size := 1) (n := 1) (xs := [strV ((l.take i).drop fr)]) rfl rfl).rd rfl (ones_str [_]) (by omega) ?_
      intro v' H' fp' s3 e3 hfp
      obtain ⟨b', rfl, hb'⟩ : ∃ b', fp' = some b' ∧ H.size ≤ b' := by
        rcases hfp with rfl | ⟨b', rfl, h1, h2⟩
        · exact ⟨b, rfl, hb⟩
        · exact ⟨b', rfl, Nat.le_trans (f1.trans f2).size h1⟩
      simp (disch := (first | omega | (simp only [size_new, size_newm, size_wr, size_wrm] <;> omega) | fail)) only [go_sem, Nat.reduceBEq, Nat.reduceAdd, Nat.reduceMul, Nat.reduceLeDiff, ↓reduceIte, rd_new_lt, own_new_lt, mp_new_lt, rd_newm_lt, own_newm_lt, mp_newm_lt, rd_wr_ne, own_wr_ne, mp_wr_ne, rd_wrm_ne, own_wrm_ne, mp_wrm_ne, rd_new_eq, own_new_eq, mp_newm_eq]
      rw [wrap64 (n := (i : Int) + 1) (by omega) (by omega)]
      have hdrop : l.drop fr = (l.take i).drop fr ++ x :: l.drop (i + 1) := by
        have h6 : l.drop i = x :: l.drop (i + 1) := by
          rw [List.drop_eq_getElem_cons (by omega)]
          rw [List.getElem?_eq_getElem (by omega)] at hx
          injection hx with hx
          rw [hx]
        conv => lhs; rw [← List.take_append_drop i l, List.drop_append, h6]
        rw [show fr - (l.take i).length = 0 by rw [List.length_take]; omega, List.drop_zero]
      refine ⟨l.length - (i + 1), by omega, i + 1, i + 1, ps ++ [(l.take i).drop fr], v', b', rfl, by omega, by omega, ?_, ?_, rfl, ?_, hb', by rw [List.map_append, List.length_append]; exact s3⟩
      · rw [List.drop_eq_nil_of_le (by rw [List.length_take]; omega)]; simp
      · rw [hps, hdrop, pieces_at _ _ hc, List.append_assoc]; rfl
      · exact (f1.trans f2).then e3 (fun z (hz : some b = some z) => by injection hz with hz; omega)
    · rw [wrap64 (n := (i : Int) + 1) (by omega) (by omega)]
      refine ⟨l.length - (i + 1), by omega, i + 1, fr, ps, v, b, rfl, by omega, by omega, ?_, hps, rfl, f1, hb, s1⟩
      rw [List.take_add_one, hx, List.drop_append, List.mem_append]
      rintro (h | h)
      · exact hc h
      · rw [show fr - (l.take i).length = 0 by rw [List.length_take]; omega, List.drop_zero] at h
        simp at h
        exact h4 (by rw [h])
  · have hi2 : i = l.length := by omega
    refine ⟨⟨by omega, by omega, by omega⟩, ?_⟩
    simp (disch := (first | omega | (simp only [size_new, size_newm, size_wr, size_wrm] <;> omega) | fail)) only [go_sem, Nat.reduceBEq, Nat.reduceAdd, Nat.reduceMul, Nat.reduceLeDiff, ↓reduceIte, rd_new_lt, own_new_lt, mp_new_lt, rd_newm_lt, own_newm_lt, mp_newm_lt, rd_wr_ne, own_wr_ne, mp_wr_ne, rd_wrm_ne, own_wrm_ne, mp_wrm_ne, rd_new_eq, own_new_eq, mp_newm_eq, Int.toNat_natCast, ext_str, hz]
    have hlen : ps.length ≤ 1000001 := by
      have := congrArg List.length hps
      rw [List.length_append] at this
      omega
    have hdr : (l.take l.length).drop fr = l.drop fr := by rw [List.take_length]
    rw [hdr]
    have f2 : Fresh H1 (H1.new 9 [strV (l.drop fr)]) := (Ext.refl _ _).new _ _
    refine Sl.append (s1.ext f2 (fun _ _ h => h)) (Sl.lit_at (size := 1) (n := 1) (xs := [strV (l.drop fr)]) rfl rfl).rd rfl (ones_str [_]) (by omega) ?_
    intro v' H' fp' s3 e3 hfp
    simp (disch := (first | omega | (simp only [size_new, size_newm, size_wr, size_wrm] <;> omega) | fail)) only [go_sem, Nat.reduceBEq, Nat.reduceAdd, Nat.reduceMul, Nat.reduceLeDiff, ↓reduceIte, rd_new_lt, own_new_lt, mp_new_lt, rd_newm_lt, own_newm_lt, mp_newm_lt, rd_wr_ne, own_wr_ne, mp_wr_ne, rd_wrm_ne, own_wrm_ne, mp_wrm_ne, rd_new_eq, own_new_eq, mp_newm_eq]
    refine ⟨(f1.trans f2).then e3 (fun z (hz : some b = some z) => by injection hz with hz; omega), ?_⟩
    subst hi2
    rw [List.take_length] at hc
    rw [pieces_free _ hc] at hps
    obtain ⟨b', rfl, hb'⟩ : ∃ b', fp' = some b' ∧ H.size ≤ b' := by
      rcases hfp with rfl | ⟨b', rfl, h1, h2⟩
      · exact ⟨b, rfl, hb⟩
      · exact ⟨b', rfl, Nat.le_trans (f1.trans f2).size h1⟩
    exact ⟨b', hb', by rw [hps, List.map_append, List.length_append]; exact s3⟩

theorem ref18_small_spec (H : Hp) (l : List UInt8) (hl : l.length ≤ 1000000) : CallH Tryd.prog n_ref18_small [strV l] H fun v H' => Post (
    ((∃ u : Nat, u < 4294967296 ∧ l = Lib.decDigits u ∧ v = .tuple [u32 u, .bool true].toArray) ∨ ((∀ u : Nat, u < 4294967296 → l ≠ Lib.decDigits u) ∧ v = .tuple [u32 0, .bool false].toArray)) ∧ H = H') := by
  refine c_ref18_small ⟨rfl, ?_⟩
  simp (disch := (first | omega | (simp only [size_new, size_newm, size_wr, size_wrm] <;> omega) | fail)) only [go_sem, Nat.reduceBEq, Nat.reduceAdd, Nat.reduceMul, Nat.reduceLeDiff, ↓reduceIte, rd_new_lt, own_new_lt, mp_new_lt, rd_newm_lt, own_newm_lt, mp_newm_lt, rd_wr_ne, own_wr_ne, mp_wr_ne, rd_wrm_ne, own_wrm_ne, mp_wrm_ne, rd_new_eq, own_new_eq, mp_newm_eq, s_ref18_small]
  refine (ref01_Number_spec H l hl).mono ?_
  rintro _ _ ⟨⟨n, h0, h1, h2, rfl⟩ | ⟨h2, rfl⟩, rfl⟩ <;> simp (disch := (first | omega | (simp only [size_new, size_newm, size_wr, size_wrm] <;> omega) | fail)) only [go_sem, Nat.reduceBEq, Nat.reduceAdd, Nat.reduceMul, Nat.reduceLeDiff, ↓reduceIte, rd_new_lt, own_new_lt, mp_new_lt, rd_newm_lt, own_newm_lt, mp_newm_lt, rd_wr_ne, own_wr_ne, mp_wr_ne, rd_wrm_ne, own_wrm_ne, mp_wrm_ne, rd_new_eq, own_new_eq, mp_newm_eq, Bool.not_true, Bool.not_false]
  · refine Both.dec (fun h3 => ?_) (fun h3 => ?_) <;> simp (disch := (first | omega | (simp only [size_new, size_newm, size_wr, size_wrm] <;> omega) | fail)) only [go_sem, Nat.reduceBEq, Nat.reduceAdd, Nat.reduceMul, Nat.reduceLeDiff, ↓reduceIte, rd_new_lt, own_new_lt, mp_new_lt, rd_newm_lt, own_newm_lt, mp_newm_lt, rd_wr_ne, own_wr_ne, mp_wr_ne, rd_wrm_ne, own_wrm_ne, mp_wrm_ne, rd_new_eq, own_new_eq, mp_newm_eq]
    · refine ⟨.inr ⟨fun u hu h => ?_, rfl⟩, rfl⟩
      have := itoa_inj h0 h1 (by omega) (by omega) (h2.symm.trans (h.trans (Lib.itoa_nonneg u).symm))
      omega
    refine Both.dec (fun h4 => ?_) (fun h4 => ?_) <;> simp (disch := (first | omega | (simp only [size_new, size_newm, size_wr, size_wrm] <;> omega) | fail)) only [go_sem, Nat.reduceBEq, Nat.reduceAdd, Nat.reduceMul, Nat.reduceLeDiff, ↓reduceIte, rd_new_lt, own_new_lt, mp_new_lt, rd_newm_lt, own_newm_lt, mp_newm_lt, rd_wr_ne, own_wr_ne, mp_wr_ne, rd_wrm_ne, own_wrm_ne, mp_wrm_ne, rd_new_eq, own_new_eq, mp_newm_eq]
    · refine ⟨.inr ⟨fun u hu h => ?_, rfl⟩, rfl⟩
      have := itoa_inj h0 h1 (by omega) (by omega) (h2.symm.trans (h.trans (Lib.itoa_nonneg u).symm))
      omega
    · rw [wrapU32 (n := n) (by omega) (by omega)]
      refine ⟨.inl ⟨n.toNat, by omega, ?_, ?_⟩, rfl⟩
      · rw [h2]
        have : n = (n.toNat : Int) := by omega
        conv => lhs; rw [this]
        exact Lib.itoa_nonneg _
      · rw [show ((n.toNat : Nat) : Int) = n by omega]; rfl
  · refine ⟨.inr ⟨fun u hu h => h2 u (by omega) (by omega) (by rw [Lib.itoa_nonneg]; exact h), rfl⟩, rfl⟩

end Go.Proofs.YtapoboiofpmheaaDoor
