/-
  A line's words and numbers, as the document reads them.
-/
import Derived.Test.YtkcpoiploighiaaDoorGraphT
import Derived.Test.YtkcpoiploighiaaDoorRef01b
import Derived.Test.YtkcpoiploighiaaDoorGraphN
set_option linter.unusedVariables false
set_option linter.unusedSimpArgs false
namespace Go.Proofs.YtkcpoiploighiaaDoor
open Go Go.Vc

/-- A byte more. -/
theorem pieces_snoc (c : UInt8) (x : UInt8) : ∀ a : List UInt8, pieces c (a ++ [x]) = if x = c then pieces c a ++ [[]] else (pieces c a).dropLast ++ [(pieces c a).getLastD [] ++ [x]] := by
  intro a
  induction a with
  | nil =>
    by_cases h : x = c
    · simp [pieces, h]
    · simp [pieces, h]
  | cons y a ih =>
    have hne := pieces_ne c a
    rw [List.cons_append, pieces, pieces]
    by_cases hy : y = c
    · rw [if_pos hy, if_pos hy, ih]
      by_cases h : x = c
      · rw [if_pos h, if_pos h]; rfl
      · rw [if_neg h, if_neg h]
        cases hp : pieces c a with
        | nil => exact absurd hp hne
        | cons p r => simp
    · rw [if_neg hy, if_neg hy, ih]
      cases hp : pieces c a with
      | nil => exact absurd hp hne
      | cons p r =>
        by_cases h : x = c
        · rw [if_pos h, if_pos h]; rfl
        · rw [if_neg h, if_neg h]
          cases r with
          | nil => simp
          | cons q r => simp

theorem ones_strs (ws : List (List UInt8)) : allOne (ws.map strV) := fun v hv => by
  obtain ⟨x, _, rfl⟩ := List.mem_map.1 hv
  rfl

theorem set_last {α : Type} (l : List α) (x : α) (h : l ≠ []) : l.set (l.length - 1) x = l.dropLast ++ [x] := by
  apply List.ext_getElem?
  intro i
  have hp := List.length_pos_iff.2 h
  by_cases hi : l.length - 1 = i
  · subst hi
    rw [List.getElem?_set_self (by omega), List.getElem?_append_right (by rw [List.length_dropLast]; omega), List.length_dropLast, Nat.sub_self]
    rfl
  · rw [List.getElem?_set_ne hi]
    by_cases h2 : i < l.length - 1
    · rw [List.getElem?_append_left (by rw [List.length_dropLast]; omega), List.getElem?_dropLast, if_pos h2]
    · rw [List.getElem?_eq_none (by omega), List.getElem?_eq_none (by simp; omega)]

set_option maxHeartbeats 2000000 in
theorem ref21_words_spec (H : Hp) (l : List UInt8) (hl : l.length ≤ 1000000) : CallH Tryd.prog n_ref21_words [strV l] H fun v H' => Post (
    Fresh H H' ∧ ∃ b c, H.size ≤ b ∧ v = .slice (some ⟨b, 0, none⟩) (pieces 32 l).length c ∧ Sl H' 1 v (pieces 32 l).length ((pieces 32 l).map strV) (some b)) := by
  refine c_ref21_words ⟨rfl, ?_⟩
  simp (disch := (first | omega | (simp only [size_new, size_newm, size_wr, size_wrm] <;> omega) | fail)) only [go_sem, Nat.reduceBEq, Nat.reduceAdd, Nat.reduceMul, Nat.reduceLeDiff, ↓reduceIte, rd_new_lt, own_new_lt, mp_new_lt, rd_newm_lt, own_newm_lt, mp_newm_lt, rd_wr_ne, own_wr_ne, mp_wr_ne, rd_wrm_ne, own_wrm_ne, mp_wrm_ne, rd_new_eq, own_new_eq, mp_newm_eq, s_ref21_words]
  have hz : l.toArray.size = l.length := List.size_toArray ..
  have s0 : Sl (H.new 9 [strV []]) 1 (.slice (some ⟨H.size, 0, none⟩) 1 1) 1 ([[]].map strV) (some H.size) := Sl.lit_at (size := 1) (n := 1) (xs := [strV []]) rfl rfl
  have f0 : Fresh H (H.new 9 [strV []]) := (Ext.refl _ _).new _ _
  have hz0 : (H.new 9 [strV []]).size = H.size + 1 := by rw [size_new]
  have e00 : (Value.string ⟨#[]⟩) = strV [] := rfl
  rw [e00]
  generalize H.new 9 [strV []] = H0 at *
  refine LoopV.intro (fun m env H' => ∃ (i : Nat) (b c : Nat), m = l.length - i ∧ i ≤ l.length ∧ env = [(0, strV l), (3, .slice (some ⟨b, 0, none⟩) (pieces 32 (l.take i)).length c), (4, i64 i)] ∧ Fresh H H' ∧ H.size ≤ b ∧ Sl H' 1 (.slice (some ⟨b, 0, none⟩) (pieces 32 (l.take i)).length c) (pieces 32 (l.take i)).length ((pieces 32 (l.take i)).map strV) (some b)) l.length ⟨0, H.size, 1, by omega, by omega, rfl, f0, by omega, s0⟩ ?_
  rintro m env H1 ⟨i, b, c, hm, hi, rfl, f1, hb, s1⟩
  simp (disch := (first | omega | (simp only [size_new, size_newm, size_wr, size_wrm] <;> omega) | fail)) only [go_sem, Nat.reduceBEq, Nat.reduceAdd, Nat.reduceMul, Nat.reduceLeDiff, ↓reduceIte, rd_new_lt, own_new_lt, mp_new_lt, rd_newm_lt, own_newm_lt, mp_newm_lt, rd_wr_ne, own_wr_ne, mp_wr_ne, rd_wrm_ne, own_wrm_ne, mp_wrm_ne, rd_new_eq, own_new_eq, mp_newm_eq]
  refine Both.dec (fun h3 => ?_) (fun h3 => ?_) <;> simp (disch := (first | omega | (simp only [size_new, size_newm, size_wr, size_wrm] <;> omega) | fail)) only [go_sem, Nat.reduceBEq, Nat.reduceAdd, Nat.reduceMul, Nat.reduceLeDiff, ↓reduceIte, rd_new_lt, own_new_lt, mp_new_lt, rd_newm_lt, own_newm_lt, mp_newm_lt, rd_wr_ne, own_wr_ne, mp_wr_ne, rd_wrm_ne, own_wrm_ne, mp_wrm_ne, rd_new_eq, own_new_eq, mp_newm_eq]
  · obtain ⟨x, hx⟩ : ∃ x, l[i]? = some x := ⟨_, List.getElem?_eq_getElem (by omega)⟩
    have htk : l.take (i + 1) = l.take i ++ [x] := by rw [List.take_add_one, hx]; rfl
    have hps := pieces_snoc 32 x (l.take i)
    rw [← htk] at hps
    have hne := pieces_ne 32 (l.take i)
    have hlp := (len_piece 32 _ (l.take i) (Nat.le_refl _)).2
    rw [List.length_take] at hlp
    have hw1 := wrap64 (n := (i : Int) + 1) (by omega) (by omega)
    simp (disch := (first | omega | (simp only [size_new, size_newm, size_wr, size_wrm] <;> omega) | fail)) only [go_sem, Nat.reduceBEq, Nat.reduceAdd, Nat.reduceMul, Nat.reduceLeDiff, ↓reduceIte, rd_new_lt, own_new_lt, mp_new_lt, rd_newm_lt, own_newm_lt, mp_newm_lt, rd_wr_ne, own_wr_ne, mp_wr_ne, rd_wrm_ne, own_wrm_ne, mp_wrm_ne, rd_new_eq, own_new_eq, mp_newm_eq, get_str, Int.toNat_natCast, hx, also_nn]
    refine Both.dec (fun h4 => ?_) (fun h4 => ?_) <;> simp (disch := (first | omega | (simp only [size_new, size_newm, size_wr, size_wrm] <;> omega) | fail)) only [go_sem, Nat.reduceBEq, Nat.reduceAdd, Nat.reduceMul, Nat.reduceLeDiff, ↓reduceIte, rd_new_lt, own_new_lt, mp_new_lt, rd_newm_lt, own_newm_lt, mp_newm_lt, rd_wr_ne, own_wr_ne, mp_wr_ne, rd_wrm_ne, own_wrm_ne, mp_wrm_ne, rd_new_eq, own_new_eq, mp_newm_eq]
    · have hxc : x = 32 := UInt8.toNat_inj.1 (by show x.toNat = 32; omega)
      rw [if_pos hxc] at hps
      rw [e00]
      have f2 : Fresh H1 (H1.new 9 [strV []]) := (Ext.refl _ _).new _ _
      refine Sl.append (s1.ext f2 (fun _ _ h => h)) (Sl.lit_at (size := 1) (n := 1) (xs := [strV []]) rfl rfl).rd rfl (ones_strs [_]) (by omega) ?_
      intro v' H' fp' s3 e3 hfp
      obtain ⟨b', rfl, hb'⟩ : ∃ b', fp' = some b' ∧ H.size ≤ b' := by
        rcases hfp with rfl | ⟨b', rfl, h1, h2⟩
        · exact ⟨b, rfl, hb⟩
        · exact ⟨b', rfl, Nat.le_trans (f1.trans f2).size h1⟩
      have s4 : Sl H' 1 v' (pieces 32 (l.take (i + 1))).length ((pieces 32 (l.take (i + 1))).map strV) (some b') := by rw [hps, List.length_append, List.map_append]; exact s3
      obtain ⟨_, lv, cv, rfl, _⟩ := id s3
      simp (disch := (first | omega | (simp only [size_new, size_newm, size_wr, size_wrm] <;> omega) | fail)) only [go_sem, Nat.reduceBEq, Nat.reduceAdd, Nat.reduceMul, Nat.reduceLeDiff, ↓reduceIte, rd_new_lt, own_new_lt, mp_new_lt, rd_newm_lt, own_newm_lt, mp_newm_lt, rd_wr_ne, own_wr_ne, mp_wr_ne, rd_wrm_ne, own_wrm_ne, mp_wrm_ne, rd_new_eq, own_new_eq, mp_newm_eq]
      rw [hw1]
      have hlen : (pieces 32 (l.take i)).length + 1 = (pieces 32 (l.take (i + 1))).length := by rw [hps, List.length_append]; rfl
      rw [hlen] at s4 ⊢
      exact ⟨l.length - (i + 1), by omega, i + 1, b', cv, rfl, by omega, rfl, (f1.trans f2).then e3 (fun z (hz : some b = some z) => by injection hz with hz; omega), hb', s4⟩
    · have hxc : x ≠ 32 := fun e => h4 (by rw [e]; rfl)
      rw [if_neg hxc] at hps
      generalize hps0 : pieces 32 (l.take i) = ps at *
      have hpos := List.length_pos_iff.2 hne
      have hw2 := wrap64 (n := (ps.length : Int) - 1) (by omega) (by omega)
      have s1' := id s1
      obtain ⟨_, lv, cv, hv, how, hcv, hle, htake⟩ := s1
      injection hv with _ _ hcc
      subst hcc
      have hlast : ps[ps.length - 1]? = some (ps.getLastD []) := by
        rw [List.getLastD_eq_getLast?, List.getLast?_eq_getElem?, List.getElem?_eq_getElem (by omega)]; rfl
      have hcell := Sl.get s1' how (i := ps.length - 1) (x := strV (ps.getLastD [])) (by rw [List.getElem?_map, hlast]; rfl)
      have hin : (ps.length : Int) - 1 = ((ps.length - 1 : Nat) : Int) := by omega
      rw [hw2, hin]
      refine ⟨⟨by omega, by omega⟩, ?_⟩
      simp (disch := (first | omega | (simp only [size_new, size_newm, size_wr, size_wrm] <;> omega) | fail)) only [go_sem, Nat.reduceBEq, Nat.reduceAdd, Nat.reduceMul, Nat.reduceLeDiff, ↓reduceIte, rd_new_lt, own_new_lt, mp_new_lt, rd_newm_lt, own_newm_lt, mp_newm_lt, rd_wr_ne, own_wr_ne, mp_wr_ne, rd_wrm_ne, own_wrm_ne, mp_wrm_ne, rd_new_eq, own_new_eq, mp_newm_eq, rd_of_own how, Int.toNat_natCast, Nat.mul_one, Nat.zero_add, hcell]
      rw [hw1]
      refine ⟨⟨by omega, by omega, by omega⟩, ?_⟩
      have hi1 : ((i : Int) + 1).toNat = i + 1 := by omega
      have hex : (l.take (i + 1)).drop i = [x] := by rw [htk, List.drop_left' (by rw [List.length_take]; omega)]
      simp (disch := (first | omega | (simp only [size_new, size_newm, size_wr, size_wrm] <;> omega) | fail)) only [go_sem, Nat.reduceBEq, Nat.reduceAdd, Nat.reduceMul, Nat.reduceLeDiff, ↓reduceIte, rd_new_lt, own_new_lt, mp_new_lt, rd_newm_lt, own_newm_lt, mp_newm_lt, rd_wr_ne, own_wr_ne, mp_wr_ne, rd_wrm_ne, own_wrm_ne, mp_wrm_ne, rd_new_eq, own_new_eq, mp_newm_eq, Int.toNat_natCast, hi1, ext_str, hex]
      have hll : (ps.getLastD []).length ≤ 1000000 := by
        have := (len_piece 32 _ (l.take i) (Nat.le_refl _)).1 (ps.getLastD []) (by rw [hps0]; exact List.mem_of_getElem? hlast)
        rw [List.length_take] at this
        omega
      rw [cat_big (ps.getLastD []) [x] (by simp only [List.length_cons, List.length_nil]; omega)]
      simp (disch := (first | omega | (simp only [size_new, size_newm, size_wr, size_wrm] <;> omega) | fail)) only [go_sem, Nat.reduceBEq, Nat.reduceAdd, Nat.reduceMul, Nat.reduceLeDiff, ↓reduceIte, rd_new_lt, own_new_lt, mp_new_lt, rd_newm_lt, own_newm_lt, mp_newm_lt, rd_wr_ne, own_wr_ne, mp_wr_ne, rd_wrm_ne, own_wrm_ne, mp_wrm_ne, rd_new_eq, own_new_eq, mp_newm_eq]
      refine ⟨⟨by omega, by omega⟩, ?_⟩
      simp (disch := (first | omega | (simp only [size_new, size_newm, size_wr, size_wrm] <;> omega) | fail)) only [go_sem, Nat.reduceBEq, Nat.reduceAdd, Nat.reduceMul, Nat.reduceLeDiff, ↓reduceIte, rd_new_lt, own_new_lt, mp_new_lt, rd_newm_lt, own_newm_lt, mp_newm_lt, rd_wr_ne, own_wr_ne, mp_wr_ne, rd_wrm_ne, own_wrm_ne, mp_wrm_ne, rd_new_eq, own_new_eq, mp_newm_eq, Int.toNat_natCast, Nat.mul_one, Nat.zero_add, how]
      refine ⟨by omega, ?_⟩
      simp (disch := (first | omega | (simp only [size_new, size_newm, size_wr, size_wrm] <;> omega) | fail)) only [go_sem, Nat.reduceBEq, Nat.reduceAdd, Nat.reduceMul, Nat.reduceLeDiff, ↓reduceIte, rd_new_lt, own_new_lt, mp_new_lt, rd_newm_lt, own_newm_lt, mp_newm_lt, rd_wr_ne, own_wr_ne, mp_wr_ne, rd_wrm_ne, own_wrm_ne, mp_wrm_ne, rd_new_eq, own_new_eq, mp_newm_eq]
      have s2 := Sl.set1 s1' how (ps.length - 1) (strV (ps.getLastD [] ++ [x]))
      have e2 : ((ps.map strV).set (ps.length - 1) (strV (ps.getLastD [] ++ [x]))) = (pieces 32 (l.take (i + 1))).map strV := by
        rw [hps, List.map_append, List.map_dropLast]
        have := set_last (ps.map strV) (strV (ps.getLastD [] ++ [x])) (by simpa using hne)
        rw [List.length_map] at this
        rw [this]
        rfl
      have e3 : ps.length = (pieces 32 (l.take (i + 1))).length := by rw [hps, List.length_append, List.length_dropLast]; simp; omega
      rw [e2] at s2
      rw [hw1]
      rw [e3] at s2 ⊢
      exact ⟨l.length - (i + 1), by omega, i + 1, b, c, rfl, by omega, rfl, f1.then ((Ext.refl (fun z => z = b) _).wr (fun _ => rfl) _) (fun z hz => by omega), hb, s2⟩
  · have hi2 : i = l.length := by omega
    subst hi2
    rw [List.take_length] at s1 ⊢
    exact ⟨f1, b, c, hb, rfl, s1⟩

end Go.Proofs.YtkcpoiploighiaaDoor
