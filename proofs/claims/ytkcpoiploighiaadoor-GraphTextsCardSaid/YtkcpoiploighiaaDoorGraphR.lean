/-
  The numbers behind a line's word, as the document reads them.
-/
import Derived.Test.YtkcpoiploighiaaDoorGraphW
set_option linter.unusedVariables false
set_option linter.unusedSimpArgs false
namespace Go.Proofs.YtkcpoiploighiaaDoor
open Go Go.Vc

/-- The numbers behind the word, or none. -/
def readL (word x : List UInt8) : List Int := if (pieces 32 x).headD [] = word then (numsL (pieces 32 x).tail).getD [] else []

theorem read_none {word x : List UInt8} (h : (pieces 32 x).headD [] ≠ word ∨ numsL (pieces 32 x).tail = none) : readL word x = [] := by
  unfold readL
  split
  · rename_i h1
    rcases h with h | h
    · exact absurd h1 h
    · rw [h]; rfl
  · rfl
theorem read_nums {word x : List UInt8} {many : Nat} (hm : 0 < many) (h : (readL word x).length = many) : numsG word many x = some (readL word x) := by
  unfold readL at h ⊢
  split at h
  · rename_i h1
    cases hn : numsL (pieces 32 x).tail with
    | none => rw [hn] at h; simp at h; omega
    | some l =>
      rw [hn] at h
      have hl := numsL_len _ _ hn
      have hne := List.length_pos_iff.2 (pieces_ne 32 x)
      rw [List.length_tail] at hl
      simp only [Option.getD_some] at h
      unfold numsG
      rw [if_pos ⟨h1, by omega⟩, if_pos h1, hn]
      rfl
  · simp at h; omega
theorem read_other {word x : List UInt8} {many : Nat} (h : (readL word x).length ≠ many) : numsG word many x = none := by
  unfold numsG
  split
  · rename_i h1
    cases hn : numsL (pieces 32 x).tail with
    | none => rfl
    | some l =>
      exfalso
      apply h
      have hl := numsL_len _ _ hn
      rw [List.length_tail] at hl
      unfold readL
      rw [if_pos h1.1, hn]
      simp only [Option.getD_some]
      omega
  · rfl
theorem read_len (word x : List UInt8) : (readL word x).length ≤ x.length := by
  unfold readL
  split
  · cases hn : numsL (pieces 32 x).tail with
    | none => simp
    | some l =>
      have hl := numsL_len _ _ hn
      have := (len_piece 32 _ x (Nat.le_refl _)).2
      rw [List.length_tail] at hl
      simp only [Option.getD_some]
      omega
  · simp
theorem read_range (word x : List UInt8) : ∀ n ∈ readL word x, -9223372036854775808 ≤ n ∧ n ≤ 9223372036854775807 := by
  unfold readL
  split
  · cases hn : numsL (pieces 32 x).tail with
    | none => simp
    | some l => exact numsL_range _ _ hn
  · simp

theorem ref01_numO_spec (H : Hp) (l : List UInt8) (hl : l.length ≤ 1000000) : CallH Tryd.prog n_ref01_Number [strV l] H fun v H' => Post (H = H' ∧
    ((∃ n : Int, numO l = some n ∧ v = .tuple [i64 n, .bool true].toArray) ∨ (numO l = none ∧ v = .tuple [i64 0, .bool false].toArray))) := by
  refine (ref01_Number_spec H l hl).mono ?_
  rintro v H' ⟨⟨n, h0, h1, h2, rfl⟩ | ⟨h, rfl⟩, f⟩
  · exact ⟨f, .inl ⟨n, by rw [h2]; exact numO_itoa h0 h1, rfl⟩⟩
  · exact ⟨f, .inr ⟨numO_none h, rfl⟩⟩

set_option maxHeartbeats 2000000 in
theorem ref21_read_spec (H : Hp) (x word : List UInt8) (hx : x.length ≤ 1000000) : CallH Tryd.prog n_ref21_read [strV x, strV word] H fun v H' => Post (Fresh H H' ∧ ∃ fp, Sl H' 1 v (readL word x).length ((readL word x).map i64) fp ∧ ∀ b, fp = some b → H.size ≤ b) := by
  refine c_ref21_read ⟨rfl, ?_⟩
  simp (disch := (first | omega | (simp only [size_new, size_newm, size_wr, size_wrm] <;> omega) | fail)) only [go_sem, Nat.reduceBEq, Nat.reduceAdd, Nat.reduceMul, Nat.reduceLeDiff, ↓reduceIte, rd_new_lt, own_new_lt, mp_new_lt, rd_newm_lt, own_newm_lt, mp_newm_lt, rd_wr_ne, own_wr_ne, mp_wr_ne, rd_wrm_ne, own_wrm_ne, mp_wrm_ne, rd_new_eq, own_new_eq, mp_newm_eq, s_ref21_read]
  refine (ref21_words_spec H x hx).mono ?_
  rintro _ Hw ⟨fw, bw, cw, hbw, rfl, sw⟩
  have hne := pieces_ne 32 x
  obtain ⟨lp1, lp2⟩ := len_piece 32 _ x (Nat.le_refl _)
  have hrl : readL word x = if (pieces 32 x).headD [] = word then (numsL (pieces 32 x).tail).getD [] else [] := rfl
  have hrn := @read_none word x
  generalize readL word x = rl at *
  generalize pieces 32 x = ws at *
  have hpos := List.length_pos_iff.2 hne
  simp (disch := (first | omega | (simp only [size_new, size_newm, size_wr, size_wrm] <;> omega) | fail)) only [go_sem, Nat.reduceBEq, Nat.reduceAdd, Nat.reduceMul, Nat.reduceLeDiff, ↓reduceIte, rd_new_lt, own_new_lt, mp_new_lt, rd_newm_lt, own_newm_lt, mp_newm_lt, rd_wr_ne, own_wr_ne, mp_wr_ne, rd_wrm_ne, own_wrm_ne, mp_wrm_ne, rd_new_eq, own_new_eq, mp_newm_eq]
  have f0 : Fresh Hw (Hw.new 2 []) := (Ext.refl _ _).new _ _
  have s0 : Sl (Hw.new 2 []) 1 (.slice (some ⟨Hw.size, 0, none⟩) 0 0) 0 (([] : List Int).map i64) (some Hw.size) := Sl.lit_at (size := 1) (n := 0) (xs := []) rfl rfl
  have hz0 : (Hw.new 2 []).size = Hw.size + 1 := by rw [size_new]
  have rw0 := (sw.ext f0 (fun _ _ h => h)).rd
  generalize Hw.new 2 [] = H0 at *
  have hHw := fw.size
  have fw0 := fw.trans f0
  refine LoopV.intro (fun m env H' => ∃ (j : Nat) (l : List Int) (v : Value) (b : Nat), m = ws.length - j ∧ j ≤ ws.length ∧ l.length = j - 1 ∧ (0 < j → ws.headD [] = word) ∧ numsL (ws.tail.take (j - 1)) = some l ∧ Fresh Hw H' ∧ Hw.size ≤ b ∧ Sl H' 1 v l.length (l.map i64) (some b) ∧
    env = [(1, strV word), (6, v), (14, .slice (some ⟨bw, 0, none⟩) ws.length cw), (15, i64 ws.length), (16, i64 j)]) ws.length ⟨0, [], _, Hw.size, by omega, by omega, rfl, by omega, rfl, f0, by omega, s0, rfl⟩ ?_
  rintro m env H1 ⟨j, l, v, b, hm, hj, hlj, hhd, hnl, f1, hb, s1, rfl⟩
  have r1 := (sw.ext f1 (fun _ _ h => h)).rd
  simp (disch := (first | omega | (simp only [size_new, size_newm, size_wr, size_wrm] <;> omega) | fail)) only [go_sem, Nat.reduceBEq, Nat.reduceAdd, Nat.reduceMul, Nat.reduceLeDiff, ↓reduceIte, rd_new_lt, own_new_lt, mp_new_lt, rd_newm_lt, own_newm_lt, mp_newm_lt, rd_wr_ne, own_wr_ne, mp_wr_ne, rd_wrm_ne, own_wrm_ne, mp_wrm_ne, rd_new_eq, own_new_eq, mp_newm_eq]
  refine Both.dec (fun hlt => ?_) (fun hlt => ?_) <;> simp (disch := (first | omega | (simp only [size_new, size_newm, size_wr, size_wrm] <;> omega) | fail)) only [go_sem, Nat.reduceBEq, Nat.reduceAdd, Nat.reduceMul, Nat.reduceLeDiff, ↓reduceIte, rd_new_lt, own_new_lt, mp_new_lt, rd_newm_lt, own_newm_lt, mp_newm_lt, rd_wr_ne, own_wr_ne, mp_wr_ne, rd_wrm_ne, own_wrm_ne, mp_wrm_ne, rd_new_eq, own_new_eq, mp_newm_eq]
  · have hj2 : j < ws.length := by omega
    obtain ⟨y, hy⟩ : ∃ y, ws[j]? = some y := ⟨_, List.getElem?_eq_getElem hj2⟩
    obtain ⟨_, b', o, lb, ha, hrd, hlb⟩ := RdS.str r1 hy
    injection ha with ha
    injection ha with ha1 ha2
    subst ha1; subst ha2
    have hymem := List.mem_of_getElem? hy
    have hylen := lp1 y hymem
    refine ⟨⟨by omega, by omega⟩, ?_⟩
    rw [Nat.zero_add] at hlb
    simp (disch := (first | omega | (simp only [size_new, size_newm, size_wr, size_wrm] <;> omega) | fail)) only [go_sem, Nat.reduceBEq, Nat.reduceAdd, Nat.reduceMul, Nat.reduceLeDiff, ↓reduceIte, rd_new_lt, own_new_lt, mp_new_lt, rd_newm_lt, own_newm_lt, mp_newm_lt, rd_wr_ne, own_wr_ne, mp_wr_ne, rd_wrm_ne, own_wrm_ne, mp_wrm_ne, rd_new_eq, own_new_eq, mp_newm_eq, hrd, Int.toNat_natCast, Nat.mul_one, Nat.zero_add, hlb]
    refine (ref01_numO_spec H1 y (by omega)).mono ?_
    have hw1 := wrap64 (n := (j : Int) + 1) (by omega) (by omega)
    rintro vn _ ⟨rfl, hnum⟩
    obtain ⟨k, q, rfl, hq⟩ : ∃ (k : Int) (q : Bool), vn = .tuple [i64 k, .bool q].toArray ∧ ((q = true ∧ numO y = some k) ∨ (q = false ∧ numO y = none)) := by
      rcases hnum with ⟨n, hn, rfl⟩ | ⟨hn, rfl⟩
      · exact ⟨n, true, rfl, .inl ⟨rfl, hn⟩⟩
      · exact ⟨0, false, rfl, .inr ⟨rfl, hn⟩⟩
    clear hnum
    by_cases hj0 : j = 0
    · subst hj0
      have hhd0 : ws.headD [] = y := by rw [List.headD_eq_head?_getD, List.head?_eq_getElem?, hy]; rfl
      simp (disch := (first | omega | (simp only [size_new, size_newm, size_wr, size_wrm] <;> omega) | fail)) only [go_sem, Nat.reduceBEq, Nat.reduceAdd, Nat.reduceMul, Nat.reduceLeDiff, ↓reduceIte, rd_new_lt, own_new_lt, mp_new_lt, rd_newm_lt, own_newm_lt, mp_newm_lt, rd_wr_ne, own_wr_ne, mp_wr_ne, rd_wrm_ne, own_wrm_ne, mp_wrm_ne, rd_new_eq, own_new_eq, mp_newm_eq]
      refine Both.of_true (by simp) ?_
      simp (disch := (first | omega | (simp only [size_new, size_newm, size_wr, size_wrm] <;> omega) | fail)) only [go_sem, Nat.reduceBEq, Nat.reduceAdd, Nat.reduceMul, Nat.reduceLeDiff, ↓reduceIte, rd_new_lt, own_new_lt, mp_new_lt, rd_newm_lt, own_newm_lt, mp_newm_lt, rd_wr_ne, own_wr_ne, mp_wr_ne, rd_wrm_ne, own_wrm_ne, mp_wrm_ne, rd_new_eq, own_new_eq, mp_newm_eq, eq_bytes]
      refine Both.dec (fun h1 => ?_) (fun h1 => ?_) <;> simp (disch := (first | omega | (simp only [size_new, size_newm, size_wr, size_wrm] <;> omega) | fail)) only [go_sem, Nat.reduceBEq, Nat.reduceAdd, Nat.reduceMul, Nat.reduceLeDiff, ↓reduceIte, rd_new_lt, own_new_lt, mp_new_lt, rd_newm_lt, own_newm_lt, mp_newm_lt, rd_wr_ne, own_wr_ne, mp_wr_ne, rd_wrm_ne, own_wrm_ne, mp_wrm_ne, rd_new_eq, own_new_eq, mp_newm_eq]
      · refine Both.dec (fun h2 => ?_) (fun h2 => ?_) <;> simp (disch := (first | omega | (simp only [size_new, size_newm, size_wr, size_wrm] <;> omega) | fail)) only [go_sem, Nat.reduceBEq, Nat.reduceAdd, Nat.reduceMul, Nat.reduceLeDiff, ↓reduceIte, rd_new_lt, own_new_lt, mp_new_lt, rd_newm_lt, own_newm_lt, mp_newm_lt, rd_wr_ne, own_wr_ne, mp_wr_ne, rd_wrm_ne, own_wrm_ne, mp_wrm_ne, rd_new_eq, own_new_eq, mp_newm_eq]
        · exact absurd h2 (by simp)
        refine Both.dec (fun h3 => ?_) (fun h3 => ?_) <;> simp (disch := (first | omega | (simp only [size_new, size_newm, size_wr, size_wrm] <;> omega) | fail)) only [go_sem, Nat.reduceBEq, Nat.reduceAdd, Nat.reduceMul, Nat.reduceLeDiff, ↓reduceIte, rd_new_lt, own_new_lt, mp_new_lt, rd_newm_lt, own_newm_lt, mp_newm_lt, rd_wr_ne, own_wr_ne, mp_wr_ne, rd_wrm_ne, own_wrm_ne, mp_wrm_ne, rd_new_eq, own_new_eq, mp_newm_eq]
        · exact absurd h3 (by simp)
        have hl0 : l = [] := List.length_eq_zero_iff.1 hlj
        subst hl0
        exact ⟨ws.length - 1, by omega, 1, [], v, b, rfl, by omega, rfl, fun _ => hhd0.trans h1, rfl, f1, hb, s1, rfl⟩
      · rw [hrn (.inl (by rw [hhd0]; exact h1))]
        exact ⟨(fw.trans f1), none, Sl.nil _ _, by intro b h; cases h⟩
    · have hjm : ws.tail[j - 1]? = some y := by rw [← List.drop_one, List.getElem?_drop, show 1 + (j - 1) = j by omega]; exact hy
      have htk : ws.tail.take (j - 1 + 1) = ws.tail.take (j - 1) ++ [y] := by rw [List.take_add_one, hjm]; rfl
      have hsn := numsL_snoc (ws.tail.take (j - 1)) y
      rw [← htk, hnl] at hsn
      simp (disch := (first | omega | (simp only [size_new, size_newm, size_wr, size_wrm] <;> omega) | fail)) only [go_sem, Nat.reduceBEq, Nat.reduceAdd, Nat.reduceMul, Nat.reduceLeDiff, ↓reduceIte, rd_new_lt, own_new_lt, mp_new_lt, rd_newm_lt, own_newm_lt, mp_newm_lt, rd_wr_ne, own_wr_ne, mp_wr_ne, rd_wrm_ne, own_wrm_ne, mp_wrm_ne, rd_new_eq, own_new_eq, mp_newm_eq]
      refine Both.dec (fun h1 => ?_) (fun h1 => ?_) <;> simp (disch := (first | omega | (simp only [size_new, size_newm, size_wr, size_wrm] <;> omega) | fail)) only [go_sem, Nat.reduceBEq, Nat.reduceAdd, Nat.reduceMul, Nat.reduceLeDiff, ↓reduceIte, rd_new_lt, own_new_lt, mp_new_lt, rd_newm_lt, own_newm_lt, mp_newm_lt, rd_wr_ne, own_wr_ne, mp_wr_ne, rd_wrm_ne, own_wrm_ne, mp_wrm_ne, rd_new_eq, own_new_eq, mp_newm_eq]
      · omega
      refine Both.dec (fun h2 => ?_) (fun h2 => ?_) <;> simp (disch := (first | omega | (simp only [size_new, size_newm, size_wr, size_wrm] <;> omega) | fail)) only [go_sem, Nat.reduceBEq, Nat.reduceAdd, Nat.reduceMul, Nat.reduceLeDiff, ↓reduceIte, rd_new_lt, own_new_lt, mp_new_lt, rd_newm_lt, own_newm_lt, mp_newm_lt, rd_wr_ne, own_wr_ne, mp_wr_ne, rd_wrm_ne, own_wrm_ne, mp_wrm_ne, rd_new_eq, own_new_eq, mp_newm_eq]
      rotate_left
      · omega
      rcases hq with ⟨rfl, hn⟩ | ⟨rfl, hn⟩
      · simp (disch := (first | omega | (simp only [size_new, size_newm, size_wr, size_wrm] <;> omega) | fail)) only [go_sem, Nat.reduceBEq, Nat.reduceAdd, Nat.reduceMul, Nat.reduceLeDiff, ↓reduceIte, rd_new_lt, own_new_lt, mp_new_lt, rd_newm_lt, own_newm_lt, mp_newm_lt, rd_wr_ne, own_wr_ne, mp_wr_ne, rd_wrm_ne, own_wrm_ne, mp_wrm_ne, rd_new_eq, own_new_eq, mp_newm_eq, Bool.not_true]
        refine Both.dec (fun h3 => ?_) (fun h3 => ?_) <;> simp (disch := (first | omega | (simp only [size_new, size_newm, size_wr, size_wrm] <;> omega) | fail)) only [go_sem, Nat.reduceBEq, Nat.reduceAdd, Nat.reduceMul, Nat.reduceLeDiff, ↓reduceIte, rd_new_lt, own_new_lt, mp_new_lt, rd_newm_lt, own_newm_lt, mp_newm_lt, rd_wr_ne, own_wr_ne, mp_wr_ne, rd_wrm_ne, own_wrm_ne, mp_wrm_ne, rd_new_eq, own_new_eq, mp_newm_eq]
        rotate_left
        · omega
        rw [hn] at hsn
        simp only at hsn
        have fl : Fresh H1 (H1.new 2 [i64 k]) := (Ext.refl _ _).new _ _
        refine Sl.append (s1.ext fl (fun _ _ h => h)) (Sl.lit_at (size := 1) (n := 1) (xs := [i64 k]) rfl rfl).rd rfl (ones_i64 [k]) (by omega) ?_
        intro v' H' fp' s3 e3 hfp
        obtain ⟨b2, rfl, hb2⟩ : ∃ b', fp' = some b' ∧ Hw.size ≤ b' := by
          rcases hfp with rfl | ⟨b', rfl, h1, h2⟩
          · exact ⟨b, rfl, hb⟩
          · exact ⟨b', rfl, Nat.le_trans (f1.trans fl).size h1⟩
        simp (disch := (first | omega | (simp only [size_new, size_newm, size_wr, size_wrm] <;> omega) | fail)) only [go_sem, Nat.reduceBEq, Nat.reduceAdd, Nat.reduceMul, Nat.reduceLeDiff, ↓reduceIte, rd_new_lt, own_new_lt, mp_new_lt, rd_newm_lt, own_newm_lt, mp_newm_lt, rd_wr_ne, own_wr_ne, mp_wr_ne, rd_wrm_ne, own_wrm_ne, mp_wrm_ne, rd_new_eq, own_new_eq, mp_newm_eq]
        rw [hw1]
        exact ⟨ws.length - (j + 1), by omega, j + 1, l ++ [k], v', b2, rfl, by omega, by rw [List.length_append, List.length_singleton]; omega, fun _ => hhd (by omega), by rw [show j + 1 - 1 = j - 1 + 1 by omega]; exact hsn, (f1.trans fl).then e3 (fun z (hz : some b = some z) => by injection hz with hz; omega), hb2, by rw [List.map_append, List.length_append]; exact s3, rfl⟩
      · simp (disch := (first | omega | (simp only [size_new, size_newm, size_wr, size_wrm] <;> omega) | fail)) only [go_sem, Nat.reduceBEq, Nat.reduceAdd, Nat.reduceMul, Nat.reduceLeDiff, ↓reduceIte, rd_new_lt, own_new_lt, mp_new_lt, rd_newm_lt, own_newm_lt, mp_newm_lt, rd_wr_ne, own_wr_ne, mp_wr_ne, rd_wrm_ne, own_wrm_ne, mp_wrm_ne, rd_new_eq, own_new_eq, mp_newm_eq, Bool.not_false]
        have hbad := numsL_bad ws.tail y (List.mem_of_getElem? hjm) hn
        rw [hrn (.inr hbad)]
        exact ⟨(fw.trans f1), none, Sl.nil _ _, by intro b h; cases h⟩
  · have hj2 : j = ws.length := by omega
    subst hj2
    rw [List.take_of_length_le (by rw [List.length_tail]; omega)] at hnl
    rw [if_pos (hhd (by omega)), hnl] at hrl
    rw [hrl]
    exact ⟨fw.trans f1, some b, s1, fun b' hb' => by injection hb' with hb'; omega⟩

end Go.Proofs.YtkcpoiploighiaaDoor
