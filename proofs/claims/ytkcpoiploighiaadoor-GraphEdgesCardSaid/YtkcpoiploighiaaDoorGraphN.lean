/-
  The numbers behind a line's word, as the program reads them.
-/
import Derived.Test.YtkcpoiploighiaaDoorStrs
import Derived.Test.YtkcpoiploighiaaDoorSlc
import Derived.Test.YtkcpoiploighiaaDoorGraphP
set_option linter.unusedVariables false
set_option linter.unusedSimpArgs false
namespace Go.Proofs.YtkcpoiploighiaaDoor
open Go Go.Vc Go.Lib

theorem entry_numO_spec {H : Hp} (he : ErrH H) (l : List UInt8) (hl : l.length ≤ 1000000) : CallH Tryd.prog n_entry_Number [strV l] H fun v H' => Post (Fresh H H' ∧
    ((∃ n : Int, numO l = some n ∧ v = .tuple [i64 n, .bool true].toArray) ∨ (numO l = none ∧ v = .tuple [i64 0, .bool false].toArray))) := by
  refine (entry_Number_spec he l hl).mono ?_
  rintro v H' ⟨f, ⟨n, h0, h1, h2, rfl⟩ | ⟨h, rfl⟩⟩
  · exact ⟨f, .inl ⟨n, by rw [h2]; exact numO_itoa h0 h1, rfl⟩⟩
  · exact ⟨f, .inr ⟨numO_none h, rfl⟩⟩

theorem ones_i64 (l : List Int) : allOne (l.map i64) := by
  intro v hv
  obtain ⟨x, _, rfl⟩ := List.mem_map.1 hv
  rfl

theorem numsG_short {word : List UInt8} {many : Nat} {x : List UInt8} (h : ¬ ((pieces 32 x).headD [] = word ∧ (pieces 32 x).length = many + 1)) : numsG word many x = none := if_neg h

set_option maxHeartbeats 2000000 in
theorem graph_numbers_spec {H : Hp} (he : ErrH H) (x word : List UInt8) (many : Nat) (hx : x.length ≤ 1000000) (hm : many ≤ 1000) : CallH Tryd.prog n_graph_numbers [strV x, strV word, i64 many] H fun v H' => Post (Fresh H H' ∧
    ((∃ l s fp, numsG word many x = some l ∧ v = .tuple [s, .bool true].toArray ∧ Sl H' 1 s l.length (l.map i64) fp ∧ ∀ b, fp = some b → H.size ≤ b) ∨
      (numsG word many x = none ∧ v = .tuple [.slice none 0 0, .bool false].toArray))) := by
  refine c_graph_numbers ⟨rfl, ?_⟩
  simp (disch := (first | omega | (simp only [size_new, size_newm, size_wr, size_wrm] <;> omega) | fail)) only [go_sem, Nat.reduceBEq, Nat.reduceAdd, Nat.reduceMul, Nat.reduceLeDiff, ↓reduceIte, rd_new_lt, own_new_lt, mp_new_lt, rd_newm_lt, own_newm_lt, mp_newm_lt, rd_wr_ne, own_wr_ne, mp_wr_ne, rd_wrm_ne, own_wrm_ne, mp_wrm_ne, rd_new_eq, own_new_eq, mp_newm_eq, s_graph_numbers]
  refine (strings_Split_spec he 32 x hx).mono ?_
  rintro _ _ ⟨rfl, rfl⟩
  obtain ⟨lp1, lp2⟩ := len_piece 32 _ x (Nat.le_refl _)
  have hne := pieces_ne 32 x
  have hpos := List.length_pos_iff.2 hne
  have hnG : numsG word many x = if (pieces 32 x).headD [] = word ∧ (pieces 32 x).length = many + 1 then numsL (pieces 32 x).tail else none := rfl
  generalize hws : pieces 32 x = ws at *
  obtain ⟨w0, wr, hw0⟩ : ∃ w0 wr, ws = w0 :: wr := by
    cases ws with
    | nil => exact absurd rfl hne
    | cons x r => exact ⟨x, r, rfl⟩
  have f1 : Fresh H (H.new 9 (ws.map strV)) := (Ext.refl _ _).new _ _
  have w1 := own_new H 9 (ws.map strV)
  have rw1 : RdS (H.new 9 (ws.map strV)) 1 (.slice (some ⟨H.size, 0, none⟩) ws.length ws.length) ws.length (ws.map strV) := (Sl.lit_at (size := 1) (n := ws.length) (xs := ws.map strV) (by simp) rfl).rd
  generalize H.new 9 (ws.map strV) = H1 at *
  have hw0' : (ws.map strV)[0]? = some (strV w0) := by rw [hw0]; rfl
  have hhd : ws.headD [] = w0 := by rw [hw0]; rfl
  simp (disch := (first | omega | (simp only [size_new, size_newm, size_wr, size_wrm] <;> omega) | fail)) only [go_sem, Nat.reduceBEq, Nat.reduceAdd, Nat.reduceMul, Nat.reduceLeDiff, ↓reduceIte, rd_new_lt, own_new_lt, mp_new_lt, rd_newm_lt, own_newm_lt, mp_newm_lt, rd_wr_ne, own_wr_ne, mp_wr_ne, rd_wrm_ne, own_wrm_ne, mp_wrm_ne, rd_new_eq, own_new_eq, mp_newm_eq]
  refine ⟨⟨by omega, by omega⟩, ?_⟩
  simp (disch := (first | omega | (simp only [size_new, size_newm, size_wr, size_wrm] <;> omega) | fail)) only [go_sem, Nat.reduceBEq, Nat.reduceAdd, Nat.reduceMul, Nat.reduceLeDiff, ↓reduceIte, rd_new_lt, own_new_lt, mp_new_lt, rd_newm_lt, own_newm_lt, mp_newm_lt, rd_wr_ne, own_wr_ne, mp_wr_ne, rd_wrm_ne, own_wrm_ne, mp_wrm_ne, rd_new_eq, own_new_eq, mp_newm_eq, rd_of_own w1, Int.toNat_zero, Nat.zero_mul, Nat.zero_add, hw0', eq_bytes]
  refine Both.dec (fun hq => ?_) (fun hq => ?_) <;> simp (disch := (first | omega | (simp only [size_new, size_newm, size_wr, size_wrm] <;> omega) | fail)) only [go_sem, Nat.reduceBEq, Nat.reduceAdd, Nat.reduceMul, Nat.reduceLeDiff, ↓reduceIte, rd_new_lt, own_new_lt, mp_new_lt, rd_newm_lt, own_newm_lt, mp_newm_lt, rd_wr_ne, own_wr_ne, mp_wr_ne, rd_wrm_ne, own_wrm_ne, mp_wrm_ne, rd_new_eq, own_new_eq, mp_newm_eq]
  · rw [wrap64 (n := (many : Int) + 1) (by omega) (by omega)]
    refine Both.dec (fun hlen => ?_) (fun hlen => ?_) <;> simp (disch := (first | omega | (simp only [size_new, size_newm, size_wr, size_wrm] <;> omega) | fail)) only [go_sem, Nat.reduceBEq, Nat.reduceAdd, Nat.reduceMul, Nat.reduceLeDiff, ↓reduceIte, rd_new_lt, own_new_lt, mp_new_lt, rd_newm_lt, own_newm_lt, mp_newm_lt, rd_wr_ne, own_wr_ne, mp_wr_ne, rd_wrm_ne, own_wrm_ne, mp_wrm_ne, rd_new_eq, own_new_eq, mp_newm_eq]
    · have hlen' : ws.length = many + 1 := by omega
      rw [if_pos ⟨hhd.trans hq, hlen'⟩] at hnG
      refine ⟨⟨by omega, by omega⟩, ?_⟩
      simp (disch := (first | omega | (simp only [size_new, size_newm, size_wr, size_wrm] <;> omega) | fail)) only [go_sem, Nat.reduceBEq, Nat.reduceAdd, Nat.reduceMul, Nat.reduceLeDiff, ↓reduceIte, rd_new_lt, own_new_lt, mp_new_lt, rd_newm_lt, own_newm_lt, mp_newm_lt, rd_wr_ne, own_wr_ne, mp_wr_ne, rd_wrm_ne, own_wrm_ne, mp_wrm_ne, rd_new_eq, own_new_eq, mp_newm_eq]
      obtain ⟨a', c', hv, hr, hc', hb'⟩ := slc_tail rw1 (by omega) (Nat.le_refl _)
      rw [hv]
      have hlt : ws.tail.length = many := by rw [List.length_tail]; omega
      have hn1 : ws.length - 1 = many := by omega
      have h30 : (((ws.length : Int).toNat - Int.toNat 1 : Nat) : Int) = (many : Int) := by omega
      rw [hn1] at hr hc' ⊢
      refine LoopV.intro (fun m env H' => Fresh H1 H' ∧ ∃ (j : Nat) (l : List Int) (s : Value) (fp : Option Nat), m = many - j ∧ j ≤ many ∧ numsL (ws.tail.take j) = some l ∧ l.length = j ∧ Sl H' 1 s l.length (l.map i64) fp ∧ (∀ b, fp = some b → H1.size ≤ b) ∧ env = [(9, s), (29, .slice a' many c'), (30, i64 many), (31, i64 j)]) many ⟨Ext.refl _ _, 0, [], _, none, by omega, by omega, rfl, rfl, Sl.nil _ _, by (intro b h; cases h), by rw [h30]; rfl⟩ ?_
      rintro m env H2 ⟨f2, j, l, s, fp, hm2, hj, hl, hlj, s2, hfp, rfl⟩
      have hr2 := hr.fresh f2
      simp (disch := (first | omega | (simp only [size_new, size_newm, size_wr, size_wrm] <;> omega) | fail)) only [go_sem, Nat.reduceBEq, Nat.reduceAdd, Nat.reduceMul, Nat.reduceLeDiff, ↓reduceIte, rd_new_lt, own_new_lt, mp_new_lt, rd_newm_lt, own_newm_lt, mp_newm_lt, rd_wr_ne, own_wr_ne, mp_wr_ne, rd_wrm_ne, own_wrm_ne, mp_wrm_ne, rd_new_eq, own_new_eq, mp_newm_eq]
      refine Both.dec (fun hlt2 => ?_) (fun hlt2 => ?_) <;> simp (disch := (first | omega | (simp only [size_new, size_newm, size_wr, size_wrm] <;> omega) | fail)) only [go_sem, Nat.reduceBEq, Nat.reduceAdd, Nat.reduceMul, Nat.reduceLeDiff, ↓reduceIte, rd_new_lt, own_new_lt, mp_new_lt, rd_newm_lt, own_newm_lt, mp_newm_lt, rd_wr_ne, own_wr_ne, mp_wr_ne, rd_wrm_ne, own_wrm_ne, mp_wrm_ne, rd_new_eq, own_new_eq, mp_newm_eq]
      · have hj2 : j < many := by omega
        obtain ⟨y, hy⟩ : ∃ y, ws.tail[j]? = some y := ⟨_, List.getElem?_eq_getElem (by omega)⟩
        obtain ⟨_, b, o, lb, ha, hrd, hlb⟩ := RdS.str hr2 hy
        subst ha
        have hymem : y ∈ ws := List.mem_of_mem_tail (List.mem_of_getElem? hy)
        have hylen := lp1 y hymem
        refine ⟨⟨by omega, by omega⟩, ?_⟩
        simp (disch := (first | omega | (simp only [size_new, size_newm, size_wr, size_wrm] <;> omega) | fail)) only [go_sem, Nat.reduceBEq, Nat.reduceAdd, Nat.reduceMul, Nat.reduceLeDiff, ↓reduceIte, rd_new_lt, own_new_lt, mp_new_lt, rd_newm_lt, own_newm_lt, mp_newm_lt, rd_wr_ne, own_wr_ne, mp_wr_ne, rd_wrm_ne, own_wrm_ne, mp_wrm_ne, rd_new_eq, own_new_eq, mp_newm_eq, hrd, Int.toNat_natCast, Nat.mul_one, hlb]
        refine (entry_numO_spec ((he.fresh f1).fresh f2) y (by omega)).mono ?_
        have htk : ws.tail.take (j + 1) = ws.tail.take j ++ [y] := by rw [List.take_add_one, hy]; rfl
        rintro _ H3 ⟨f3, ⟨n, hn, rfl⟩ | ⟨hn, rfl⟩⟩
        · simp (disch := (first | omega | (simp only [size_new, size_newm, size_wr, size_wrm] <;> omega) | fail)) only [go_sem, Nat.reduceBEq, Nat.reduceAdd, Nat.reduceMul, Nat.reduceLeDiff, ↓reduceIte, rd_new_lt, own_new_lt, mp_new_lt, rd_newm_lt, own_newm_lt, mp_newm_lt, rd_wr_ne, own_wr_ne, mp_wr_ne, rd_wrm_ne, own_wrm_ne, mp_wrm_ne, rd_new_eq, own_new_eq, mp_newm_eq]
          have f4 : Fresh H3 (H3.new 2 [.int .i64 n]) := (Ext.refl _ _).new _ _
          refine Sl.append ((s2.ext f3 (fun _ _ h => h)).ext f4 (fun _ _ h => h)) (Sl.lit_at (size := 1) (n := 1) (xs := [i64 n]) rfl rfl).rd rfl (ones_i64 [n]) (by omega) ?_
          intro v' H' fp' s3 e3 hfp3
          simp (disch := (first | omega | (simp only [size_new, size_newm, size_wr, size_wrm] <;> omega) | fail)) only [go_sem, Nat.reduceBEq, Nat.reduceAdd, Nat.reduceMul, Nat.reduceLeDiff, ↓reduceIte, rd_new_lt, own_new_lt, mp_new_lt, rd_newm_lt, own_newm_lt, mp_newm_lt, rd_wr_ne, own_wr_ne, mp_wr_ne, rd_wrm_ne, own_wrm_ne, mp_wrm_ne, rd_new_eq, own_new_eq, mp_newm_eq]
          rw [wrap64 (n := (j : Int) + 1) (by omega) (by omega)]
          have hs3 := f3.size
          have hs4 := f4.size
          refine ⟨many - (j + 1), by omega, ?_, j + 1, l ++ [n], v', fp', rfl, by omega, ?_, by simp [hlj], ?_, ?_, rfl⟩
          · exact ((f2.trans f3).trans f4).then e3 (fun z hz => hfp z hz)
          · rw [htk, numsL_snoc, hl, hn]
          · rw [List.map_append, List.length_append]; exact s3
          · intro b hb
            rcases hfp3 with rfl | ⟨b', hb', h1, h2⟩
            · exact hfp b hb
            · rw [hb] at hb'; injection hb' with hb'
              have := f2.size
              omega
        · simp (disch := (first | omega | (simp only [size_new, size_newm, size_wr, size_wrm] <;> omega) | fail)) only [go_sem, Nat.reduceBEq, Nat.reduceAdd, Nat.reduceMul, Nat.reduceLeDiff, ↓reduceIte, rd_new_lt, own_new_lt, mp_new_lt, rd_newm_lt, own_newm_lt, mp_newm_lt, rd_wr_ne, own_wr_ne, mp_wr_ne, rd_wrm_ne, own_wrm_ne, mp_wrm_ne, rd_new_eq, own_new_eq, mp_newm_eq]
          refine ⟨f1.trans (f2.trans f3), .inr ⟨?_, rfl⟩⟩
          rw [hnG]
          exact numsL_bad _ y (List.mem_of_getElem? hy) hn
      · have hj2 : j = many := by omega
        subst hj2
        refine ⟨f1.trans f2, .inl ⟨l, s, fp, ?_, rfl, s2, fun b hb => Nat.le_trans f1.size (hfp b hb)⟩⟩
        rw [hnG, ← hl, List.take_of_length_le (by omega)]
    · refine ⟨f1, .inr ⟨?_, rfl⟩⟩
      rw [hnG, if_neg (fun h => hlen (by omega))]
  · refine ⟨f1, .inr ⟨?_, rfl⟩⟩
    rw [hnG, if_neg (fun h => hq (hhd ▸ h.1))]

end Go.Proofs.YtkcpoiploighiaaDoor
