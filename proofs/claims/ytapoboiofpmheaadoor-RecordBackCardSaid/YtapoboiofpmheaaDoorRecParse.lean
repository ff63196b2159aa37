/-
  A line as a record, as the program reads it.
-/
import Derived.Test.YtapoboiofpmheaaDoorRecText
set_option linter.unusedVariables false
set_option linter.unusedSimpArgs false
namespace Go.Proofs.YtapoboiofpmheaaDoor
open Go Go.Vc Go.Lib

theorem strings_Split_spec {H : Hp} (he : ErrH H) (c : UInt8) (l : List UInt8) (hl : l.length ≤ 1000000) : CallH Tryd.prog n_strings_Split [strV l, strV [c]] H fun v H' => Post (
    v = .slice (some ⟨H.size, 0, none⟩) (pieces c l).length (pieces c l).length ∧ H' = H.new 9 ((pieces c l).map strV)) := fun w hw => by
  obtain ⟨m, hm⟩ := he.lim w hw
  have hs : (⟨l.toArray⟩ : ByteArray).size = l.length := by simp [ByteArray.size]
  have h1 : (⟨[c].toArray⟩ : ByteArray).size = 1 := by simp [ByteArray.size]
  have e1 : (Lib.splitB ⟨[c].toArray⟩ 0 (Lib.countB ⟨l.toArray⟩ ⟨[c].toArray⟩) ⟨l.toArray⟩).map (·.data.toList) = pieces c l := by
    rw [Lib.splitB_data]
    exact split_pieces c l
  have e2 : Lib.countB ⟨l.toArray⟩ ⟨[c].toArray⟩ + 1 = (pieces c l).length := by
    rw [← e1, List.length_map]
    exact (Lib.splitB_all ⟨[c].toArray⟩ (by omega) 0 _ _ rfl).symm
  have e3 : (Lib.splitB ⟨[c].toArray⟩ 0 (Lib.countB ⟨l.toArray⟩ ⟨[c].toArray⟩) ⟨l.toArray⟩).map Value.string = (pieces c l).map strV := by
    rw [← e1, List.map_map]
    exact List.map_congr_left fun x _ => rfl
  refine (Tryd.strings_Split ⟨l.toArray⟩ ⟨[c].toArray⟩ m w (by rw [hs]; omega) hm (by omega)).mono ?_
  rintro e w' ⟨rfl, rfl⟩
  rw [e2, e3, hw]
  refine ⟨_, rfl, ⟨rfl, rfl⟩, rfl, ?_⟩
  show w.heap.push _ = H.push _
  rw [hw]

theorem cutc_len (c : UInt8) (l : List UInt8) : (Lib.cut l [c]).1.length ≤ l.length ∧ (Lib.cut l [c]).2.1.length ≤ l.length := by
  unfold Lib.cut
  split
  · simp only [List.length_take, List.length_drop]; omega
  · simp

theorem strings_Cutc_spec {H : Hp} (he : ErrH H) (c : UInt8) (l : List UInt8) (hl : l.length ≤ 1000000) : CallH Tryd.prog n_strings_Cut [strV l, strV [c]] H fun v H' => Post (
    v = .tuple [strV (Lib.cut l [c]).1, strV (Lib.cut l [c]).2.1, .bool (Lib.cut l [c]).2.2].toArray ∧ Fresh H H') := fun w hw => by
  obtain ⟨m, hm⟩ := he.lim w hw
  have hs : (⟨l.toArray⟩ : ByteArray).size = l.length := by simp [ByteArray.size]
  refine (Tryd.strings_Cut ⟨l.toArray⟩ ⟨[c].toArray⟩ m w (by rw [hs]; omega) hm).mono ?_
  rintro e w' ⟨rfl, n, rfl⟩
  exact ⟨_, rfl, ⟨rfl, rfl⟩, rfl, by rw [← hw]; exact Ext.refl _ _⟩

theorem entry_NumN_spec {H : Hp} (he : ErrH H) (l : List UInt8) (hl : l.length ≤ 1000000) : CallH Tryd.prog n_entry_Number [strV l] H fun v H' => Post (Fresh H H' ∧ ∃ b, v = .tuple [i64 (numN l), .bool b].toArray) := by
  refine (entry_Number_spec he l hl).mono ?_
  rintro v H' ⟨f, ⟨n, h0, h1, h2, rfl⟩ | ⟨h, rfl⟩⟩
  · exact ⟨f, true, by rw [h2, num_itoa h0 h1]⟩
  · exact ⟨f, false, by rw [num_none h]⟩

theorem record_small_spec {H : Hp} (he : ErrH H) (l : List UInt8) (hl : l.length ≤ 1000000) : CallH Tryd.prog n_record_small [strV l] H fun v H' => Post (v = u32 (smallN l) ∧ Fresh H H') := by
  refine c_record_small ⟨rfl, ?_⟩
  simp (disch := (first | omega | (simp only [size_new, size_newm, size_wr, size_wrm] <;> omega) | fail)) only [go_sem, Nat.reduceBEq, Nat.reduceAdd, Nat.reduceMul, Nat.reduceLeDiff, ↓reduceIte, rd_new_lt, own_new_lt, mp_new_lt, rd_newm_lt, own_newm_lt, mp_newm_lt, rd_wr_ne, own_wr_ne, mp_wr_ne, rd_wrm_ne, own_wrm_ne, mp_wrm_ne, rd_new_eq, own_new_eq, mp_newm_eq, s_record_small]
  refine (entry_NumN_spec he l hl).mono ?_
  rintro v H1 ⟨f1, b, rfl⟩
  simp (disch := (first | omega | (simp only [size_new, size_newm, size_wr, size_wrm] <;> omega) | fail)) only [go_sem, Nat.reduceBEq, Nat.reduceAdd, Nat.reduceMul, Nat.reduceLeDiff, ↓reduceIte, rd_new_lt, own_new_lt, mp_new_lt, rd_newm_lt, own_newm_lt, mp_newm_lt, rd_wr_ne, own_wr_ne, mp_wr_ne, rd_wrm_ne, own_wrm_ne, mp_wrm_ne, rd_new_eq, own_new_eq, mp_newm_eq]
  obtain ⟨h0, h1⟩ := num_le l
  refine ⟨?_, f1⟩
  unfold smallN
  have e : (if (4294967295 : Int) < (if (0 : Int) > numN l then 0 else numN l) then (4294967295 : Int) else if (0 : Int) > numN l then 0 else numN l) = (((min (max (numN l) 0) 4294967295).toNat : Nat) : Int) := by
    split <;> split <;> omega
  rw [e, wrapU32 (by omega) (by omega)]
  rfl

theorem last_at (ws : List (List UInt8)) (h : ws ≠ []) : ws[ws.length - 1]? = some (lastW ws) := by
  unfold lastW
  rw [← List.getLast?_eq_getElem?, List.getLastD_eq_getLast?]
  cases hx : ws.getLast? with
  | none => exact absurd (List.getLast?_eq_none_iff.1 hx) h
  | some x => rfl

/-- What a line's record is told to be. -/
def RecD (s : List UInt8) (v : Value) : Prop := (∃ (op a b : Nat) (k : Int), RightR op a b k ∧ s = textR op a b k ∧ v = .tuple [recV op a b k, i64 0].toArray) ∨
  ((∀ (op a b : Nat) (k : Int), RightR op a b k → s ≠ textR op a b k) ∧ v = .tuple [recV 0 0 0 0, i64 181].toArray)

theorem record_Parse_spec {H : Hp} (he : ErrH H) (l : List UInt8) (hl : l.length ≤ 1000000) : CallH Tryd.prog n_record_Parse [strV l] H fun v H' => Post (RecD l v ∧ Fresh H H') := by
  refine c_record_Parse ⟨rfl, ?_⟩
  have f0 : Fresh H (H.new 40 [i64 0, u32 0, u32 0, i64 0]) := (Ext.refl _ _).new _ _
  have b0 := own_new H 40 [i64 0, u32 0, u32 0, i64 0]
  simp (disch := (first | omega | (simp only [size_new, size_newm, size_wr, size_wrm] <;> omega) | fail)) only [go_sem, Nat.reduceBEq, Nat.reduceAdd, Nat.reduceMul, Nat.reduceLeDiff, ↓reduceIte, rd_new_lt, own_new_lt, mp_new_lt, rd_newm_lt, own_newm_lt, mp_newm_lt, rd_wr_ne, own_wr_ne, mp_wr_ne, rd_wrm_ne, own_wrm_ne, mp_wrm_ne, rd_new_eq, own_new_eq, mp_newm_eq, s_record_Parse]
  generalize H.new 40 [i64 0, u32 0, u32 0, i64 0] = H0 at *
  refine (strings_Split_spec (he.fresh f0) 32 l hl).mono ?_
  rintro _ _ ⟨rfl, rfl⟩
  obtain ⟨lp1, lp2⟩ := len_piece 32 _ l (Nat.le_refl _)
  have hne := pieces_ne 32 l
  have hpos := List.length_pos_iff.2 hne
  have hlast := last_at _ hne
  have hjoin := join_of_pieces 32 l
  generalize hws : pieces 32 l = ws at *
  have f1 : Fresh H0 (H0.new 9 (ws.map strV)) := (Ext.refl _ _).new _ _
  have w1 := own_new H0 9 (ws.map strV)
  have b1 := f1.own b0 (fun h => h)
  have hz0 : (H0.new 9 (ws.map strV)).size = H0.size + 1 := by rw [size_new]
  generalize H0.new 9 (ws.map strV) = H1 at *
  simp (disch := (first | omega | (simp only [size_new, size_newm, size_wr, size_wrm] <;> omega) | fail)) only [go_sem, Nat.reduceBEq, Nat.reduceAdd, Nat.reduceMul, Nat.reduceLeDiff, ↓reduceIte, rd_new_lt, own_new_lt, mp_new_lt, rd_newm_lt, own_newm_lt, mp_newm_lt, rd_wr_ne, own_wr_ne, mp_wr_ne, rd_wrm_ne, own_wrm_ne, mp_wrm_ne, rd_new_eq, own_new_eq, mp_newm_eq]
  rw [wrap64 (n := (ws.length : Int) - 1) (by omega) (by omega)]
  refine ⟨⟨by omega, by omega⟩, ?_⟩
  have hidx : ((ws.length : Int) - 1).toNat = ws.length - 1 := by omega
  have hlast2 : (ws.map strV)[ws.length - 1]? = some (strV (lastW ws)) := by rw [List.getElem?_map, hlast]; rfl
  simp (disch := (first | omega | (simp only [size_new, size_newm, size_wr, size_wrm] <;> omega) | fail)) only [go_sem, Nat.reduceBEq, Nat.reduceAdd, Nat.reduceMul, Nat.reduceLeDiff, ↓reduceIte, rd_new_lt, own_new_lt, mp_new_lt, rd_newm_lt, own_newm_lt, mp_newm_lt, rd_wr_ne, own_wr_ne, mp_wr_ne, rd_wrm_ne, own_wrm_ne, mp_wrm_ne, rd_new_eq, own_new_eq, mp_newm_eq, rd_of_own w1, hidx, Nat.mul_one, Nat.zero_add, hlast2]
  refine (record_forms_spec H1).mono ?_
  rintro _ _ ⟨rfl, rfl⟩
  have f2 : Fresh H1 (H1.new 73 formCells) := (Ext.refl _ _).new _ _
  have p2 := own_new H1 73 formCells
  have w2 := f2.own w1 (fun h => h)
  have b2 := f2.own b1 (fun h => h)
  have hz1 : (H1.new 73 formCells).size = H1.size + 1 := by rw [size_new]
  generalize H1.new 73 formCells = H2 at *
  have eh2 : ErrH H2 := ((he.fresh f0).fresh f1).fresh f2
  have f02 : Fresh H H2 := f0.trans (f1.trans f2)
  simp (disch := (first | omega | (simp only [size_new, size_newm, size_wr, size_wrm] <;> omega) | fail)) only [go_sem, Nat.reduceBEq, Nat.reduceAdd, Nat.reduceMul, Nat.reduceLeDiff, ↓reduceIte, rd_new_lt, own_new_lt, mp_new_lt, rd_newm_lt, own_newm_lt, mp_newm_lt, rd_wr_ne, own_wr_ne, mp_wr_ne, rd_wrm_ne, own_wrm_ne, mp_wrm_ne, rd_new_eq, own_new_eq, mp_newm_eq]
  refine LoopV.intro (fun m env H' => Fresh H2 H' ∧ ∃ j : Nat, m = 11 - j ∧ j ≤ 11 ∧ (∀ op a b k, op < j → RightR op a b k → l ≠ textR op a b k) ∧ env = [(0, strV l), (2, ptr H.size), (4, .slice (some ⟨H0.size, 0, none⟩) ws.length ws.length), (5, strV (lastW ws)), (20, .slice (some ⟨H1.size, 0, none⟩) 11 11), (21, i64 11), (22, i64 j)]) 11 ⟨Ext.refl _ _, 0, by omega, by omega, fun op a b k h => by omega, rfl⟩ ?_
  rintro m env H3 ⟨f3, j, hm, hj, hno, rfl⟩
  have p3 := f3.own p2 (fun h => h)
  have w3 := f3.own w2 (fun h => h)
  have b3 := f3.own b2 (fun h => h)
  have eh3 := eh2.fresh f3
  simp (disch := (first | omega | (simp only [size_new, size_newm, size_wr, size_wrm] <;> omega) | fail)) only [go_sem, Nat.reduceBEq, Nat.reduceAdd, Nat.reduceMul, Nat.reduceLeDiff, ↓reduceIte, rd_new_lt, own_new_lt, mp_new_lt, rd_newm_lt, own_newm_lt, mp_newm_lt, rd_wr_ne, own_wr_ne, mp_wr_ne, rd_wrm_ne, own_wrm_ne, mp_wrm_ne, rd_new_eq, own_new_eq, mp_newm_eq]
  refine Both.dec (fun h11 => ?_) (fun h11 => ?_) <;> simp (disch := (first | omega | (simp only [size_new, size_newm, size_wr, size_wrm] <;> omega) | fail)) only [go_sem, Nat.reduceBEq, Nat.reduceAdd, Nat.reduceMul, Nat.reduceLeDiff, ↓reduceIte, rd_new_lt, own_new_lt, mp_new_lt, rd_newm_lt, own_newm_lt, mp_newm_lt, rd_wr_ne, own_wr_ne, mp_wr_ne, rd_wrm_ne, own_wrm_ne, mp_wrm_ne, rd_new_eq, own_new_eq, mp_newm_eq]
  · have hj10 : j ≤ 10 := by omega
    refine vc_cut (fun e H' => e.find 0 = some (strV l) ∧ e.find 2 = some (ptr H.size) ∧ e.find 4 = some (.slice (some ⟨H0.size, 0, none⟩) ws.length ws.length) ∧ e.find 5 = some (strV (lastW ws)) ∧ e.find 20 = some (.slice (some ⟨H1.size, 0, none⟩) 11 11) ∧ e.find 21 = some (i64 11) ∧ e.find 22 = some (i64 j) ∧ Fresh H2 H' ∧ (∀ a b k, RightR j a b k → l ≠ textR j a b k)) ?_ ?_
    · simp (disch := (first | omega | (simp only [size_new, size_newm, size_wr, size_wrm] <;> omega) | fail)) only [go_sem, Nat.reduceBEq, Nat.reduceAdd, Nat.reduceMul, Nat.reduceLeDiff, ↓reduceIte, rd_new_lt, own_new_lt, mp_new_lt, rd_newm_lt, own_newm_lt, mp_newm_lt, rd_wr_ne, own_wr_ne, mp_wr_ne, rd_wrm_ne, own_wrm_ne, mp_wrm_ne, rd_new_eq, own_new_eq, mp_newm_eq]
      refine ⟨⟨by omega, by omega⟩, ?_⟩
      simp (disch := (first | omega | (simp only [size_new, size_newm, size_wr, size_wrm] <;> omega) | fail)) only [go_sem, Nat.reduceBEq, Nat.reduceAdd, Nat.reduceMul, Nat.reduceLeDiff, ↓reduceIte, rd_new_lt, own_new_lt, mp_new_lt, rd_newm_lt, own_newm_lt, mp_newm_lt, rd_wr_ne, own_wr_ne, mp_wr_ne, rd_wrm_ne, own_wrm_ne, mp_wrm_ne, rd_new_eq, own_new_eq, mp_newm_eq, rd_of_own p3, Int.toNat_natCast, Nat.zero_add, form_at hj10]
      refine ⟨by rw [form_len]; omega, ?_⟩
      have q7 := own_new H3 73 [.string ⟨#[]⟩, i64 0, .bool false, .bool false]
      have o7 := own_wr_same (l := [strV (wordOf j), i64 (heapsOf j), .bool (handleOf j), .bool (keyOf j)]) q7
      have f4 : Fresh H3 ((H3.new 73 [.string ⟨#[]⟩, i64 0, .bool false, .bool false]).wr H3.size [strV (wordOf j), i64 (heapsOf j), .bool (handleOf j), .bool (keyOf j)]) := ((Ext.refl _ _).new _ _).wr (fun h => absurd h (Nat.lt_irrefl _)) _
      simp (disch := (first | omega | (simp only [size_new, size_newm, size_wr, size_wrm] <;> omega) | fail)) only [go_sem, Nat.reduceBEq, Nat.reduceAdd, Nat.reduceMul, Nat.reduceLeDiff, ↓reduceIte, rd_new_lt, own_new_lt, mp_new_lt, rd_newm_lt, own_newm_lt, mp_newm_lt, rd_wr_ne, own_wr_ne, mp_wr_ne, rd_wrm_ne, own_wrm_ne, mp_wrm_ne, rd_new_eq, own_new_eq, mp_newm_eq, form_at hj10]
      generalize (H3.new 73 [.string ⟨#[]⟩, i64 0, .bool false, .bool false]).wr H3.size [strV (wordOf j), i64 (heapsOf j), .bool (handleOf j), .bool (keyOf j)] = H4 at *
      have w4 := f4.own w3 (fun h => h)
      have eh4 := eh3.fresh f4
      obtain ⟨w0, wr, hw0⟩ : ∃ w0 wr, ws = w0 :: wr := by
        cases ws with
        | nil => exact absurd rfl hne
        | cons x r => exact ⟨x, r, rfl⟩
      have hw0' : (ws.map strV)[0]? = some (strV w0) := by rw [hw0]; rfl
      simp (disch := (first | omega | (simp only [size_new, size_newm, size_wr, size_wrm] <;> omega) | fail)) only [go_sem, Nat.reduceBEq, Nat.reduceAdd, Nat.reduceMul, Nat.reduceLeDiff, ↓reduceIte, rd_new_lt, own_new_lt, mp_new_lt, rd_newm_lt, own_newm_lt, mp_newm_lt, rd_wr_ne, own_wr_ne, mp_wr_ne, rd_wrm_ne, own_wrm_ne, mp_wrm_ne, rd_new_eq, own_new_eq, mp_newm_eq, rd_of_own o7]
      refine ⟨⟨by omega, by omega⟩, ?_⟩
      simp (disch := (first | omega | (simp only [size_new, size_newm, size_wr, size_wrm] <;> omega) | fail)) only [go_sem, Nat.reduceBEq, Nat.reduceAdd, Nat.reduceMul, Nat.reduceLeDiff, ↓reduceIte, rd_new_lt, own_new_lt, mp_new_lt, rd_newm_lt, own_newm_lt, mp_newm_lt, rd_wr_ne, own_wr_ne, mp_wr_ne, rd_wrm_ne, own_wrm_ne, mp_wrm_ne, rd_new_eq, own_new_eq, mp_newm_eq, rd_of_own w4, Int.toNat_zero, Nat.zero_mul, Nat.zero_add, hw0', eq_bytes]
      have hsplit : ∀ a b k, RightR j a b k → l = textR j a b k → ws = wordsR j a b k := fun a b k h e => by rw [← hws, e]; exact pieces_text h.le
      refine Both.dec (fun hw => ?_) (fun hw => ?_) <;> simp (disch := (first | omega | (simp only [size_new, size_newm, size_wr, size_wrm] <;> omega) | fail)) only [go_sem, Nat.reduceBEq, Nat.reduceAdd, Nat.reduceMul, Nat.reduceLeDiff, ↓reduceIte, rd_new_lt, own_new_lt, mp_new_lt, rd_newm_lt, own_newm_lt, mp_newm_lt, rd_wr_ne, own_wr_ne, mp_wr_ne, rd_wrm_ne, own_wrm_ne, mp_wrm_ne, rd_new_eq, own_new_eq, mp_newm_eq]
      rotate_left
      · refine ⟨trivial, trivial, trivial, trivial, trivial, trivial, trivial, f3.trans f4, fun a b k h e => hw ?_⟩
        have h5 := hsplit a b k h e
        rw [hw0] at h5
        injection h5 with h5
        exact h5.symm
      have q8 := own_new H4 40 [i64 0, u32 0, u32 0, i64 0]
      have o8 := own_wr_same (l := [i64 j, u32 0, u32 0, i64 0]) q8
      have f5 : Fresh H4 ((H4.new 40 [i64 0, u32 0, u32 0, i64 0]).wr H4.size [i64 j, u32 0, u32 0, i64 0]) := ((Ext.refl _ _).new _ _).wr (fun h => absurd h (Nat.lt_irrefl _)) _
      have g7 := f5.own o7 (fun h => h)
      have f45 := f3.trans (f4.trans f5)
      have hx8 : H2.size ≤ H4.size := (f3.trans f4).size
      have hx7 : H3.size < H4.size := own_lt o7
      have hx7' := f3.size
      have hl8 := own_lt o8
      generalize (H4.new 40 [i64 0, u32 0, u32 0, i64 0]).wr H4.size [i64 j, u32 0, u32 0, i64 0] = H5 at *
      generalize hp7 : H3.size = p7 at *
      generalize hp8 : H4.size = p8 at *
      have fw : ∀ {A : Hp} (l : List Value), Fresh H2 A → Fresh H2 (A.wr p8 l) := fun l h => h.wr (fun hlt => by omega) l
      have wl : ∀ w ∈ ws, w.length ≤ 1000000 := fun w hw => Nat.le_trans (lp1 w hw) hl
      refine vc_cut (fun e H' => e.find 0 = some (strV l) ∧ e.find 2 = some (ptr H.size) ∧ e.find 4 = some (.slice (some ⟨H0.size, 0, none⟩) ws.length ws.length) ∧ e.find 5 = some (strV (lastW ws)) ∧ e.find 7 = some (ptr p7) ∧ e.find 8 = some (ptr p8) ∧ e.find 20 = some (.slice (some ⟨H1.size, 0, none⟩) 11 11) ∧ e.find 21 = some (i64 11) ∧ e.find 22 = some (i64 j) ∧ Fresh H2 H' ∧
        H'.own p7 = some [strV (wordOf j), i64 (heapsOf j), .bool (handleOf j), .bool (keyOf j)] ∧ H'.own p8 = some [i64 j, u32 (takA ws), u32 ((if 1 < ws.length then smallN (Lib.cut (ws.getD 1 []) [46]).2.1 else 0 : Nat) : Int), i64 0]) ?_ ?_
      · simp (disch := (first | omega | (simp only [size_new, size_newm, size_wr, size_wrm] <;> omega) | fail)) only [go_sem, Nat.reduceBEq, Nat.reduceAdd, Nat.reduceMul, Nat.reduceLeDiff, ↓reduceIte, rd_new_lt, own_new_lt, mp_new_lt, rd_newm_lt, own_newm_lt, mp_newm_lt, rd_wr_ne, own_wr_ne, mp_wr_ne, rd_wrm_ne, own_wrm_ne, mp_wrm_ne, rd_new_eq, own_new_eq, mp_newm_eq]
        refine Both.dec (fun h1 => ?_) (fun h1 => ?_) <;> simp (disch := (first | omega | (simp only [size_new, size_newm, size_wr, size_wrm] <;> omega) | fail)) only [go_sem, Nat.reduceBEq, Nat.reduceAdd, Nat.reduceMul, Nat.reduceLeDiff, ↓reduceIte, rd_new_lt, own_new_lt, mp_new_lt, rd_newm_lt, own_newm_lt, mp_newm_lt, rd_wr_ne, own_wr_ne, mp_wr_ne, rd_wrm_ne, own_wrm_ne, mp_wrm_ne, rd_new_eq, own_new_eq, mp_newm_eq]
        · have w5 := (f4.trans f5).own w3 (fun h => h)
          obtain ⟨w1v, hw1⟩ : ∃ x, ws[1]? = some x := ⟨_, List.getElem?_eq_getElem (by omega)⟩
          have hw1' : (ws.map strV)[1]? = some (strV w1v) := by rw [List.getElem?_map, hw1]; rfl
          have hgd : ws.getD 1 [] = w1v := by rw [List.getD_eq_getElem?_getD, hw1]; rfl
          have hl1 := wl w1v (List.mem_of_getElem? hw1)
          have hcl := cutc_len 46 w1v
          refine ⟨⟨by omega, by omega⟩, ?_⟩
          simp (disch := (first | omega | (simp only [size_new, size_newm, size_wr, size_wrm] <;> omega) | fail)) only [go_sem, Nat.reduceBEq, Nat.reduceAdd, Nat.reduceMul, Nat.reduceLeDiff, ↓reduceIte, rd_new_lt, own_new_lt, mp_new_lt, rd_newm_lt, own_newm_lt, mp_newm_lt, rd_wr_ne, own_wr_ne, mp_wr_ne, rd_wrm_ne, own_wrm_ne, mp_wrm_ne, rd_new_eq, own_new_eq, mp_newm_eq, rd_of_own w5, Int.toNat_one, Nat.one_mul, Nat.zero_add, hw1']
          have eh5 := eh4.fresh f5
          refine (strings_Cutc_spec eh5 46 w1v hl1).mono ?_
          rintro _ H6 ⟨rfl, f6⟩
          simp (disch := (first | omega | (simp only [size_new, size_newm, size_wr, size_wrm] <;> omega) | fail)) only [go_sem, Nat.reduceBEq, Nat.reduceAdd, Nat.reduceMul, Nat.reduceLeDiff, ↓reduceIte, rd_new_lt, own_new_lt, mp_new_lt, rd_newm_lt, own_newm_lt, mp_newm_lt, rd_wr_ne, own_wr_ne, mp_wr_ne, rd_wrm_ne, own_wrm_ne, mp_wrm_ne, rd_new_eq, own_new_eq, mp_newm_eq]
          refine (record_small_spec (eh5.fresh f6) _ (by omega)).mono ?_
          rintro _ H7 ⟨rfl, f7⟩
          simp (disch := (first | omega | (simp only [size_new, size_newm, size_wr, size_wrm] <;> omega) | fail)) only [go_sem, Nat.reduceBEq, Nat.reduceAdd, Nat.reduceMul, Nat.reduceLeDiff, ↓reduceIte, rd_new_lt, own_new_lt, mp_new_lt, rd_newm_lt, own_newm_lt, mp_newm_lt, rd_wr_ne, own_wr_ne, mp_wr_ne, rd_wrm_ne, own_wrm_ne, mp_wrm_ne, rd_new_eq, own_new_eq, mp_newm_eq]
          refine (record_small_spec ((eh5.fresh f6).fresh f7) _ (by omega)).mono ?_
          rintro _ H8 ⟨rfl, f8⟩
          have f58 := f6.trans (f7.trans f8)
          have o8' := f58.own o8 (fun h => h)
          have g7' := f58.own g7 (fun h => h)
          simp (disch := (first | omega | (simp only [size_new, size_newm, size_wr, size_wrm] <;> omega) | fail)) only [go_sem, Nat.reduceBEq, Nat.reduceAdd, Nat.reduceMul, Nat.reduceLeDiff, ↓reduceIte, rd_new_lt, own_new_lt, mp_new_lt, rd_newm_lt, own_newm_lt, mp_newm_lt, rd_wr_ne, own_wr_ne, mp_wr_ne, rd_wrm_ne, own_wrm_ne, mp_wrm_ne, rd_new_eq, own_new_eq, mp_newm_eq, o8', own_wr_same o8']
          refine ⟨trivial, trivial, trivial, trivial, trivial, trivial, trivial, trivial, trivial, ?_, ?_, ?_⟩
          · exact fw _ (f45.trans f58)
          · first | exact g7' | (rw [own_wr_ne (by omega)]; exact g7')
          · unfold takA
            rw [if_pos (by omega), if_pos (by omega), hgd]
        · refine ⟨trivial, trivial, trivial, trivial, trivial, trivial, trivial, trivial, trivial, f45, g7, ?_⟩
          unfold takA
          rw [o8, if_neg (by omega), if_neg (by omega)]
          rfl
      rintro e H6 ⟨e0, e2, e4, e5, e7, e8, e20, e21, e22, f6, s7, s8⟩
      have eh6 := eh2.fresh f6
      have hlw : (lastW ws).length ≤ 1000000 := wl _ (List.mem_of_getElem? hlast)
      refine vc_cut (fun e H' => e.find 0 = some (strV l) ∧ e.find 2 = some (ptr H.size) ∧ e.find 4 = some (.slice (some ⟨H0.size, 0, none⟩) ws.length ws.length) ∧ e.find 5 = some (strV (lastW ws)) ∧ e.find 7 = some (ptr p7) ∧ e.find 8 = some (ptr p8) ∧ e.find 20 = some (.slice (some ⟨H1.size, 0, none⟩) 11 11) ∧ e.find 21 = some (i64 11) ∧ e.find 22 = some (i64 j) ∧ Fresh H2 H' ∧
        H'.own p7 = some [strV (wordOf j), i64 (heapsOf j), .bool (handleOf j), .bool (keyOf j)] ∧ H'.own p8 = some [i64 j, u32 (takA ws), u32 (takB j ws), i64 0]) ?_ ?_
      · simp (disch := (first | omega | (simp only [size_new, size_newm, size_wr, size_wrm] <;> omega) | fail)) only [go_sem, Nat.reduceBEq, Nat.reduceAdd, Nat.reduceMul, Nat.reduceLeDiff, ↓reduceIte, rd_new_lt, own_new_lt, mp_new_lt, rd_newm_lt, own_newm_lt, mp_newm_lt, rd_wr_ne, own_wr_ne, mp_wr_ne, rd_wrm_ne, own_wrm_ne, mp_wrm_ne, rd_new_eq, own_new_eq, mp_newm_eq, e0, e2, e4, e5, e7, e8, e20, e21, e22, rd_of_own s7]
        refine Both.dec (fun h1 => ?_) (fun h1 => ?_) <;> simp (disch := (first | omega | (simp only [size_new, size_newm, size_wr, size_wrm] <;> omega) | fail)) only [go_sem, Nat.reduceBEq, Nat.reduceAdd, Nat.reduceMul, Nat.reduceLeDiff, ↓reduceIte, rd_new_lt, own_new_lt, mp_new_lt, rd_newm_lt, own_newm_lt, mp_newm_lt, rd_wr_ne, own_wr_ne, mp_wr_ne, rd_wrm_ne, own_wrm_ne, mp_wrm_ne, rd_new_eq, own_new_eq, mp_newm_eq, e0, e2, e4, e5, e7, e8, e20, e21, e22]
        · refine (record_small_spec eh6 _ hlw).mono ?_
          rintro _ H7 ⟨rfl, f7⟩
          have s8' := f7.own s8 (fun h => h)
          have s7' := f7.own s7 (fun h => h)
          simp (disch := (first | omega | (simp only [size_new, size_newm, size_wr, size_wrm] <;> omega) | fail)) only [go_sem, Nat.reduceBEq, Nat.reduceAdd, Nat.reduceMul, Nat.reduceLeDiff, ↓reduceIte, rd_new_lt, own_new_lt, mp_new_lt, rd_newm_lt, own_newm_lt, mp_newm_lt, rd_wr_ne, own_wr_ne, mp_wr_ne, rd_wrm_ne, own_wrm_ne, mp_wrm_ne, rd_new_eq, own_new_eq, mp_newm_eq, e8, s8', own_wr_same s8']
          refine ⟨trivial, trivial, trivial, trivial, trivial, trivial, trivial, trivial, trivial, fw _ (f6.trans f7), ?_, ?_⟩
          · first | exact s7' | (rw [own_wr_ne (by omega)]; exact s7')
          · unfold takB
            rw [if_pos (by omega)]
        · refine ⟨trivial, trivial, trivial, trivial, trivial, trivial, trivial, trivial, trivial, f6, s7, ?_⟩
          rw [s8]
          unfold takB
          rw [if_neg (c := heapsOf j = 2) (by omega)]
      rintro e H7 ⟨e0, e2, e4, e5, e7, e8, e20, e21, e22, f7, s7, s8⟩
      have eh7 := eh2.fresh f7
      refine vc_cut (fun e H' => e.find 0 = some (strV l) ∧ e.find 2 = some (ptr H.size) ∧ e.find 4 = some (.slice (some ⟨H0.size, 0, none⟩) ws.length ws.length) ∧ e.find 5 = some (strV (lastW ws)) ∧ e.find 8 = some (ptr p8) ∧ e.find 20 = some (.slice (some ⟨H1.size, 0, none⟩) 11 11) ∧ e.find 21 = some (i64 11) ∧ e.find 22 = some (i64 j) ∧ Fresh H2 H' ∧
        H'.own p8 = some [i64 j, u32 (takA ws), u32 (takB j ws), i64 (takK j ws)]) ?_ ?_
      · simp (disch := (first | omega | (simp only [size_new, size_newm, size_wr, size_wrm] <;> omega) | fail)) only [go_sem, Nat.reduceBEq, Nat.reduceAdd, Nat.reduceMul, Nat.reduceLeDiff, ↓reduceIte, rd_new_lt, own_new_lt, mp_new_lt, rd_newm_lt, own_newm_lt, mp_newm_lt, rd_wr_ne, own_wr_ne, mp_wr_ne, rd_wrm_ne, own_wrm_ne, mp_wrm_ne, rd_new_eq, own_new_eq, mp_newm_eq, e0, e2, e4, e5, e7, e8, e20, e21, e22, rd_of_own s7]
        unfold takK
        cases hh : keyOf j <;> simp (disch := (first | omega | (simp only [size_new, size_newm, size_wr, size_wrm] <;> omega) | fail)) only [go_sem, Nat.reduceBEq, Nat.reduceAdd, Nat.reduceMul, Nat.reduceLeDiff, ↓reduceIte, rd_new_lt, own_new_lt, mp_new_lt, rd_newm_lt, own_newm_lt, mp_newm_lt, rd_wr_ne, own_wr_ne, mp_wr_ne, rd_wrm_ne, own_wrm_ne, mp_wrm_ne, rd_new_eq, own_new_eq, mp_newm_eq, e0, e2, e4, e5, e7, e8, e20, e21, e22]
        · exact ⟨trivial, trivial, trivial, trivial, trivial, trivial, trivial, trivial, f7, s8⟩
        · refine (entry_NumN_spec eh7 _ hlw).mono ?_
          rintro _ H8 ⟨f8, b, rfl⟩
          have s8' := f8.own s8 (fun h => h)
          simp (disch := (first | omega | (simp only [size_new, size_newm, size_wr, size_wrm] <;> omega) | fail)) only [go_sem, Nat.reduceBEq, Nat.reduceAdd, Nat.reduceMul, Nat.reduceLeDiff, ↓reduceIte, rd_new_lt, own_new_lt, mp_new_lt, rd_newm_lt, own_newm_lt, mp_newm_lt, rd_wr_ne, own_wr_ne, mp_wr_ne, rd_wrm_ne, own_wrm_ne, mp_wrm_ne, rd_new_eq, own_new_eq, mp_newm_eq, e8, s8', own_wr_same s8']
          exact ⟨trivial, trivial, trivial, trivial, trivial, trivial, trivial, trivial, fw _ (f7.trans f8), trivial⟩
      rintro e H8 ⟨e0, e2, e4, e5, e8, e20, e21, e22, f8, s8⟩
      simp (disch := (first | omega | (simp only [size_new, size_newm, size_wr, size_wrm] <;> omega) | fail)) only [go_sem, Nat.reduceBEq, Nat.reduceAdd, Nat.reduceMul, Nat.reduceLeDiff, ↓reduceIte, rd_new_lt, own_new_lt, mp_new_lt, rd_newm_lt, own_newm_lt, mp_newm_lt, rd_wr_ne, own_wr_ne, mp_wr_ne, rd_wrm_ne, own_wrm_ne, mp_wrm_ne, rd_new_eq, own_new_eq, mp_newm_eq, e0, e2, e4, e5, e8, e20, e21, e22, rd_of_own s8]
      refine (record_Clean_spec H8 j (takA ws) (takB j ws) (takK j ws)).mono ?_
      rintro _ H9 ⟨rfl, f9⟩
      rw [clean_in hj10]
      have s9 := f9.own s8 (fun h => h)
      simp (disch := (first | omega | (simp only [size_new, size_newm, size_wr, size_wrm] <;> omega) | fail)) only [go_sem, Nat.reduceBEq, Nat.reduceAdd, Nat.reduceMul, Nat.reduceLeDiff, ↓reduceIte, rd_new_lt, own_new_lt, mp_new_lt, rd_newm_lt, own_newm_lt, mp_newm_lt, rd_wr_ne, own_wr_ne, mp_wr_ne, rd_wrm_ne, own_wrm_ne, mp_wrm_ne, rd_new_eq, own_new_eq, mp_newm_eq, e0, e2, e4, e5, e8, e20, e21, e22, s9]
      have f10 := fw [i64 j, u32 (clA j (takA ws)), u32 (clB j (takB j ws)), i64 (clK j (takK j ws))] (f8.trans f9)
      have s10 := own_wr_same (l := [i64 j, u32 (clA j (takA ws)), u32 (clB j (takB j ws)), i64 (clK j (takK j ws))]) s9
      generalize H9.wr p8 [i64 j, u32 (clA j (takA ws)), u32 (clB j (takB j ws)), i64 (clK j (takK j ws))] = H10 at *
      have hrr := right_taken hj10 ws
      have hrb := right_rightB hrr
      simp (disch := (first | omega | (simp only [size_new, size_newm, size_wr, size_wrm] <;> omega) | fail)) only [go_sem, Nat.reduceBEq, Nat.reduceAdd, Nat.reduceMul, Nat.reduceLeDiff, ↓reduceIte, rd_new_lt, own_new_lt, mp_new_lt, rd_newm_lt, own_newm_lt, mp_newm_lt, rd_wr_ne, own_wr_ne, mp_wr_ne, rd_wrm_ne, own_wrm_ne, mp_wrm_ne, rd_new_eq, own_new_eq, mp_newm_eq, rd_of_own s10]
      refine (record_Text_spec (eh2.fresh f10) ⟨hrr.la, hrr.lb, hrr.k0, hrr.k1⟩).mono ?_
      rintro _ H11 ⟨rfl, f11⟩
      rw [hrb, if_pos rfl, Int.toNat_natCast]
      have s11 := f11.own s10 (fun h => h)
      have b11 := (f10.trans f11).own b2 (fun h => h)
      simp (disch := (first | omega | (simp only [size_new, size_newm, size_wr, size_wrm] <;> omega) | fail)) only [go_sem, Nat.reduceBEq, Nat.reduceAdd, Nat.reduceMul, Nat.reduceLeDiff, ↓reduceIte, rd_new_lt, own_new_lt, mp_new_lt, rd_newm_lt, own_newm_lt, mp_newm_lt, rd_wr_ne, own_wr_ne, mp_wr_ne, rd_wrm_ne, own_wrm_ne, mp_wrm_ne, rd_new_eq, own_new_eq, mp_newm_eq, eq_bytes]
      refine Both.dec (fun hq => ?_) (fun hq => ?_) <;> simp (disch := (first | omega | (simp only [size_new, size_newm, size_wr, size_wrm] <;> omega) | fail)) only [go_sem, Nat.reduceBEq, Nat.reduceAdd, Nat.reduceMul, Nat.reduceLeDiff, ↓reduceIte, rd_new_lt, own_new_lt, mp_new_lt, rd_newm_lt, own_newm_lt, mp_newm_lt, rd_wr_ne, own_wr_ne, mp_wr_ne, rd_wrm_ne, own_wrm_ne, mp_wrm_ne, rd_new_eq, own_new_eq, mp_newm_eq, rd_of_own s11]
      · simp (disch := (first | omega | (simp only [size_new, size_newm, size_wr, size_wrm] <;> omega) | fail)) only [go_sem, Nat.reduceBEq, Nat.reduceAdd, Nat.reduceMul, Nat.reduceLeDiff, ↓reduceIte, rd_new_lt, own_new_lt, mp_new_lt, rd_newm_lt, own_newm_lt, mp_newm_lt, rd_wr_ne, own_wr_ne, mp_wr_ne, rd_wrm_ne, own_wrm_ne, mp_wrm_ne, rd_new_eq, own_new_eq, mp_newm_eq, b11]
        simp (disch := (first | omega | (simp only [size_new, size_newm, size_wr, size_wrm] <;> omega) | fail)) only [go_sem, Nat.reduceBEq, Nat.reduceAdd, Nat.reduceMul, Nat.reduceLeDiff, ↓reduceIte, rd_new_lt, own_new_lt, mp_new_lt, rd_newm_lt, own_newm_lt, mp_newm_lt, rd_wr_ne, own_wr_ne, mp_wr_ne, rd_wrm_ne, own_wrm_ne, mp_wrm_ne, rd_new_eq, own_new_eq, mp_newm_eq, rd_of_own (own_wr_same b11)]
        refine ⟨.inl ⟨j, _, _, _, hrr, hq.symm, rfl⟩, (f02.trans (f10.trans f11)).then ((Ext.refl (fun z => z = H.size) _).wr (fun _ => rfl) _) (fun z hz => by omega)⟩
      · refine ⟨trivial, trivial, trivial, trivial, trivial, trivial, trivial, f10.trans f11, fun a b k h e => hq ?_⟩
        obtain ⟨t1, t2, t3⟩ := take_words h
        rw [← hsplit a b k h e] at t1 t2 t3
        rw [t1, t2, t3, e]
    · rintro e H4 ⟨e0, e2, e4, e5, e20, e21, e22, f4, hno4⟩
      simp (disch := (first | omega | (simp only [size_new, size_newm, size_wr, size_wrm] <;> omega) | fail)) only [go_sem, Nat.reduceBEq, Nat.reduceAdd, Nat.reduceMul, Nat.reduceLeDiff, ↓reduceIte, rd_new_lt, own_new_lt, mp_new_lt, rd_newm_lt, own_newm_lt, mp_newm_lt, rd_wr_ne, own_wr_ne, mp_wr_ne, rd_wrm_ne, own_wrm_ne, mp_wrm_ne, rd_new_eq, own_new_eq, mp_newm_eq, e0, e2, e4, e5, e20, e21, e22]
      rw [wrap64 (n := (j : Int) + 1) (by omega) (by omega)]
      refine ⟨10 - j, by omega, f4, j + 1, by omega, by omega, fun op a b k h => ?_, rfl⟩
      by_cases h2 : op = j
      · subst h2; exact hno4 a b k
      · exact hno op a b k (by omega)
  · simp (disch := (first | omega | (simp only [size_new, size_newm, size_wr, size_wrm] <;> omega) | fail)) only [go_sem, Nat.reduceBEq, Nat.reduceAdd, Nat.reduceMul, Nat.reduceLeDiff, ↓reduceIte, rd_new_lt, own_new_lt, mp_new_lt, rd_newm_lt, own_newm_lt, mp_newm_lt, rd_wr_ne, own_wr_ne, mp_wr_ne, rd_wrm_ne, own_wrm_ne, mp_wrm_ne, rd_new_eq, own_new_eq, mp_newm_eq, b3]
    simp (disch := (first | omega | (simp only [size_new, size_newm, size_wr, size_wrm] <;> omega) | fail)) only [go_sem, Nat.reduceBEq, Nat.reduceAdd, Nat.reduceMul, Nat.reduceLeDiff, ↓reduceIte, rd_new_lt, own_new_lt, mp_new_lt, rd_newm_lt, own_newm_lt, mp_newm_lt, rd_wr_ne, own_wr_ne, mp_wr_ne, rd_wrm_ne, own_wrm_ne, mp_wrm_ne, rd_new_eq, own_new_eq, mp_newm_eq, rd_of_own (own_wr_same b3)]
    refine ⟨.inr ⟨fun op a b k h => hno op a b k (by have := h.le; omega) h, rfl⟩, (f02.trans f3).then ((Ext.refl (fun z => z = H.size) _).wr (fun _ => rfl) _) (fun z hz => by omega)⟩

end Go.Proofs.YtapoboiofpmheaaDoor
