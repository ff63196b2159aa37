/-
  The law CellsJoins answers true.
-/
import Derived.Test.YtkikanlkhkghcaaNest
import Derived.Test.YtkikanlkhkghcaaCellsAlive
import Derived.Test.YtkikanlkhkghcaaArgs
set_option linter.unusedVariables false
set_option linter.unusedSimpArgs false
namespace Go.Proofs.Ytkikanlkhkghcaa
open Go Go.Vc

/-- What is so while slots come in: the slots below i are in heap 1 or 2 with their keys, all others are in none. -/
structure JoinSt (w : Nw) (ks : List Int) (sd : Nat → Int) (i : Nat) : Prop where
  hs : w.hs = [false, true, true]
  cl : w.cs.length = ks.length
  lo : ∀ j, j < i → ∀ k, ks[j]? = some k → w.cs[j]? = some (sd j, k, 0)
  hi : ∀ j, i ≤ j → j < ks.length → w.cs[j]? = some (0, 0, 0)

theorem set_get {α : Type} (l : List α) (i j : Nat) (x : α) (hi : i < l.length) : (l.set i x)[j]? = if i = j then some x else l[j]? := by
  by_cases h : i = j
  · subst h; rw [if_pos rfl, List.getElem?_set_self hi]
  · rw [if_neg h, List.getElem?_set_ne h]

theorem eqVs_ent' (k s k' s' : Int) : eqVs [(0, none, .int), (1, none, .int)] [i64 k, u64 s] [i64 k', u64 s'] = some (decide (k = k' ∧ s = s')) := by
  by_cases h1 : k = k' <;> by_cases h2 : s = s' <;> simp [eqVs, partL, eqV, simpleEq, h1, h2]

theorem Nw.len_join (w : Nw) {a b : Int} (hab : a ≠ b) (ha : 0 < a) (hb : 0 < b) (j : Int) : (w.join a b).len j = if j = a then w.len a + w.len b else if j = b then 0 else w.len j := by
  unfold Nw.len Nw.join
  simp only
  by_cases hj : 0 < j
  · rw [if_pos hj, countP_join w.cs a b j hab, if_pos ha, if_pos hb]
    by_cases h1 : j = a
    · simp [h1]
    · by_cases h3 : j = b
      · simp [h1, h3, Ne.symm hab]
      · simp [h1, h3, hj]
  · rw [if_neg hj, if_neg (by omega), if_neg (by omega), if_neg hj]

set_option maxHeartbeats 2000000 in
theorem law05_CellsJoins_args {Hh : Hp} {v0 v1 v2 : Value} (h0 : fitA Hh (false, [.sl [.i .i64]]) v0) (h1 : fitA Hh (false, [.sl [.b]]) v1) (h2 : fitA Hh (false, [.k (.i .i64)]) v2) :
    CallH Try.prog n_law05_CellsJoins [v0, v1, v2] Hh fun v H' => Post (v = .bool true ∧ Fresh Hh H') := by
  obtain ⟨rows, hrd, hrows, hmax⟩ := fitA_sl h0
  obtain ⟨ks, hks, hkl, -⟩ := rows_ints hrows
  rw [hks, ← hkl] at hrd
  have hrd : RdS Hh 1 v0 ks.length (ks.map i64) := hrd
  obtain ⟨rows1, hrd1, hrows1, hmax1⟩ := fitA_sl h1
  obtain ⟨ls, hls, hll⟩ := rows_bools hrows1
  rw [hls, ← hll] at hrd1
  have hrd1 : RdS Hh 1 v1 ls.length (ls.map .bool) := hrd1
  obtain ⟨gone, rfl, hg0, hg1⟩ := fitA_i64 h2
  have hv : ∀ {v : Value} {n : Nat} {xs : List Value}, RdS Hh 1 v n xs → ∃ a c, v = .slice a n c := fun h => by
    obtain ⟨_, ⟨rfl, a, c, rfl⟩ | ⟨b, o, c, l, rfl, _⟩⟩ := h
    · exact ⟨_, _, rfl⟩
    · exact ⟨_, _, rfl⟩
  obtain ⟨a, c, rfl⟩ := hv hrd
  obtain ⟨a', c', rfl⟩ := hv hrd1
  refine c_law05_CellsJoins ⟨rfl, ?_⟩
  simp (disch := (first | omega | (simp only [size_new, size_newm, size_wr, size_wrm] <;> omega) | fail)) only [go_sem, Nat.reduceBEq, Nat.reduceAdd, Nat.reduceMul, Nat.reduceLeDiff, ↓reduceIte, rd_new_lt, own_new_lt, mp_new_lt, rd_newm_lt, own_newm_lt, mp_newm_lt, rd_wr_ne, own_wr_ne, mp_wr_ne, rd_wrm_ne, own_wrm_ne, mp_wrm_ne, rd_new_eq, own_new_eq, mp_newm_eq, s_law05_CellsJoins]
  refine (law05_cellsAlive_spec Hh).mono ?_
  rintro _ H1 ⟨rfl, f1⟩
  simp (disch := (first | omega | (simp only [size_new, size_newm, size_wr, size_wrm] <;> omega) | fail)) only [go_sem, Nat.reduceBEq, Nat.reduceAdd, Nat.reduceMul, Nat.reduceLeDiff, ↓reduceIte, rd_new_lt, own_new_lt, mp_new_lt, rd_newm_lt, own_newm_lt, mp_newm_lt, rd_wr_ne, own_wr_ne, mp_wr_ne, rd_wrm_ne, own_wrm_ne, mp_wrm_ne, rd_new_eq, own_new_eq, mp_newm_eq]
  refine Both.dec (fun hl => ?_) (fun hl => ?_) <;> simp (disch := (first | omega | (simp only [size_new, size_newm, size_wr, size_wrm] <;> omega) | fail)) only [go_sem, Nat.reduceBEq, Nat.reduceAdd, Nat.reduceMul, Nat.reduceLeDiff, ↓reduceIte, rd_new_lt, own_new_lt, mp_new_lt, rd_newm_lt, own_newm_lt, mp_newm_lt, rd_wr_ne, own_wr_ne, mp_wr_ne, rd_wrm_ne, own_wrm_ne, mp_wrm_ne, rd_new_eq, own_new_eq, mp_newm_eq]
  · exact ⟨rfl, f1⟩
  · refine (cellsN_New_spec ks.length H1).mono ?_
    rintro _ H2 ⟨f2, ⟨hc, rfl⟩ | ⟨hc, cb, S, rfl, c2, hS⟩⟩
    · omega
    have hS1 : ∀ x, S x → Hh.size ≤ x := fun x hx => Nat.le_trans f1.size (hS x hx)
    simp (disch := (first | omega | (simp only [size_new, size_newm, size_wr, size_wrm] <;> omega) | fail)) only [go_sem, Nat.reduceBEq, Nat.reduceAdd, Nat.reduceMul, Nat.reduceLeDiff, ↓reduceIte, rd_new_lt, own_new_lt, mp_new_lt, rd_newm_lt, own_newm_lt, mp_newm_lt, rd_wr_ne, own_wr_ne, mp_wr_ne, rd_wrm_ne, own_wrm_ne, mp_wrm_ne, rd_new_eq, own_new_eq, mp_newm_eq, Option.isNone_some]
    refine Both.of_true (by simp) ?_
    simp (disch := (first | omega | (simp only [size_new, size_newm, size_wr, size_wrm] <;> omega) | fail)) only [go_sem, Nat.reduceBEq, Nat.reduceAdd, Nat.reduceMul, Nat.reduceLeDiff, ↓reduceIte, rd_new_lt, own_new_lt, mp_new_lt, rd_newm_lt, own_newm_lt, mp_newm_lt, rd_wr_ne, own_wr_ne, mp_wr_ne, rd_wrm_ne, own_wrm_ne, mp_wrm_ne, rd_new_eq, own_new_eq, mp_newm_eq]
    refine (cellsN_Make_spec c2).mono ?_
    rintro _ H3 (⟨e, _⟩ | ⟨e, rfl, S3, c3, x3, g3⟩)
    · simp at e
    simp (disch := (first | omega | (simp only [size_new, size_newm, size_wr, size_wrm] <;> omega) | fail)) only [go_sem, Nat.reduceBEq, Nat.reduceAdd, Nat.reduceMul, Nat.reduceLeDiff, ↓reduceIte, rd_new_lt, own_new_lt, mp_new_lt, rd_newm_lt, own_newm_lt, mp_newm_lt, rd_wr_ne, own_wr_ne, mp_wr_ne, rd_wrm_ne, own_wrm_ne, mp_wrm_ne, rd_new_eq, own_new_eq, mp_newm_eq]
    refine (cellsN_Make_spec c3).mono ?_
    rintro _ H4 (⟨e, _⟩ | ⟨e, rfl, S4, c4, x4, g4⟩)
    · simp [Nw.make] at e
    have f3 := (f1.trans f2).then x3 hS1
    have hS3 : ∀ x, S3 x → Hh.size ≤ x := fun x hx => (g3 x hx).elim (hS1 x) (fun h => Nat.le_trans (f1.trans f2).size h)
    have f4 := f3.then x4 hS3
    have hS4 : ∀ x, S4 x → Hh.size ≤ x := fun x hx => (g4 x hx).elim (hS3 x) (fun h => Nat.le_trans f3.size h)
    simp (disch := (first | omega | (simp only [size_new, size_newm, size_wr, size_wrm] <;> omega) | fail)) only [go_sem, Nat.reduceBEq, Nat.reduceAdd, Nat.reduceMul, Nat.reduceLeDiff, ↓reduceIte, rd_new_lt, own_new_lt, mp_new_lt, rd_newm_lt, own_newm_lt, mp_newm_lt, rd_wr_ne, own_wr_ne, mp_wr_ne, rd_wrm_ne, own_wrm_ne, mp_wrm_ne, rd_new_eq, own_new_eq, mp_newm_eq]
    let sd : Nat → Int := fun j => if ls[j]? = some true then 2 else 1
    refine LoopV.intro (fun m env H => ∃ (i : Nat) (w : Nw) (fst : Int), env = [(0, .slice a ks.length c), (1, .slice a' ls.length c'), (2, i64 gone), (7, ptr cb), (9, i64 1), (10, i64 2), (11, i64 fst), (43, .slice a ks.length c), (44, i64 ks.length), (45, i64 i)] ∧ m = ks.length - i ∧ i ≤ ks.length ∧
      CellsN H cb S4 0 w ∧ JoinSt w ks sd i ∧ w.len 1 = fst ∧ w.len 2 = i - fst ∧ 0 ≤ fst ∧ fst ≤ i ∧ Fresh Hh H) ks.length
      ⟨0, _, 0, rfl, by omega, by omega, c4, ⟨rfl, by simp [Nw.make], fun j hj => by omega, fun j _ hj => by simp [Nw.make, hj]⟩, ?_, ?_, by omega, by omega, f4⟩ ?_
    · simp [Nw.len, Nw.make, List.countP_replicate]
    · simp [Nw.len, Nw.make, List.countP_replicate]
    rintro m env H5 ⟨i, w, fst, rfl, rfl, hi, c5, st, hl1', hl2', hf0, hf1, f5⟩
    simp (disch := (first | omega | (simp only [size_new, size_newm, size_wr, size_wrm] <;> omega) | fail)) only [go_sem, Nat.reduceBEq, Nat.reduceAdd, Nat.reduceMul, Nat.reduceLeDiff, ↓reduceIte, rd_new_lt, own_new_lt, mp_new_lt, rd_newm_lt, own_newm_lt, mp_newm_lt, rd_wr_ne, own_wr_ne, mp_wr_ne, rd_wrm_ne, own_wrm_ne, mp_wrm_ne, rd_new_eq, own_new_eq, mp_newm_eq]
    refine Both.dec (fun hin => ?_) (fun hin => ?_) <;> simp (disch := (first | omega | (simp only [size_new, size_newm, size_wr, size_wrm] <;> omega) | fail)) only [go_sem, Nat.reduceBEq, Nat.reduceAdd, Nat.reduceMul, Nat.reduceLeDiff, ↓reduceIte, rd_new_lt, own_new_lt, mp_new_lt, rd_newm_lt, own_newm_lt, mp_newm_lt, rd_wr_ne, own_wr_ne, mp_wr_ne, rd_wrm_ne, own_wrm_ne, mp_wrm_ne, rd_new_eq, own_new_eq, mp_newm_eq]
    · have hin : i < ks.length := by omega
      obtain ⟨k, hk⟩ : ∃ k, ks[i]? = some k := ⟨_, List.getElem?_eq_getElem hin⟩
      obtain ⟨b, o, cq, lb, e1, e2, e3, e4⟩ := RdS.get (hrd.fresh f5) (i := i) (j := 0) (x := i64 k) (by omega) (by simp [hk])
      injection e1 with e1 _ e5
      subst e1; subst e5
      have hnin : ¬ InC w.cs i := by
        rintro ⟨_, y, hy, hy0⟩
        rw [Int.toNat_natCast, st.hi i (Nat.le_refl _) hin] at hy
        injection hy with hy
        subst hy
        simp at hy0
      refine ⟨by omega, ?_⟩
      simp (disch := (first | omega | (simp only [size_new, size_newm, size_wr, size_wrm] <;> omega) | fail)) only [go_sem, Nat.reduceBEq, Nat.reduceAdd, Nat.reduceMul, Nat.reduceLeDiff, ↓reduceIte, rd_new_lt, own_new_lt, mp_new_lt, rd_newm_lt, own_newm_lt, mp_newm_lt, rd_wr_ne, own_wr_ne, mp_wr_ne, rd_wrm_ne, own_wrm_ne, mp_wrm_ne, rd_new_eq, own_new_eq, mp_newm_eq, e2, Int.toNat_natCast, show lb[o + i * 1]? = some (i64 k) from e4]
      refine Both.dec (fun hls => ?_) (fun hls => ?_) <;> simp (disch := (first | omega | (simp only [size_new, size_newm, size_wr, size_wrm] <;> omega) | fail)) only [go_sem, Nat.reduceBEq, Nat.reduceAdd, Nat.reduceMul, Nat.reduceLeDiff, ↓reduceIte, rd_new_lt, own_new_lt, mp_new_lt, rd_newm_lt, own_newm_lt, mp_newm_lt, rd_wr_ne, own_wr_ne, mp_wr_ne, rd_wrm_ne, own_wrm_ne, mp_wrm_ne, rd_new_eq, own_new_eq, mp_newm_eq]
      · obtain ⟨x, hx⟩ : ∃ x, ls[i]? = some x := ⟨_, List.getElem?_eq_getElem (by omega)⟩
        obtain ⟨b', o', cq', lb', e1', e2', e3', e4'⟩ := RdS.get (hrd1.fresh f5) (i := i) (j := 0) (x := .bool x) (by omega) (by simp [hx])
        injection e1' with e1' _ e5'
        subst e1'; subst e5'
        refine ⟨by omega, ?_⟩
        simp (disch := (first | omega | (simp only [size_new, size_newm, size_wr, size_wrm] <;> omega) | fail)) only [go_sem, Nat.reduceBEq, Nat.reduceAdd, Nat.reduceMul, Nat.reduceLeDiff, ↓reduceIte, rd_new_lt, own_new_lt, mp_new_lt, rd_newm_lt, own_newm_lt, mp_newm_lt, rd_wr_ne, own_wr_ne, mp_wr_ne, rd_wrm_ne, own_wrm_ne, mp_wrm_ne, rd_new_eq, own_new_eq, mp_newm_eq, e2', Int.toNat_natCast, show lb'[o' + i * 1]? = some (.bool x) from e4']
        cases x with
        | true =>
          simp (disch := (first | omega | (simp only [size_new, size_newm, size_wr, size_wrm] <;> omega) | fail)) only [go_sem, Nat.reduceBEq, Nat.reduceAdd, Nat.reduceMul, Nat.reduceLeDiff, ↓reduceIte, rd_new_lt, own_new_lt, mp_new_lt, rd_newm_lt, own_newm_lt, mp_newm_lt, rd_wr_ne, own_wr_ne, mp_wr_ne, rd_wrm_ne, own_wrm_ne, mp_wrm_ne, rd_new_eq, own_new_eq, mp_newm_eq]
          refine (cellsN_Put_spec c5 2 i k 0).mono ?_
          rintro _ H6 (⟨hn, _⟩ | ⟨hn, rfl, c6, x6⟩)
          · exact absurd ⟨⟨by omega, by rw [st.hs]; rfl⟩, ⟨by omega, by have := st.cl; omega⟩, hnin⟩ hn
          simp (disch := (first | omega | (simp only [size_new, size_newm, size_wr, size_wrm] <;> omega) | fail)) only [go_sem, Nat.reduceBEq, Nat.reduceAdd, Nat.reduceMul, Nat.reduceLeDiff, ↓reduceIte, rd_new_lt, own_new_lt, mp_new_lt, rd_newm_lt, own_newm_lt, mp_newm_lt, rd_wr_ne, own_wr_ne, mp_wr_ne, rd_wrm_ne, own_wrm_ne, mp_wrm_ne, rd_new_eq, own_new_eq, mp_newm_eq]
          have hin6 : InC (w.put i (2, k, 0)).cs i := ⟨by omega, (2, k, 0), by show (w.cs.set (i : Int).toNat _)[(i : Int).toNat]? = _; rw [List.getElem?_set_self (by have := st.cl; omega)], by simp only; omega⟩
          refine (cellsN_Put_spec c6 1 i 0 0).mono ?_
          rintro _ H7 (⟨hn7, rfl, c7, x7⟩ | ⟨hn7, _⟩)
          rotate_left
          · exact absurd hin6 hn7.2.2
          simp (disch := (first | omega | (simp only [size_new, size_newm, size_wr, size_wrm] <;> omega) | fail)) only [go_sem, Nat.reduceBEq, Nat.reduceAdd, Nat.reduceMul, Nat.reduceLeDiff, ↓reduceIte, rd_new_lt, own_new_lt, mp_new_lt, rd_newm_lt, own_newm_lt, mp_newm_lt, rd_wr_ne, own_wr_ne, mp_wr_ne, rd_wrm_ne, own_wrm_ne, mp_wrm_ne, rd_new_eq, own_new_eq, mp_newm_eq]
          refine (cellsN_Put_spec c7 2 i 0 0).mono ?_
          rintro _ H8 (⟨hn8, rfl, c8, x8⟩ | ⟨hn8, _⟩)
          rotate_left
          · exact absurd hin6 hn8.2.2
          simp (disch := (first | omega | (simp only [size_new, size_newm, size_wr, size_wrm] <;> omega) | fail)) only [go_sem, Nat.reduceBEq, Nat.reduceAdd, Nat.reduceMul, Nat.reduceLeDiff, ↓reduceIte, rd_new_lt, own_new_lt, mp_new_lt, rd_newm_lt, own_newm_lt, mp_newm_lt, rd_wr_ne, own_wr_ne, mp_wr_ne, rd_wrm_ne, own_wrm_ne, mp_wrm_ne, rd_new_eq, own_new_eq, mp_newm_eq]
          rw [wrap64 (n := (i : Int) + 1) (by omega) (by omega)]
          have hlp := fun j => Nw.len_put (w := w) (i := (i : Int)) (x := (0, 0, 0)) (y := (2, k, 0)) (by rw [Int.toNat_natCast]; exact st.hi i (Nat.le_refl _) hin) j
          have hl1 := hlp 1
          have hl2 := hlp 2
          simp only at hl1 hl2
          refine ⟨ks.length - (i + 1), by omega, i + 1, w.put i (2, k, 0), fst, rfl, rfl, by omega, c8, ⟨st.hs, by simp [Nw.put, st.cl], fun j hj k' hk' => ?_, fun j hj hj2 => ?_⟩, by rw [hl1]; simp; omega, by rw [hl2]; simp; omega, by omega, by omega, ((f5.then x6 hS4).then x7 hS4).then x8 hS4⟩
          · show (w.cs.set (i : Int).toNat _)[j]? = _
            rw [set_get _ _ _ _ (by have := st.cl; omega), Int.toNat_natCast]
            by_cases e : i = j
            · subst e
              rw [hk] at hk'
              injection hk' with hk'
              rw [if_pos rfl, ← hk', show sd i = 2 from if_pos hx]
            · rw [if_neg e]; exact st.lo j (by omega) k' hk'
          · show (w.cs.set (i : Int).toNat _)[j]? = _
            rw [set_get _ _ _ _ (by have := st.cl; omega), Int.toNat_natCast, if_neg (by omega)]
            exact st.hi j (by omega) hj2
        | false =>
          simp (disch := (first | omega | (simp only [size_new, size_newm, size_wr, size_wrm] <;> omega) | fail)) only [go_sem, Nat.reduceBEq, Nat.reduceAdd, Nat.reduceMul, Nat.reduceLeDiff, ↓reduceIte, rd_new_lt, own_new_lt, mp_new_lt, rd_newm_lt, own_newm_lt, mp_newm_lt, rd_wr_ne, own_wr_ne, mp_wr_ne, rd_wrm_ne, own_wrm_ne, mp_wrm_ne, rd_new_eq, own_new_eq, mp_newm_eq]
          rw [wrap64 (n := fst + 1) (by omega) (by omega)]
          refine (cellsN_Put_spec c5 1 i k 0).mono ?_
          rintro _ H6 (⟨hn, _⟩ | ⟨hn, rfl, c6, x6⟩)
          · exact absurd ⟨⟨by omega, by rw [st.hs]; rfl⟩, ⟨by omega, by have := st.cl; omega⟩, hnin⟩ hn
          simp (disch := (first | omega | (simp only [size_new, size_newm, size_wr, size_wrm] <;> omega) | fail)) only [go_sem, Nat.reduceBEq, Nat.reduceAdd, Nat.reduceMul, Nat.reduceLeDiff, ↓reduceIte, rd_new_lt, own_new_lt, mp_new_lt, rd_newm_lt, own_newm_lt, mp_newm_lt, rd_wr_ne, own_wr_ne, mp_wr_ne, rd_wrm_ne, own_wrm_ne, mp_wrm_ne, rd_new_eq, own_new_eq, mp_newm_eq]
          have hin6 : InC (w.put i (1, k, 0)).cs i := ⟨by omega, (1, k, 0), by show (w.cs.set (i : Int).toNat _)[(i : Int).toNat]? = _; rw [List.getElem?_set_self (by have := st.cl; omega)], by simp only; omega⟩
          refine (cellsN_Put_spec c6 1 i 0 0).mono ?_
          rintro _ H7 (⟨hn7, rfl, c7, x7⟩ | ⟨hn7, _⟩)
          rotate_left
          · exact absurd hin6 hn7.2.2
          simp (disch := (first | omega | (simp only [size_new, size_newm, size_wr, size_wrm] <;> omega) | fail)) only [go_sem, Nat.reduceBEq, Nat.reduceAdd, Nat.reduceMul, Nat.reduceLeDiff, ↓reduceIte, rd_new_lt, own_new_lt, mp_new_lt, rd_newm_lt, own_newm_lt, mp_newm_lt, rd_wr_ne, own_wr_ne, mp_wr_ne, rd_wrm_ne, own_wrm_ne, mp_wrm_ne, rd_new_eq, own_new_eq, mp_newm_eq]
          refine (cellsN_Put_spec c7 2 i 0 0).mono ?_
          rintro _ H8 (⟨hn8, rfl, c8, x8⟩ | ⟨hn8, _⟩)
          rotate_left
          · exact absurd hin6 hn8.2.2
          simp (disch := (first | omega | (simp only [size_new, size_newm, size_wr, size_wrm] <;> omega) | fail)) only [go_sem, Nat.reduceBEq, Nat.reduceAdd, Nat.reduceMul, Nat.reduceLeDiff, ↓reduceIte, rd_new_lt, own_new_lt, mp_new_lt, rd_newm_lt, own_newm_lt, mp_newm_lt, rd_wr_ne, own_wr_ne, mp_wr_ne, rd_wrm_ne, own_wrm_ne, mp_wrm_ne, rd_new_eq, own_new_eq, mp_newm_eq]
          rw [wrap64 (n := (i : Int) + 1) (by omega) (by omega)]
          have hlp := fun j => Nw.len_put (w := w) (i := (i : Int)) (x := (0, 0, 0)) (y := (1, k, 0)) (by rw [Int.toNat_natCast]; exact st.hi i (Nat.le_refl _) hin) j
          have hl1 := hlp 1
          have hl2 := hlp 2
          simp only at hl1 hl2
          refine ⟨ks.length - (i + 1), by omega, i + 1, w.put i (1, k, 0), fst + 1, rfl, rfl, by omega, c8, ⟨st.hs, by simp [Nw.put, st.cl], fun j hj k' hk' => ?_, fun j hj hj2 => ?_⟩, by rw [hl1]; simp; omega, by rw [hl2]; simp; omega, by omega, by omega, ((f5.then x6 hS4).then x7 hS4).then x8 hS4⟩
          · show (w.cs.set (i : Int).toNat _)[j]? = _
            rw [set_get _ _ _ _ (by have := st.cl; omega), Int.toNat_natCast]
            by_cases e : i = j
            · subst e
              rw [hk] at hk'
              injection hk' with hk'
              rw [if_pos rfl, ← hk', show sd i = 1 from if_neg (by rw [hx]; simp)]
            · rw [if_neg e]; exact st.lo j (by omega) k' hk'
          · show (w.cs.set (i : Int).toNat _)[j]? = _
            rw [set_get _ _ _ _ (by have := st.cl; omega), Int.toNat_natCast, if_neg (by omega)]
            exact st.hi j (by omega) hj2
      · rw [wrap64 (n := fst + 1) (by omega) (by omega)]
        refine (cellsN_Put_spec c5 1 i k 0).mono ?_
        rintro _ H6 (⟨hn, _⟩ | ⟨hn, rfl, c6, x6⟩)
        · exact absurd ⟨⟨by omega, by rw [st.hs]; rfl⟩, ⟨by omega, by have := st.cl; omega⟩, hnin⟩ hn
        simp (disch := (first | omega | (simp only [size_new, size_newm, size_wr, size_wrm] <;> omega) | fail)) only [go_sem, Nat.reduceBEq, Nat.reduceAdd, Nat.reduceMul, Nat.reduceLeDiff, ↓reduceIte, rd_new_lt, own_new_lt, mp_new_lt, rd_newm_lt, own_newm_lt, mp_newm_lt, rd_wr_ne, own_wr_ne, mp_wr_ne, rd_wrm_ne, own_wrm_ne, mp_wrm_ne, rd_new_eq, own_new_eq, mp_newm_eq]
        have hin6 : InC (w.put i (1, k, 0)).cs i := ⟨by omega, (1, k, 0), by show (w.cs.set (i : Int).toNat _)[(i : Int).toNat]? = _; rw [List.getElem?_set_self (by have := st.cl; omega)], by simp only; omega⟩
        refine (cellsN_Put_spec c6 1 i 0 0).mono ?_
        rintro _ H7 (⟨hn7, rfl, c7, x7⟩ | ⟨hn7, _⟩)
        rotate_left
        · exact absurd hin6 hn7.2.2
        simp (disch := (first | omega | (simp only [size_new, size_newm, size_wr, size_wrm] <;> omega) | fail)) only [go_sem, Nat.reduceBEq, Nat.reduceAdd, Nat.reduceMul, Nat.reduceLeDiff, ↓reduceIte, rd_new_lt, own_new_lt, mp_new_lt, rd_newm_lt, own_newm_lt, mp_newm_lt, rd_wr_ne, own_wr_ne, mp_wr_ne, rd_wrm_ne, own_wrm_ne, mp_wrm_ne, rd_new_eq, own_new_eq, mp_newm_eq]
        refine (cellsN_Put_spec c7 2 i 0 0).mono ?_
        rintro _ H8 (⟨hn8, rfl, c8, x8⟩ | ⟨hn8, _⟩)
        rotate_left
        · exact absurd hin6 hn8.2.2
        simp (disch := (first | omega | (simp only [size_new, size_newm, size_wr, size_wrm] <;> omega) | fail)) only [go_sem, Nat.reduceBEq, Nat.reduceAdd, Nat.reduceMul, Nat.reduceLeDiff, ↓reduceIte, rd_new_lt, own_new_lt, mp_new_lt, rd_newm_lt, own_newm_lt, mp_newm_lt, rd_wr_ne, own_wr_ne, mp_wr_ne, rd_wrm_ne, own_wrm_ne, mp_wrm_ne, rd_new_eq, own_new_eq, mp_newm_eq]
        rw [wrap64 (n := (i : Int) + 1) (by omega) (by omega)]
        have hlp := fun j => Nw.len_put (w := w) (i := (i : Int)) (x := (0, 0, 0)) (y := (1, k, 0)) (by rw [Int.toNat_natCast]; exact st.hi i (Nat.le_refl _) hin) j
        have hl1 := hlp 1
        have hl2 := hlp 2
        simp only at hl1 hl2
        refine ⟨ks.length - (i + 1), by omega, i + 1, w.put i (1, k, 0), fst + 1, rfl, rfl, by omega, c8, ⟨st.hs, by simp [Nw.put, st.cl], fun j hj k' hk' => ?_, fun j hj hj2 => ?_⟩, by rw [hl1]; simp; omega, by rw [hl2]; simp; omega, by omega, by omega, ((f5.then x6 hS4).then x7 hS4).then x8 hS4⟩
        · show (w.cs.set (i : Int).toNat _)[j]? = _
          rw [set_get _ _ _ _ (by have := st.cl; omega), Int.toNat_natCast]
          by_cases e : i = j
          · subst e
            rw [hk] at hk'
            injection hk' with hk'
            rw [if_pos rfl, ← hk', show sd i = 1 from if_neg (by rw [List.getElem?_eq_none (by omega)]; simp)]
          · rw [if_neg e]; exact st.lo j (by omega) k' hk'
        · show (w.cs.set (i : Int).toNat _)[j]? = _
          rw [set_get _ _ _ _ (by have := st.cl; omega), Int.toNat_natCast, if_neg (by omega)]
          exact st.hi j (by omega) hj2
    · have hi2 : i = ks.length := by omega
      subst hi2
      refine (cellsN_Len_spec c5 1).mono ?_
      rintro _ _ ⟨rfl, rfl⟩
      rw [hl1']
      simp (disch := (first | omega | (simp only [size_new, size_newm, size_wr, size_wrm] <;> omega) | fail)) only [go_sem, Nat.reduceBEq, Nat.reduceAdd, Nat.reduceMul, Nat.reduceLeDiff, ↓reduceIte, rd_new_lt, own_new_lt, mp_new_lt, rd_newm_lt, own_newm_lt, mp_newm_lt, rd_wr_ne, own_wr_ne, mp_wr_ne, rd_wrm_ne, own_wrm_ne, mp_wrm_ne, rd_new_eq, own_new_eq, mp_newm_eq]
      refine Both.of_true (by simp) ?_
      simp (disch := (first | omega | (simp only [size_new, size_newm, size_wr, size_wrm] <;> omega) | fail)) only [go_sem, Nat.reduceBEq, Nat.reduceAdd, Nat.reduceMul, Nat.reduceLeDiff, ↓reduceIte, rd_new_lt, own_new_lt, mp_new_lt, rd_newm_lt, own_newm_lt, mp_newm_lt, rd_wr_ne, own_wr_ne, mp_wr_ne, rd_wrm_ne, own_wrm_ne, mp_wrm_ne, rd_new_eq, own_new_eq, mp_newm_eq]
      refine (cellsN_Len_spec c5 2).mono ?_
      rintro _ _ ⟨rfl, rfl⟩
      rw [hl2']
      simp (disch := (first | omega | (simp only [size_new, size_newm, size_wr, size_wrm] <;> omega) | fail)) only [go_sem, Nat.reduceBEq, Nat.reduceAdd, Nat.reduceMul, Nat.reduceLeDiff, ↓reduceIte, rd_new_lt, own_new_lt, mp_new_lt, rd_newm_lt, own_newm_lt, mp_newm_lt, rd_wr_ne, own_wr_ne, mp_wr_ne, rd_wrm_ne, own_wrm_ne, mp_wrm_ne, rd_new_eq, own_new_eq, mp_newm_eq]
      rw [wrap64 (n := (ks.length : Int) - fst) (by omega) (by omega)]
      refine Both.of_true (by simp) ?_
      simp (disch := (first | omega | (simp only [size_new, size_newm, size_wr, size_wrm] <;> omega) | fail)) only [go_sem, Nat.reduceBEq, Nat.reduceAdd, Nat.reduceMul, Nat.reduceLeDiff, ↓reduceIte, rd_new_lt, own_new_lt, mp_new_lt, rd_newm_lt, own_newm_lt, mp_newm_lt, rd_wr_ne, own_wr_ne, mp_wr_ne, rd_wrm_ne, own_wrm_ne, mp_wrm_ne, rd_new_eq, own_new_eq, mp_newm_eq]
      refine (cellsN_Join_spec c5 2 1).mono ?_
      rintro _ H6 (⟨hn, _⟩ | ⟨hn, rfl, c6, x6⟩)
      · exact absurd ⟨⟨by omega, by rw [st.hs]; rfl⟩, ⟨by omega, by rw [st.hs]; rfl⟩, by omega⟩ hn
      have f6 := f5.then x6 hS4
      simp (disch := (first | omega | (simp only [size_new, size_newm, size_wr, size_wrm] <;> omega) | fail)) only [go_sem, Nat.reduceBEq, Nat.reduceAdd, Nat.reduceMul, Nat.reduceLeDiff, ↓reduceIte, rd_new_lt, own_new_lt, mp_new_lt, rd_newm_lt, own_newm_lt, mp_newm_lt, rd_wr_ne, own_wr_ne, mp_wr_ne, rd_wrm_ne, own_wrm_ne, mp_wrm_ne, rd_new_eq, own_new_eq, mp_newm_eq]
      refine (cellsN_Has_spec c6 1).mono ?_
      rintro _ _ ⟨rfl, rfl⟩
      rw [decide_eq_false (show ¬ (w.join 2 1).has 1 from fun h => by have := h.2; simp [Nw.join, st.hs] at this)]
      simp (disch := (first | omega | (simp only [size_new, size_newm, size_wr, size_wrm] <;> omega) | fail)) only [go_sem, Nat.reduceBEq, Nat.reduceAdd, Nat.reduceMul, Nat.reduceLeDiff, ↓reduceIte, rd_new_lt, own_new_lt, mp_new_lt, rd_newm_lt, own_newm_lt, mp_newm_lt, rd_wr_ne, own_wr_ne, mp_wr_ne, rd_wrm_ne, own_wrm_ne, mp_wrm_ne, rd_new_eq, own_new_eq, mp_newm_eq]
      refine (cellsN_Len_spec c6 2).mono ?_
      rintro _ _ ⟨rfl, rfl⟩
      have hj2 := w.len_join (a := 2) (b := 1) (by omega) (by omega) (by omega) 2
      have hj1 := w.len_join (a := 2) (b := 1) (by omega) (by omega) (by omega) 1
      rw [if_pos rfl] at hj2
      rw [if_neg (by omega), if_pos rfl] at hj1
      simp (disch := (first | omega | (simp only [size_new, size_newm, size_wr, size_wrm] <;> omega) | fail)) only [go_sem, Nat.reduceBEq, Nat.reduceAdd, Nat.reduceMul, Nat.reduceLeDiff, ↓reduceIte, rd_new_lt, own_new_lt, mp_new_lt, rd_newm_lt, own_newm_lt, mp_newm_lt, rd_wr_ne, own_wr_ne, mp_wr_ne, rd_wrm_ne, own_wrm_ne, mp_wrm_ne, rd_new_eq, own_new_eq, mp_newm_eq]
      refine Both.of_true (by simp only [decide_eq_true_eq]; omega) ?_
      simp (disch := (first | omega | (simp only [size_new, size_newm, size_wr, size_wrm] <;> omega) | fail)) only [go_sem, Nat.reduceBEq, Nat.reduceAdd, Nat.reduceMul, Nat.reduceLeDiff, ↓reduceIte, rd_new_lt, own_new_lt, mp_new_lt, rd_newm_lt, own_newm_lt, mp_newm_lt, rd_wr_ne, own_wr_ne, mp_wr_ne, rd_wrm_ne, own_wrm_ne, mp_wrm_ne, rd_new_eq, own_new_eq, mp_newm_eq]
      refine (cellsN_Len_spec c6 1).mono ?_
      rintro _ _ ⟨rfl, rfl⟩
      rw [hj1]
      simp (disch := (first | omega | (simp only [size_new, size_newm, size_wr, size_wrm] <;> omega) | fail)) only [go_sem, Nat.reduceBEq, Nat.reduceAdd, Nat.reduceMul, Nat.reduceLeDiff, ↓reduceIte, rd_new_lt, own_new_lt, mp_new_lt, rd_newm_lt, own_newm_lt, mp_newm_lt, rd_wr_ne, own_wr_ne, mp_wr_ne, rd_wrm_ne, own_wrm_ne, mp_wrm_ne, rd_new_eq, own_new_eq, mp_newm_eq]
      refine Both.of_true (by simp) ?_
      simp (disch := (first | omega | (simp only [size_new, size_newm, size_wr, size_wrm] <;> omega) | fail)) only [go_sem, Nat.reduceBEq, Nat.reduceAdd, Nat.reduceMul, Nat.reduceLeDiff, ↓reduceIte, rd_new_lt, own_new_lt, mp_new_lt, rd_newm_lt, own_newm_lt, mp_newm_lt, rd_wr_ne, own_wr_ne, mp_wr_ne, rd_wrm_ne, own_wrm_ne, mp_wrm_ne, rd_new_eq, own_new_eq, mp_newm_eq]
      have hc6 : ∀ (j : Nat) (k : Int), ks[j]? = some k → (w.join 2 1).cs[j]? = some ((2, k, 0) : Ce) := fun j k hk => by
        have hj := (List.getElem?_eq_some_iff.1 hk).1
        have := st.lo j hj k hk
        unfold Nw.join
        simp only
        rw [List.getElem?_map, this]
        simp only [Option.map_some, Option.some.injEq, sd]
        split <;> simp
      have hcl6 : (w.join 2 1).cs.length = ks.length := by simp [Nw.join, st.cl]
      refine (cellsN_Drop_spec c6 gone).mono ?_
      rintro _ H7 (⟨hg, rfl, rfl⟩ | ⟨hg, rfl, c7, x7⟩)
      · have hcell : ∀ (j : Nat) k, ks[j]? = some k → (j : Int) ≠ gone → (w.join 2 1).cs[j]? = some (2, k, 0) := fun j k hk _ => hc6 j k hk
        have hgone : ∀ {j : Nat}, (j : Int) = gone → (j : Int) < ks.length → (w.join 2 1).cs[(j : Int).toNat]? = some (0, 0, 0) := fun {j} he hj => by
          obtain ⟨k, hk⟩ : ∃ k, ks[j]? = some k := ⟨_, List.getElem?_eq_getElem (by omega)⟩
          exact absurd ⟨by omega, _, by rw [← he, Int.toNat_natCast]; exact hc6 j k hk, by simp only; omega⟩ hg
        simp (disch := (first | omega | (simp only [size_new, size_newm, size_wr, size_wrm] <;> omega) | fail)) only [go_sem, Nat.reduceBEq, Nat.reduceAdd, Nat.reduceMul, Nat.reduceLeDiff, ↓reduceIte, rd_new_lt, own_new_lt, mp_new_lt, rd_newm_lt, own_newm_lt, mp_newm_lt, rd_wr_ne, own_wr_ne, mp_wr_ne, rd_wrm_ne, own_wrm_ne, mp_wrm_ne, rd_new_eq, own_new_eq, mp_newm_eq]
        refine LoopV.intro (fun m env H => ∃ i : Nat, env = [(2, i64 gone), (7, ptr cb), (10, i64 2), (15, i64 ks.length), (134, .slice a ks.length c), (135, i64 ks.length), (136, i64 i)] ∧ m = ks.length - i ∧ i ≤ ks.length ∧ CellsN H cb S4 0 (w.join 2 1) ∧ Fresh Hh H) ks.length ⟨0, rfl, by omega, by omega, c6, f6⟩ ?_
        rintro m env H ⟨i, rfl, rfl, hi, cc, fh⟩
        simp (disch := (first | omega | (simp only [size_new, size_newm, size_wr, size_wrm] <;> omega) | fail)) only [go_sem, Nat.reduceBEq, Nat.reduceAdd, Nat.reduceMul, Nat.reduceLeDiff, ↓reduceIte, rd_new_lt, own_new_lt, mp_new_lt, rd_newm_lt, own_newm_lt, mp_newm_lt, rd_wr_ne, own_wr_ne, mp_wr_ne, rd_wrm_ne, own_wrm_ne, mp_wrm_ne, rd_new_eq, own_new_eq, mp_newm_eq]
        refine Both.dec (fun hin => ?_) (fun hin => ?_) <;> simp (disch := (first | omega | (simp only [size_new, size_newm, size_wr, size_wrm] <;> omega) | fail)) only [go_sem, Nat.reduceBEq, Nat.reduceAdd, Nat.reduceMul, Nat.reduceLeDiff, ↓reduceIte, rd_new_lt, own_new_lt, mp_new_lt, rd_newm_lt, own_newm_lt, mp_newm_lt, rd_wr_ne, own_wr_ne, mp_wr_ne, rd_wrm_ne, own_wrm_ne, mp_wrm_ne, rd_new_eq, own_new_eq, mp_newm_eq]
        · obtain ⟨k, hk⟩ : ∃ k, ks[i]? = some k := ⟨_, List.getElem?_eq_getElem (by omega)⟩
          obtain ⟨b, o, cq, lb, e1, e2, e3, e4⟩ := RdS.get (hrd.fresh fh) (i := i) (j := 0) (x := i64 k) (by omega) (by simp [hk])
          injection e1 with e1 _ e5
          subst e1; subst e5
          refine ⟨by omega, ?_⟩
          simp (disch := (first | omega | (simp only [size_new, size_newm, size_wr, size_wrm] <;> omega) | fail)) only [go_sem, Nat.reduceBEq, Nat.reduceAdd, Nat.reduceMul, Nat.reduceLeDiff, ↓reduceIte, rd_new_lt, own_new_lt, mp_new_lt, rd_newm_lt, own_newm_lt, mp_newm_lt, rd_wr_ne, own_wr_ne, mp_wr_ne, rd_wrm_ne, own_wrm_ne, mp_wrm_ne, rd_new_eq, own_new_eq, mp_newm_eq, e2, Int.toNat_natCast, show lb[o + i * 1]? = some (i64 k) from e4]
          refine (cellsN_Home_spec cc i).mono ?_
          rintro hv H8 hhome
          obtain ⟨hx, hok, rfl, c8, f8⟩ : ∃ (hx : Int) (hok : Bool), hv = .tuple [i64 hx, .bool hok].toArray ∧ CellsN H8 cb S4 0 (w.join 2 1) ∧ Fresh Hh H8 ∧ ((i : Int) = gone → hok = false) ∧ ((i : Int) ≠ gone → hok = true ∧ hx = 2) := by
            rcases hhome with ⟨hn, rfl, rfl⟩ | ⟨hn, x, hx, rfl, c8, x8⟩
            · exact ⟨0, false, rfl, cc, fh, fun _ => rfl, fun hne => absurd ⟨by omega, _, by rw [Int.toNat_natCast]; exact hcell i k hk hne, by simp only; omega⟩ hn⟩
            · refine ⟨x.1, true, rfl, c8, fh.then x8 hS4, fun he => ?_, fun hne => ⟨rfl, ?_⟩⟩
              · obtain ⟨_, y, hy, hy0⟩ := hn
                rw [hgone he hin] at hy
                injection hy with hy
                subst hy
                simp at hy0
              · rw [Int.toNat_natCast, hcell i k hk hne] at hx
                injection hx with hx
                rw [← hx]
          obtain ⟨f8, hh1, hh2⟩ := f8
          simp (disch := (first | omega | (simp only [size_new, size_newm, size_wr, size_wrm] <;> omega) | fail)) only [go_sem, Nat.reduceBEq, Nat.reduceAdd, Nat.reduceMul, Nat.reduceLeDiff, ↓reduceIte, rd_new_lt, own_new_lt, mp_new_lt, rd_newm_lt, own_newm_lt, mp_newm_lt, rd_wr_ne, own_wr_ne, mp_wr_ne, rd_wrm_ne, own_wrm_ne, mp_wrm_ne, rd_new_eq, own_new_eq, mp_newm_eq]
          refine (cellsN_Entry_spec c8 i).mono ?_
          rintro ev H9 ⟨c9, x9, hent⟩
          have f9 := f8.trans x9
          obtain ⟨ek, es, eok, rfl, ee1, ee2⟩ : ∃ (ek es : Int) (eok : Bool), ev = .tuple [ent ek es, .bool eok].toArray ∧ ((i : Int) = gone → eok = false) ∧ ((i : Int) ≠ gone → eok = true ∧ ek = k ∧ es = 0) := by
            rcases hent with ⟨hn, rfl⟩ | ⟨hn, x, hx, rfl⟩
            · exact ⟨0, 0, false, rfl, fun _ => rfl, fun hne => absurd ⟨by omega, _, by rw [Int.toNat_natCast]; exact hcell i k hk hne, by simp only; omega⟩ hn⟩
            · refine ⟨x.2.1, x.2.2, true, rfl, fun he => ?_, fun hne => ?_⟩
              · obtain ⟨_, y, hy, hy0⟩ := hn
                rw [hgone he hin] at hy
                injection hy with hy
                subst hy
                simp at hy0
              · rw [Int.toNat_natCast, hcell i k hk hne] at hx
                injection hx with hx
                rw [← hx]
                exact ⟨rfl, rfl, rfl⟩
          simp (disch := (first | omega | (simp only [size_new, size_newm, size_wr, size_wrm] <;> omega) | fail)) only [go_sem, Nat.reduceBEq, Nat.reduceAdd, Nat.reduceMul, Nat.reduceLeDiff, ↓reduceIte, rd_new_lt, own_new_lt, mp_new_lt, rd_newm_lt, own_newm_lt, mp_newm_lt, rd_wr_ne, own_wr_ne, mp_wr_ne, rd_wrm_ne, own_wrm_ne, mp_wrm_ne, rd_new_eq, own_new_eq, mp_newm_eq, ent]
          have f10 : Fresh H9 ((H9.new 40 [.int .i64 0, .int .u64 0]).wr H9.size [i64 ek, u64 es]) := ((Ext.refl _ _).new _ _).wr (fun h => absurd h (Nat.lt_irrefl _)) _
          have bx : ((H9.new 40 [.int .i64 0, .int .u64 0]).wr H9.size [i64 ek, u64 es]).own H9.size = some [i64 ek, u64 es] := own_wr_same (own_new _ _ _)
          refine Both.dec (fun hg => ?_) (fun hg => ?_)
          · obtain rfl := hh1 hg
            obtain rfl := ee1 hg
            simp (disch := (first | omega | (simp only [size_new, size_newm, size_wr, size_wrm] <;> omega) | fail)) only [go_sem, Nat.reduceBEq, Nat.reduceAdd, Nat.reduceMul, Nat.reduceLeDiff, ↓reduceIte, rd_new_lt, own_new_lt, mp_new_lt, rd_newm_lt, own_newm_lt, mp_newm_lt, rd_wr_ne, own_wr_ne, mp_wr_ne, rd_wrm_ne, own_wrm_ne, mp_wrm_ne, rd_new_eq, own_new_eq, mp_newm_eq]
            rw [wrap64 (n := (i : Int) + 1) (by omega) (by omega)]
            exact ⟨ks.length - (i + 1), by omega, i + 1, rfl, rfl, by omega, c9.fresh f10, f9.trans f10⟩
          · obtain ⟨rfl, rfl⟩ := hh2 hg
            obtain ⟨rfl, rfl, rfl⟩ := ee2 hg
            simp (disch := (first | omega | (simp only [size_new, size_newm, size_wr, size_wrm] <;> omega) | fail)) only [go_sem, Nat.reduceBEq, Nat.reduceAdd, Nat.reduceMul, Nat.reduceLeDiff, ↓reduceIte, rd_new_lt, own_new_lt, mp_new_lt, rd_newm_lt, own_newm_lt, mp_newm_lt, rd_wr_ne, own_wr_ne, mp_wr_ne, rd_wrm_ne, own_wrm_ne, mp_wrm_ne, rd_new_eq, own_new_eq, mp_newm_eq, rd_of_own bx]
            refine Both.of_true (by simp) ?_
            simp (disch := (first | omega | (simp only [size_new, size_newm, size_wr, size_wrm] <;> omega) | fail)) only [go_sem, Nat.reduceBEq, Nat.reduceAdd, Nat.reduceMul, Nat.reduceLeDiff, ↓reduceIte, rd_new_lt, own_new_lt, mp_new_lt, rd_newm_lt, own_newm_lt, mp_newm_lt, rd_wr_ne, own_wr_ne, mp_wr_ne, rd_wrm_ne, own_wrm_ne, mp_wrm_ne, rd_new_eq, own_new_eq, mp_newm_eq, rd_of_own bx]
            rw [eqVs_ent', Option.map_some]
            simp (disch := (first | omega | (simp only [size_new, size_newm, size_wr, size_wrm] <;> omega) | fail)) only [go_sem, Nat.reduceBEq, Nat.reduceAdd, Nat.reduceMul, Nat.reduceLeDiff, ↓reduceIte, rd_new_lt, own_new_lt, mp_new_lt, rd_newm_lt, own_newm_lt, mp_newm_lt, rd_wr_ne, own_wr_ne, mp_wr_ne, rd_wrm_ne, own_wrm_ne, mp_wrm_ne, rd_new_eq, own_new_eq, mp_newm_eq]
            refine Both.of_true (by simp) ?_
            simp (disch := (first | omega | (simp only [size_new, size_newm, size_wr, size_wrm] <;> omega) | fail)) only [go_sem, Nat.reduceBEq, Nat.reduceAdd, Nat.reduceMul, Nat.reduceLeDiff, ↓reduceIte, rd_new_lt, own_new_lt, mp_new_lt, rd_newm_lt, own_newm_lt, mp_newm_lt, rd_wr_ne, own_wr_ne, mp_wr_ne, rd_wrm_ne, own_wrm_ne, mp_wrm_ne, rd_new_eq, own_new_eq, mp_newm_eq]
            rw [wrap64 (n := (i : Int) + 1) (by omega) (by omega)]
            exact ⟨ks.length - (i + 1), by omega, i + 1, rfl, rfl, by omega, c9.fresh f10, f9.trans f10⟩
        · refine (cellsN_Len_spec cc 2).mono ?_
          rintro _ _ ⟨rfl, rfl⟩
          simp (disch := (first | omega | (simp only [size_new, size_newm, size_wr, size_wrm] <;> omega) | fail)) only [go_sem, Nat.reduceBEq, Nat.reduceAdd, Nat.reduceMul, Nat.reduceLeDiff, ↓reduceIte, rd_new_lt, own_new_lt, mp_new_lt, rd_newm_lt, own_newm_lt, mp_newm_lt, rd_wr_ne, own_wr_ne, mp_wr_ne, rd_wrm_ne, own_wrm_ne, mp_wrm_ne, rd_new_eq, own_new_eq, mp_newm_eq]
          exact ⟨congrArg Value.bool (decide_eq_true (by omega)), fh⟩
      · obtain ⟨hg0', y, hy, hy0⟩ := id hg
        have hyl := (List.getElem?_eq_some_iff.1 hy).1
        have hy2 : y.1 = 2 := by
          obtain ⟨k, hk⟩ : ∃ k, ks[gone.toNat]? = some k := ⟨_, List.getElem?_eq_getElem (by omega)⟩
          rw [hc6 _ k hk] at hy
          injection hy with hy
          rw [← hy]
        have hcell : ∀ (j : Nat) k, ks[j]? = some k → (j : Int) ≠ gone → ((w.join 2 1).put gone (0, 0, 0)).cs[j]? = some (2, k, 0) := fun j k hk hne => by
          show ((w.join 2 1).cs.set gone.toNat _)[j]? = _
          rw [List.getElem?_set_ne (by omega)]
          exact hc6 j k hk
        have hgone : ∀ {j : Nat}, (j : Int) = gone → (j : Int) < ks.length → ((w.join 2 1).put gone (0, 0, 0)).cs[(j : Int).toNat]? = some (0, 0, 0) := fun {j} he hj => by
          show ((w.join 2 1).cs.set gone.toNat _)[(j : Int).toNat]? = _
          rw [he, List.getElem?_set_self (by omega)]
        have hlp := Nw.len_put (w := w.join 2 1) (y := (0, 0, 0)) hy 2
        rw [if_pos ⟨by omega, hy2⟩, if_neg (by simp)] at hlp
        simp (disch := (first | omega | (simp only [size_new, size_newm, size_wr, size_wrm] <;> omega) | fail)) only [go_sem, Nat.reduceBEq, Nat.reduceAdd, Nat.reduceMul, Nat.reduceLeDiff, ↓reduceIte, rd_new_lt, own_new_lt, mp_new_lt, rd_newm_lt, own_newm_lt, mp_newm_lt, rd_wr_ne, own_wr_ne, mp_wr_ne, rd_wrm_ne, own_wrm_ne, mp_wrm_ne, rd_new_eq, own_new_eq, mp_newm_eq]
        rw [wrap64 (n := (ks.length : Int) - 1) (by omega) (by omega)]
        refine LoopV.intro (fun m env H => ∃ i : Nat, env = [(2, i64 gone), (7, ptr cb), (10, i64 2), (15, i64 ((ks.length : Int) - 1)), (134, .slice a ks.length c), (135, i64 ks.length), (136, i64 i)] ∧ m = ks.length - i ∧ i ≤ ks.length ∧ CellsN H cb S4 0 ((w.join 2 1).put gone (0, 0, 0)) ∧ Fresh Hh H) ks.length ⟨0, rfl, by omega, by omega, c7, (f6.then x7 hS4)⟩ ?_
        rintro m env H ⟨i, rfl, rfl, hi, cc, fh⟩
        simp (disch := (first | omega | (simp only [size_new, size_newm, size_wr, size_wrm] <;> omega) | fail)) only [go_sem, Nat.reduceBEq, Nat.reduceAdd, Nat.reduceMul, Nat.reduceLeDiff, ↓reduceIte, rd_new_lt, own_new_lt, mp_new_lt, rd_newm_lt, own_newm_lt, mp_newm_lt, rd_wr_ne, own_wr_ne, mp_wr_ne, rd_wrm_ne, own_wrm_ne, mp_wrm_ne, rd_new_eq, own_new_eq, mp_newm_eq]
        refine Both.dec (fun hin => ?_) (fun hin => ?_) <;> simp (disch := (first | omega | (simp only [size_new, size_newm, size_wr, size_wrm] <;> omega) | fail)) only [go_sem, Nat.reduceBEq, Nat.reduceAdd, Nat.reduceMul, Nat.reduceLeDiff, ↓reduceIte, rd_new_lt, own_new_lt, mp_new_lt, rd_newm_lt, own_newm_lt, mp_newm_lt, rd_wr_ne, own_wr_ne, mp_wr_ne, rd_wrm_ne, own_wrm_ne, mp_wrm_ne, rd_new_eq, own_new_eq, mp_newm_eq]
        · obtain ⟨k, hk⟩ : ∃ k, ks[i]? = some k := ⟨_, List.getElem?_eq_getElem (by omega)⟩
          obtain ⟨b, o, cq, lb, e1, e2, e3, e4⟩ := RdS.get (hrd.fresh fh) (i := i) (j := 0) (x := i64 k) (by omega) (by simp [hk])
          injection e1 with e1 _ e5
          subst e1; subst e5
          refine ⟨by omega, ?_⟩
          simp (disch := (first | omega | (simp only [size_new, size_newm, size_wr, size_wrm] <;> omega) | fail)) only [go_sem, Nat.reduceBEq, Nat.reduceAdd, Nat.reduceMul, Nat.reduceLeDiff, ↓reduceIte, rd_new_lt, own_new_lt, mp_new_lt, rd_newm_lt, own_newm_lt, mp_newm_lt, rd_wr_ne, own_wr_ne, mp_wr_ne, rd_wrm_ne, own_wrm_ne, mp_wrm_ne, rd_new_eq, own_new_eq, mp_newm_eq, e2, Int.toNat_natCast, show lb[o + i * 1]? = some (i64 k) from e4]
          refine (cellsN_Home_spec cc i).mono ?_
          rintro hv H8 hhome
          obtain ⟨hx, hok, rfl, c8, f8⟩ : ∃ (hx : Int) (hok : Bool), hv = .tuple [i64 hx, .bool hok].toArray ∧ CellsN H8 cb S4 0 ((w.join 2 1).put gone (0, 0, 0)) ∧ Fresh Hh H8 ∧ ((i : Int) = gone → hok = false) ∧ ((i : Int) ≠ gone → hok = true ∧ hx = 2) := by
            rcases hhome with ⟨hn, rfl, rfl⟩ | ⟨hn, x, hx, rfl, c8, x8⟩
            · exact ⟨0, false, rfl, cc, fh, fun _ => rfl, fun hne => absurd ⟨by omega, _, by rw [Int.toNat_natCast]; exact hcell i k hk hne, by simp only; omega⟩ hn⟩
            · refine ⟨x.1, true, rfl, c8, fh.then x8 hS4, fun he => ?_, fun hne => ⟨rfl, ?_⟩⟩
              · obtain ⟨_, y, hy, hy0⟩ := hn
                rw [hgone he hin] at hy
                injection hy with hy
                subst hy
                simp at hy0
              · rw [Int.toNat_natCast, hcell i k hk hne] at hx
                injection hx with hx
                rw [← hx]
          obtain ⟨f8, hh1, hh2⟩ := f8
          simp (disch := (first | omega | (simp only [size_new, size_newm, size_wr, size_wrm] <;> omega) | fail)) only [go_sem, Nat.reduceBEq, Nat.reduceAdd, Nat.reduceMul, Nat.reduceLeDiff, ↓reduceIte, rd_new_lt, own_new_lt, mp_new_lt, rd_newm_lt, own_newm_lt, mp_newm_lt, rd_wr_ne, own_wr_ne, mp_wr_ne, rd_wrm_ne, own_wrm_ne, mp_wrm_ne, rd_new_eq, own_new_eq, mp_newm_eq]
          refine (cellsN_Entry_spec c8 i).mono ?_
          rintro ev H9 ⟨c9, x9, hent⟩
          have f9 := f8.trans x9
          obtain ⟨ek, es, eok, rfl, ee1, ee2⟩ : ∃ (ek es : Int) (eok : Bool), ev = .tuple [ent ek es, .bool eok].toArray ∧ ((i : Int) = gone → eok = false) ∧ ((i : Int) ≠ gone → eok = true ∧ ek = k ∧ es = 0) := by
            rcases hent with ⟨hn, rfl⟩ | ⟨hn, x, hx, rfl⟩
            · exact ⟨0, 0, false, rfl, fun _ => rfl, fun hne => absurd ⟨by omega, _, by rw [Int.toNat_natCast]; exact hcell i k hk hne, by simp only; omega⟩ hn⟩
            · refine ⟨x.2.1, x.2.2, true, rfl, fun he => ?_, fun hne => ?_⟩
              · obtain ⟨_, y, hy, hy0⟩ := hn
                rw [hgone he hin] at hy
                injection hy with hy
                subst hy
                simp at hy0
              · rw [Int.toNat_natCast, hcell i k hk hne] at hx
                injection hx with hx
                rw [← hx]
                exact ⟨rfl, rfl, rfl⟩
          simp (disch := (first | omega | (simp only [size_new, size_newm, size_wr, size_wrm] <;> omega) | fail)) only [go_sem, Nat.reduceBEq, Nat.reduceAdd, Nat.reduceMul, Nat.reduceLeDiff, ↓reduceIte, rd_new_lt, own_new_lt, mp_new_lt, rd_newm_lt, own_newm_lt, mp_newm_lt, rd_wr_ne, own_wr_ne, mp_wr_ne, rd_wrm_ne, own_wrm_ne, mp_wrm_ne, rd_new_eq, own_new_eq, mp_newm_eq, ent]
          have f10 : Fresh H9 ((H9.new 40 [.int .i64 0, .int .u64 0]).wr H9.size [i64 ek, u64 es]) := ((Ext.refl _ _).new _ _).wr (fun h => absurd h (Nat.lt_irrefl _)) _
          have bx : ((H9.new 40 [.int .i64 0, .int .u64 0]).wr H9.size [i64 ek, u64 es]).own H9.size = some [i64 ek, u64 es] := own_wr_same (own_new _ _ _)
          refine Both.dec (fun hg => ?_) (fun hg => ?_)
          · obtain rfl := hh1 hg
            obtain rfl := ee1 hg
            simp (disch := (first | omega | (simp only [size_new, size_newm, size_wr, size_wrm] <;> omega) | fail)) only [go_sem, Nat.reduceBEq, Nat.reduceAdd, Nat.reduceMul, Nat.reduceLeDiff, ↓reduceIte, rd_new_lt, own_new_lt, mp_new_lt, rd_newm_lt, own_newm_lt, mp_newm_lt, rd_wr_ne, own_wr_ne, mp_wr_ne, rd_wrm_ne, own_wrm_ne, mp_wrm_ne, rd_new_eq, own_new_eq, mp_newm_eq]
            rw [wrap64 (n := (i : Int) + 1) (by omega) (by omega)]
            exact ⟨ks.length - (i + 1), by omega, i + 1, rfl, rfl, by omega, c9.fresh f10, f9.trans f10⟩
          · obtain ⟨rfl, rfl⟩ := hh2 hg
            obtain ⟨rfl, rfl, rfl⟩ := ee2 hg
            simp (disch := (first | omega | (simp only [size_new, size_newm, size_wr, size_wrm] <;> omega) | fail)) only [go_sem, Nat.reduceBEq, Nat.reduceAdd, Nat.reduceMul, Nat.reduceLeDiff, ↓reduceIte, rd_new_lt, own_new_lt, mp_new_lt, rd_newm_lt, own_newm_lt, mp_newm_lt, rd_wr_ne, own_wr_ne, mp_wr_ne, rd_wrm_ne, own_wrm_ne, mp_wrm_ne, rd_new_eq, own_new_eq, mp_newm_eq, rd_of_own bx]
            refine Both.of_true (by simp) ?_
            simp (disch := (first | omega | (simp only [size_new, size_newm, size_wr, size_wrm] <;> omega) | fail)) only [go_sem, Nat.reduceBEq, Nat.reduceAdd, Nat.reduceMul, Nat.reduceLeDiff, ↓reduceIte, rd_new_lt, own_new_lt, mp_new_lt, rd_newm_lt, own_newm_lt, mp_newm_lt, rd_wr_ne, own_wr_ne, mp_wr_ne, rd_wrm_ne, own_wrm_ne, mp_wrm_ne, rd_new_eq, own_new_eq, mp_newm_eq, rd_of_own bx]
            rw [eqVs_ent', Option.map_some]
            simp (disch := (first | omega | (simp only [size_new, size_newm, size_wr, size_wrm] <;> omega) | fail)) only [go_sem, Nat.reduceBEq, Nat.reduceAdd, Nat.reduceMul, Nat.reduceLeDiff, ↓reduceIte, rd_new_lt, own_new_lt, mp_new_lt, rd_newm_lt, own_newm_lt, mp_newm_lt, rd_wr_ne, own_wr_ne, mp_wr_ne, rd_wrm_ne, own_wrm_ne, mp_wrm_ne, rd_new_eq, own_new_eq, mp_newm_eq]
            refine Both.of_true (by simp) ?_
            simp (disch := (first | omega | (simp only [size_new, size_newm, size_wr, size_wrm] <;> omega) | fail)) only [go_sem, Nat.reduceBEq, Nat.reduceAdd, Nat.reduceMul, Nat.reduceLeDiff, ↓reduceIte, rd_new_lt, own_new_lt, mp_new_lt, rd_newm_lt, own_newm_lt, mp_newm_lt, rd_wr_ne, own_wr_ne, mp_wr_ne, rd_wrm_ne, own_wrm_ne, mp_wrm_ne, rd_new_eq, own_new_eq, mp_newm_eq]
            rw [wrap64 (n := (i : Int) + 1) (by omega) (by omega)]
            exact ⟨ks.length - (i + 1), by omega, i + 1, rfl, rfl, by omega, c9.fresh f10, f9.trans f10⟩
        · refine (cellsN_Len_spec cc 2).mono ?_
          rintro _ _ ⟨rfl, rfl⟩
          simp (disch := (first | omega | (simp only [size_new, size_newm, size_wr, size_wrm] <;> omega) | fail)) only [go_sem, Nat.reduceBEq, Nat.reduceAdd, Nat.reduceMul, Nat.reduceLeDiff, ↓reduceIte, rd_new_lt, own_new_lt, mp_new_lt, rd_newm_lt, own_newm_lt, mp_newm_lt, rd_wr_ne, own_wr_ne, mp_wr_ne, rd_wrm_ne, own_wrm_ne, mp_wrm_ne, rd_new_eq, own_new_eq, mp_newm_eq]
          exact ⟨congrArg Value.bool (decide_eq_true (by omega)), fh⟩

end Go.Proofs.Ytkikanlkhkghcaa
