/-
  A text's graph, as the program reads it.
-/
import Derived.Test.YtkcpoiploighiaaDoorGraphN
set_option linter.unusedVariables false
set_option linter.unusedSimpArgs false
namespace Go.Proofs.YtkcpoiploighiaaDoor
open Go Go.Vc Go.Lib

def cellsE (e : Ed) : List Value := [i64 e.f, i64 e.t, i64 e.w]
def flatE (es : List Ed) : List Value := es.flatMap cellsE
theorem flatE_cons (e : Ed) (es : List Ed) : flatE (e :: es) = cellsE e ++ flatE es := rfl
theorem flatE_app (a b : List Ed) : flatE (a ++ b) = flatE a ++ flatE b := List.flatMap_append ..
theorem ones_ed (es : List Ed) : allOne (flatE es) := fun v hv => by
  obtain ⟨r, _, h⟩ := List.mem_flatMap.1 hv
  simp only [cellsE, List.mem_cons, List.not_mem_nil, or_false] at h
  rcases h with rfl | rfl | rfl <;> rfl

theorem linesOf_cut {s : List UInt8} (h : s ≠ []) : ∃ x r w, Lib.cut s [10] = (x, r, w) ∧ linesOf s = (x, w) :: linesOf r ∧ r.length < s.length ∧ x.length ≤ s.length := by
  rcases pieces_cases 10 s with ⟨h1, _⟩ | ⟨a, b, rfl, h1, _⟩
  · exact ⟨s, [], false, cutc_none 10 s h1, by rw [linesOf_free h1 h]; rfl, List.length_pos_iff.2 h, Nat.le_refl _⟩
  · exact ⟨a, b, true, cutc_at 10 a b h1, linesOf_at h1, by simp; omega, by simp⟩

theorem numsG_nil (word : List UInt8) (many : Nat) (h : word ≠ []) : numsG word many [] = none := by
  refine if_neg ?_
  rw [pieces_free [] (by simp)]
  rintro ⟨h1, _⟩
  exact h h1.symm

theorem head_cut (s : List UInt8) : ∃ x r w, Lib.cut s [10] = (x, r, w) ∧ parseL (linesOf s) = parseL ((x, w) :: linesOf r) ∧ r.length ≤ s.length ∧ x.length ≤ s.length := by
  by_cases h : s = []
  · subst h
    refine ⟨[], [], false, cutc_none 10 [] (by simp), ?_, Nat.le_refl _, Nat.le_refl _⟩
    rw [linesOf_nil]
    simp only [parseL, numsG_nil wGraph 1 (by decide)]
  · obtain ⟨x, r, w, h1, h2, h3, h4⟩ := linesOf_cut h
    exact ⟨x, r, w, h1, by rw [h2], Nat.le_of_lt h3, h4⟩

theorem numsG_len {word : List UInt8} {many : Nat} {x : List UInt8} {l : List Int} (h : numsG word many x = some l) : l.length = many ∧ ∀ n ∈ l, -9223372036854775808 ≤ n ∧ n ≤ 9223372036854775807 := by
  unfold numsG at h
  split at h
  · rename_i hc
    refine ⟨?_, numsL_range _ _ h⟩
    rw [numsL_len _ _ h, List.length_tail, hc.2]
    rfl
  · cases h

theorem Sl.ints {H : Hp} {s : Value} {l : List Int} {fp : Option Nat} (h : Sl H 1 s l.length (l.map i64) fp) (hl : 0 < l.length) :
    ∃ b c lb, s = .slice (some ⟨b, 0, none⟩) l.length c ∧ fp = some b ∧ H.own b = some lb ∧ l.length ≤ c ∧ ∀ (i : Nat) (y : Int), l[i]? = some y → lb[i]? = some (i64 y) := by
  obtain ⟨_, h⟩ := h
  cases fp with
  | none => omega
  | some b =>
    obtain ⟨lb, c, rfl, ho, hc, hle, ht⟩ := h
    refine ⟨b, c, lb, rfl, rfl, ho, hc, fun i y hy => ?_⟩
    have hi : i < l.length := (List.getElem?_eq_some_iff.1 hy).1
    have e : (l.map i64)[i]? = some (i64 y) := by rw [List.getElem?_map, hy]; rfl
    rw [← ht, List.getElem?_take, if_pos (by omega)] at e
    exact e

theorem slv_val {H : Hp} {v : Value} {size n : Nat} {xs : List Value} {fp : Option Nat} (h : Sl H size v n xs fp) : ∃ a c, v = .slice a n c ∧ n ≤ c := by
  obtain ⟨_, h⟩ := h
  cases fp with
  | none => obtain ⟨rfl, rfl⟩ := h; exact ⟨_, _, rfl, Nat.le_refl _⟩
  | some b => obtain ⟨l, c, rfl, _, hc, _⟩ := h; exact ⟨_, _, rfl, hc⟩

/-- What a text is read as. -/
def GrD (H H' : Hp) (p : Option (Int × List Ed) × Nat) (v : Value) : Prop :=
  (∃ n es s fp, p = (some (n, es), 0) ∧ 0 ≤ n ∧ n ≤ 4096 ∧ es.length ≤ 65536 ∧ (∀ e ∈ es, 0 ≤ e.f ∧ e.f < n ∧ 0 ≤ e.t ∧ e.t < n ∧ -9223372036854775808 ≤ e.w ∧ e.w ≤ 9223372036854775807) ∧
    v = .tuple [.agg [i64 n, s].toArray, i64 0].toArray ∧ Sl H' 3 s es.length (flatE es) fp ∧ ∀ b, fp = some b → H.size ≤ b) ∨
  (∃ k : Nat, p = (none, k) ∧ 0 < k ∧ v = .tuple [.agg [i64 0, .slice none 0 0].toArray, i64 k].toArray)

set_option maxHeartbeats 4000000 in
theorem graph_Parse_spec {H : Hp} (he : ErrH H) (l : List UInt8) (hl : l.length ≤ 1000000) : CallH Tryd.prog n_graph_Parse [strV l] H fun v H' => Post (GrD H H' (parseL (linesOf l)) v ∧ Fresh H H') := by
  refine c_graph_Parse ⟨rfl, ?_⟩
  have f0 : Fresh H (H.new 35 [i64 0, .slice none 0 0]) := (Ext.refl _ _).new _ _
  have b0 := own_new H 35 [i64 0, .slice none 0 0]
  have hz0 : (H.new 35 [i64 0, .slice none 0 0]).size = H.size + 1 := by rw [size_new]
  simp (disch := (first | omega | (simp only [size_new, size_newm, size_wr, size_wrm] <;> omega) | fail)) only [go_sem, Nat.reduceBEq, Nat.reduceAdd, Nat.reduceMul, Nat.reduceLeDiff, ↓reduceIte, rd_new_lt, own_new_lt, mp_new_lt, rd_newm_lt, own_newm_lt, mp_newm_lt, rd_wr_ne, own_wr_ne, mp_wr_ne, rd_wrm_ne, own_wrm_ne, mp_wrm_ne, rd_new_eq, own_new_eq, mp_newm_eq, s_graph_Parse]
  generalize H.new 35 [i64 0, .slice none 0 0] = H0 at *
  obtain ⟨x, r, w, hcut, hp, hr, hxl⟩ := head_cut l
  rw [hp]
  refine (strings_Cutc_spec (he.fresh f0) 10 l hl).mono ?_
  rw [hcut]
  rintro _ H1 ⟨rfl, f1⟩
  simp (disch := (first | omega | (simp only [size_new, size_newm, size_wr, size_wrm] <;> omega) | fail)) only [go_sem, Nat.reduceBEq, Nat.reduceAdd, Nat.reduceMul, Nat.reduceLeDiff, ↓reduceIte, rd_new_lt, own_new_lt, mp_new_lt, rd_newm_lt, own_newm_lt, mp_newm_lt, rd_wr_ne, own_wr_ne, mp_wr_ne, rd_wrm_ne, own_wrm_ne, mp_wrm_ne, rd_new_eq, own_new_eq, mp_newm_eq]
  refine (graph_numbers_spec ((he.fresh f0).fresh f1) x wGraph 1 (by omega) (by omega)).mono ?_
  rintro _ H2 ⟨f2, ⟨ns, s, fp, hn, rfl, s2, hfp⟩ | ⟨hn, rfl⟩⟩
  rotate_left
  · have b2 := f2.own (f1.own b0 (fun h => h)) (fun h => h)
    have b3 := own_wr_same (l := [i64 0, .slice none 0 0]) b2
    have f3 : Fresh H (H2.wr H.size [i64 0, .slice none 0 0]) := (f0.trans (f1.trans f2)).then ((Ext.refl (fun z => z = H.size) _).wr (fun _ => rfl) _) (fun z hz => by omega)
    simp (disch := (first | omega | (simp only [size_new, size_newm, size_wr, size_wrm] <;> omega) | fail)) only [go_sem, Nat.reduceBEq, Nat.reduceAdd, Nat.reduceMul, Nat.reduceLeDiff, ↓reduceIte, rd_new_lt, own_new_lt, mp_new_lt, rd_newm_lt, own_newm_lt, mp_newm_lt, rd_wr_ne, own_wr_ne, mp_wr_ne, rd_wrm_ne, own_wrm_ne, mp_wrm_ne, rd_new_eq, own_new_eq, mp_newm_eq, b2, rd_of_own b3]
    refine ⟨.inr ⟨1, ?_, by omega, rfl⟩, f3⟩
    simp only [parseL, hn]
  · obtain ⟨hnl, hnr⟩ := numsG_len hn
    obtain ⟨n, rfl⟩ : ∃ n, ns = [n] := by
      match ns, hnl with
      | [n], _ => exact ⟨n, rfl⟩
    obtain ⟨hn0, hn1⟩ := hnr n (by simp)
    obtain ⟨b, c, lb, rfl, rfl, ho2, hc, hat⟩ := Sl.ints s2 (by simp)
    have hat0 := hat 0 n rfl
    have b2 := f2.own (f1.own b0 (fun h => h)) (fun h => h)
    have b3 := own_wr_same (l := [i64 0, .slice none 0 0]) b2
    have f02 := f0.trans (f1.trans f2)
    have f3 : Fresh H (H2.wr H.size [i64 0, .slice none 0 0]) := f02.then ((Ext.refl (fun z => z = H.size) _).wr (fun _ => rfl) _) (fun z hz => by omega)
    have hz2 : H.size < H2.size := own_lt b2
    simp (disch := (first | omega | (simp only [size_new, size_newm, size_wr, size_wrm] <;> omega) | fail)) only [go_sem, Nat.reduceBEq, Nat.reduceAdd, Nat.reduceMul, Nat.reduceLeDiff, ↓reduceIte, rd_new_lt, own_new_lt, mp_new_lt, rd_newm_lt, own_newm_lt, mp_newm_lt, rd_wr_ne, own_wr_ne, mp_wr_ne, rd_wrm_ne, own_wrm_ne, mp_wrm_ne, rd_new_eq, own_new_eq, mp_newm_eq]
    cases w with
    | false =>
      simp (disch := (first | omega | (simp only [size_new, size_newm, size_wr, size_wrm] <;> omega) | fail)) only [go_sem, Nat.reduceBEq, Nat.reduceAdd, Nat.reduceMul, Nat.reduceLeDiff, ↓reduceIte, rd_new_lt, own_new_lt, mp_new_lt, rd_newm_lt, own_newm_lt, mp_newm_lt, rd_wr_ne, own_wr_ne, mp_wr_ne, rd_wrm_ne, own_wrm_ne, mp_wrm_ne, rd_new_eq, own_new_eq, mp_newm_eq, b2, rd_of_own b3]
      refine ⟨.inr ⟨1, ?_, by omega, rfl⟩, f3⟩
      simp [parseL, hn]
    | true =>
      refine ⟨⟨by omega, by omega⟩, ?_⟩
      simp (disch := (first | omega | (simp only [size_new, size_newm, size_wr, size_wrm] <;> omega) | fail)) only [go_sem, Nat.reduceBEq, Nat.reduceAdd, Nat.reduceMul, Nat.reduceLeDiff, ↓reduceIte, rd_new_lt, own_new_lt, mp_new_lt, rd_newm_lt, own_newm_lt, mp_newm_lt, rd_wr_ne, own_wr_ne, mp_wr_ne, rd_wrm_ne, own_wrm_ne, mp_wrm_ne, rd_new_eq, own_new_eq, mp_newm_eq, rd_of_own ho2, Int.toNat_zero, Nat.zero_mul, Nat.zero_add, hat0]
      refine Both.dec (fun h1 => ?_) (fun h1 => ?_)
      · simp (disch := (first | omega | (simp only [size_new, size_newm, size_wr, size_wrm] <;> omega) | fail)) only [go_sem, Nat.reduceBEq, Nat.reduceAdd, Nat.reduceMul, Nat.reduceLeDiff, ↓reduceIte, rd_new_lt, own_new_lt, mp_new_lt, rd_newm_lt, own_newm_lt, mp_newm_lt, rd_wr_ne, own_wr_ne, mp_wr_ne, rd_wrm_ne, own_wrm_ne, mp_wrm_ne, rd_new_eq, own_new_eq, mp_newm_eq, b2, rd_of_own b3]
        refine ⟨.inr ⟨1, ?_, by omega, rfl⟩, f3⟩
        simp only [parseL, hn]
        rw [if_neg (by rintro ⟨_, h, _⟩; omega)]
      · simp (disch := (first | omega | (simp only [size_new, size_newm, size_wr, size_wrm] <;> omega) | fail)) only [go_sem, Nat.reduceBEq, Nat.reduceAdd, Nat.reduceMul, Nat.reduceLeDiff, ↓reduceIte, rd_new_lt, own_new_lt, mp_new_lt, rd_newm_lt, own_newm_lt, mp_newm_lt, rd_wr_ne, own_wr_ne, mp_wr_ne, rd_wrm_ne, own_wrm_ne, mp_wrm_ne, rd_new_eq, own_new_eq, mp_newm_eq]
        refine ⟨⟨by omega, by omega⟩, ?_⟩
        simp (disch := (first | omega | (simp only [size_new, size_newm, size_wr, size_wrm] <;> omega) | fail)) only [go_sem, Nat.reduceBEq, Nat.reduceAdd, Nat.reduceMul, Nat.reduceLeDiff, ↓reduceIte, rd_new_lt, own_new_lt, mp_new_lt, rd_newm_lt, own_newm_lt, mp_newm_lt, rd_wr_ne, own_wr_ne, mp_wr_ne, rd_wrm_ne, own_wrm_ne, mp_wrm_ne, rd_new_eq, own_new_eq, mp_newm_eq, rd_of_own ho2, Int.toNat_zero, Nat.zero_mul, Nat.zero_add, hat0]
        refine Both.dec (fun h2 => ?_) (fun h2 => ?_)
        · simp (disch := (first | omega | (simp only [size_new, size_newm, size_wr, size_wrm] <;> omega) | fail)) only [go_sem, Nat.reduceBEq, Nat.reduceAdd, Nat.reduceMul, Nat.reduceLeDiff, ↓reduceIte, rd_new_lt, own_new_lt, mp_new_lt, rd_newm_lt, own_newm_lt, mp_newm_lt, rd_wr_ne, own_wr_ne, mp_wr_ne, rd_wrm_ne, own_wrm_ne, mp_wrm_ne, rd_new_eq, own_new_eq, mp_newm_eq, b2, rd_of_own b3]
          refine ⟨.inr ⟨1, ?_, by omega, rfl⟩, f3⟩
          simp only [parseL, hn]
          rw [if_neg (by rintro ⟨_, _, h⟩; omega)]
        · simp (disch := (first | omega | (simp only [size_new, size_newm, size_wr, size_wrm] <;> omega) | fail)) only [go_sem, Nat.reduceBEq, Nat.reduceAdd, Nat.reduceMul, Nat.reduceLeDiff, ↓reduceIte, rd_new_lt, own_new_lt, mp_new_lt, rd_newm_lt, own_newm_lt, mp_newm_lt, rd_wr_ne, own_wr_ne, mp_wr_ne, rd_wrm_ne, own_wrm_ne, mp_wrm_ne, rd_new_eq, own_new_eq, mp_newm_eq]
          refine ⟨⟨by omega, by omega⟩, ?_⟩
          simp (disch := (first | omega | (simp only [size_new, size_newm, size_wr, size_wrm] <;> omega) | fail)) only [go_sem, Nat.reduceBEq, Nat.reduceAdd, Nat.reduceMul, Nat.reduceLeDiff, ↓reduceIte, rd_new_lt, own_new_lt, mp_new_lt, rd_newm_lt, own_newm_lt, mp_newm_lt, rd_wr_ne, own_wr_ne, mp_wr_ne, rd_wrm_ne, own_wrm_ne, mp_wrm_ne, rd_new_eq, own_new_eq, mp_newm_eq, rd_of_own ho2, Int.toNat_zero, Nat.zero_mul, Nat.zero_add, hat0]
          have hpar : parseL ((x, true) :: linesOf r) = ((edgesL n 2 [] (linesOf r)).1.map fun es => (n, es), (edgesL n 2 [] (linesOf r)).2) := by
            simp only [parseL, hn]
            rw [if_pos (by refine ⟨by simp, by omega, by omega⟩)]
          rw [hpar]
          have q3 := own_new H2 35 [i64 0, .slice none 0 0]
          have q4 := own_wr_same (l := [i64 n, .slice none 0 0]) q3
          have f4 : Fresh H2 ((H2.new 35 [i64 0, .slice none 0 0]).wr H2.size [i64 n, .slice none 0 0]) := ((Ext.refl _ _).new _ _ : Fresh H2 _).then ((Ext.refl (fun z => z = H2.size) _).wr (fun _ => rfl) _) (fun z hz => by omega)
          have hz4 : H2.size < ((H2.new 35 [i64 0, .slice none 0 0]).wr H2.size [i64 n, .slice none 0 0]).size := own_lt q4
          generalize (H2.new 35 [i64 0, .slice none 0 0]).wr H2.size [i64 n, .slice none 0 0] = H4 at *
          refine LoopV.intro (fun m env H' => Fresh H2 H' ∧ ∃ (k : Nat) (rest : List UInt8) (acc : List Ed) (sv : Value) (fp : Option Nat), m = rest.length ∧ rest.length ≤ 1000000 ∧ 2 ≤ k ∧ k + rest.length ≤ 2000000 ∧ acc.length ≤ 65536 ∧
            edgesL n 2 [] (linesOf r) = edgesL n k acc (linesOf rest) ∧ (∀ e ∈ acc, 0 ≤ e.f ∧ e.f < n ∧ 0 ≤ e.t ∧ e.t < n ∧ -9223372036854775808 ≤ e.w ∧ e.w ≤ 9223372036854775807) ∧
            H'.own H2.size = some [i64 n, sv] ∧ Sl H' 3 sv acc.length (flatE acc) fp ∧ (∀ b, fp = some b → H2.size < b) ∧ env = [(2, ptr H.size), (5, strV rest), (9, ptr H2.size), (10, i64 k)]) r.length
            ⟨f4, 2, r, [], .slice none 0 0, none, rfl, by omega, by omega, by omega, by simp, rfl, by simp, q4, Sl.nil _ _, by (intro b h; cases h), rfl⟩ ?_
          rintro m env H5 ⟨f5, k, rest, acc, sv, fp, hm, hrl, hk, hkr, hal, hed, hok, o5, s5, hfp, rfl⟩
          have b5 := f5.own b2 (fun h => h)
          have bad : ∀ {A : Hp}, Fresh H5 A → Fresh H (A.wr H.size [i64 0, .slice none 0 0]) := fun h => (f02.trans (f5.trans h)).then ((Ext.refl (fun z => z = H.size) _).wr (fun _ => rfl) _) (fun z hz => by omega)
          have hz5 : H2.size < H5.size := own_lt o5
          obtain ⟨sa, sc, rfl, hsc⟩ := slv_val s5
          simp (disch := (first | omega | (simp only [size_new, size_newm, size_wr, size_wrm] <;> omega) | fail)) only [go_sem, Nat.reduceBEq, Nat.reduceAdd, Nat.reduceMul, Nat.reduceLeDiff, ↓reduceIte, rd_new_lt, own_new_lt, mp_new_lt, rd_newm_lt, own_newm_lt, mp_newm_lt, rd_wr_ne, own_wr_ne, mp_wr_ne, rd_wrm_ne, own_wrm_ne, mp_wrm_ne, rd_new_eq, own_new_eq, mp_newm_eq, eq_bytes]
          refine Both.dec (fun hr0 => ?_) (fun hr0 => ?_) <;> simp (disch := (first | omega | (simp only [size_new, size_newm, size_wr, size_wrm] <;> omega) | fail)) only [go_sem, Nat.reduceBEq, Nat.reduceAdd, Nat.reduceMul, Nat.reduceLeDiff, ↓reduceIte, rd_new_lt, own_new_lt, mp_new_lt, rd_newm_lt, own_newm_lt, mp_newm_lt, rd_wr_ne, own_wr_ne, mp_wr_ne, rd_wrm_ne, own_wrm_ne, mp_wrm_ne, rd_new_eq, own_new_eq, mp_newm_eq]
          · subst hr0
            rw [linesOf_nil] at hed
            have b6 := own_wr_same (l := [i64 n, .slice sa acc.length sc]) b5
            have f6 : Fresh H (H5.wr H.size [i64 n, .slice sa acc.length sc]) := (f02.trans f5).then ((Ext.refl (fun z => z = H.size) _).wr (fun _ => rfl) _) (fun z hz => by omega)
            simp (disch := (first | omega | (simp only [size_new, size_newm, size_wr, size_wrm] <;> omega) | fail)) only [go_sem, Nat.reduceBEq, Nat.reduceAdd, Nat.reduceMul, Nat.reduceLeDiff, ↓reduceIte, rd_new_lt, own_new_lt, mp_new_lt, rd_newm_lt, own_newm_lt, mp_newm_lt, rd_wr_ne, own_wr_ne, mp_wr_ne, rd_wrm_ne, own_wrm_ne, mp_wrm_ne, rd_new_eq, own_new_eq, mp_newm_eq, rd_of_own o5, b5, rd_of_own b6]
            refine ⟨.inl ⟨n, acc, _, fp, ?_, by omega, by omega, hal, hok, rfl, s5.ext ((Ext.refl (fun z => z = H.size) _).wr (fun _ => rfl) _) (fun b hb h => by have := hfp b hb; omega), fun b hb => by have := hfp b hb; omega⟩, f6⟩
            rw [hed]
            rfl
          · obtain ⟨y, rest2, wh, hcut2, hlin, hr2, hyl⟩ := linesOf_cut hr0
            rw [hlin] at hed
            have eh5 := (((he.fresh f0).fresh f1).fresh f2).fresh f5
            refine (strings_Cutc_spec eh5 10 rest hrl).mono ?_
            rw [hcut2]
            rintro _ H6 ⟨rfl, f6⟩
            simp (disch := (first | omega | (simp only [size_new, size_newm, size_wr, size_wrm] <;> omega) | fail)) only [go_sem, Nat.reduceBEq, Nat.reduceAdd, Nat.reduceMul, Nat.reduceLeDiff, ↓reduceIte, rd_new_lt, own_new_lt, mp_new_lt, rd_newm_lt, own_newm_lt, mp_newm_lt, rd_wr_ne, own_wr_ne, mp_wr_ne, rd_wrm_ne, own_wrm_ne, mp_wrm_ne, rd_new_eq, own_new_eq, mp_newm_eq]
            refine (graph_numbers_spec (eh5.fresh f6) y wEdge 3 (by omega) (by omega)).mono ?_
            rintro _ H7 ⟨f7, hnum⟩
            have f57 := f6.trans f7
            have b7 := f57.own b5 (fun h => h)
            have b8 := own_wr_same (l := [i64 0, .slice none 0 0]) b7
            have o7 := f57.own o5 (fun h => h)
            have s7 := s5.ext f57 (fun _ _ h => h)
            have no : ∀ (p : Option (Int × List Ed) × Nat), p = (none, k) → GrD H (H7.wr H.size [i64 0, .slice none 0 0]) p (.tuple [.agg [i64 0, .slice none 0 0].toArray, i64 k].toArray) := fun p h => .inr ⟨k, h, by omega, rfl⟩
            rcases hnum with ⟨ls, sn, fq, hls, rfl, sls, hfq⟩ | ⟨hls, rfl⟩
            rotate_left
            · simp (disch := (first | omega | (simp only [size_new, size_newm, size_wr, size_wrm] <;> omega) | fail)) only [go_sem, Nat.reduceBEq, Nat.reduceAdd, Nat.reduceMul, Nat.reduceLeDiff, ↓reduceIte, rd_new_lt, own_new_lt, mp_new_lt, rd_newm_lt, own_newm_lt, mp_newm_lt, rd_wr_ne, own_wr_ne, mp_wr_ne, rd_wrm_ne, own_wrm_ne, mp_wrm_ne, rd_new_eq, own_new_eq, mp_newm_eq, b7, rd_of_own b8]
              refine ⟨no _ ?_, bad f57⟩
              rw [hed]
              simp only [edgesL, hls]
              rfl
            · obtain ⟨hnl, hnr⟩ := numsG_len hls
              obtain ⟨na, nb, nc, rfl⟩ : ∃ a b c, ls = [a, b, c] := by
                match ls, hnl with
                | [a, b, c], _ => exact ⟨a, b, c, rfl⟩
              obtain ⟨ha0, ha1⟩ := hnr na (by simp)
              obtain ⟨hb0, hb1⟩ := hnr nb (by simp)
              obtain ⟨hc0, hc1⟩ := hnr nc (by simp)
              obtain ⟨q, cq, lq, rfl, rfl, oq, hcq, hatq⟩ := Sl.ints sls (by simp)
              have g0 := hatq 0 na rfl
              have g1 := hatq 1 nb rfl
              have g2 := hatq 2 nc rfl
              have step : edgesL n k acc ((y, wh) :: linesOf rest2) = if wh = true ∧ acc.length < 65536 ∧ 0 ≤ na ∧ 0 ≤ nb ∧ na < n ∧ nb < n then edgesL n (k + 1) (acc ++ [⟨na, nb, nc⟩]) (linesOf rest2) else (none, k) := by
                simp only [edgesL, hls]
              rw [step] at hed
              have gone : ¬ (wh = true ∧ acc.length < 65536 ∧ 0 ≤ na ∧ 0 ≤ nb ∧ na < n ∧ nb < n) → (Option.map (fun es => (n, es)) (edgesL n 2 [] (linesOf r)).1, (edgesL n 2 [] (linesOf r)).2) = (none, k) := fun h => by rw [hed, if_neg h]; rfl
              simp (disch := (first | omega | (simp only [size_new, size_newm, size_wr, size_wrm] <;> omega) | fail)) only [go_sem, Nat.reduceBEq, Nat.reduceAdd, Nat.reduceMul, Nat.reduceLeDiff, ↓reduceIte, rd_new_lt, own_new_lt, mp_new_lt, rd_newm_lt, own_newm_lt, mp_newm_lt, rd_wr_ne, own_wr_ne, mp_wr_ne, rd_wrm_ne, own_wrm_ne, mp_wrm_ne, rd_new_eq, own_new_eq, mp_newm_eq]
              cases wh with
              | false =>
                simp (disch := (first | omega | (simp only [size_new, size_newm, size_wr, size_wrm] <;> omega) | fail)) only [go_sem, Nat.reduceBEq, Nat.reduceAdd, Nat.reduceMul, Nat.reduceLeDiff, ↓reduceIte, rd_new_lt, own_new_lt, mp_new_lt, rd_newm_lt, own_newm_lt, mp_newm_lt, rd_wr_ne, own_wr_ne, mp_wr_ne, rd_wrm_ne, own_wrm_ne, mp_wrm_ne, rd_new_eq, own_new_eq, mp_newm_eq, b7, rd_of_own b8]
                exact ⟨no _ (gone (by simp)), bad f57⟩
              | true =>
                simp (disch := (first | omega | (simp only [size_new, size_newm, size_wr, size_wrm] <;> omega) | fail)) only [go_sem, Nat.reduceBEq, Nat.reduceAdd, Nat.reduceMul, Nat.reduceLeDiff, ↓reduceIte, rd_new_lt, own_new_lt, mp_new_lt, rd_newm_lt, own_newm_lt, mp_newm_lt, rd_wr_ne, own_wr_ne, mp_wr_ne, rd_wrm_ne, own_wrm_ne, mp_wrm_ne, rd_new_eq, own_new_eq, mp_newm_eq, rd_of_own o7]
                refine Both.dec (fun h1 => ?_) (fun h1 => ?_)
                · simp (disch := (first | omega | (simp only [size_new, size_newm, size_wr, size_wrm] <;> omega) | fail)) only [go_sem, Nat.reduceBEq, Nat.reduceAdd, Nat.reduceMul, Nat.reduceLeDiff, ↓reduceIte, rd_new_lt, own_new_lt, mp_new_lt, rd_newm_lt, own_newm_lt, mp_newm_lt, rd_wr_ne, own_wr_ne, mp_wr_ne, rd_wrm_ne, own_wrm_ne, mp_wrm_ne, rd_new_eq, own_new_eq, mp_newm_eq, b7, rd_of_own b8]
                  exact ⟨no _ (gone (by omega)), bad f57⟩
                simp (disch := (first | omega | (simp only [size_new, size_newm, size_wr, size_wrm] <;> omega) | fail)) only [go_sem, Nat.reduceBEq, Nat.reduceAdd, Nat.reduceMul, Nat.reduceLeDiff, ↓reduceIte, rd_new_lt, own_new_lt, mp_new_lt, rd_newm_lt, own_newm_lt, mp_newm_lt, rd_wr_ne, own_wr_ne, mp_wr_ne, rd_wrm_ne, own_wrm_ne, mp_wrm_ne, rd_new_eq, own_new_eq, mp_newm_eq]
                refine ⟨⟨by omega, by omega⟩, ?_⟩
                simp (disch := (first | omega | (simp only [size_new, size_newm, size_wr, size_wrm] <;> omega) | fail)) only [go_sem, Nat.reduceBEq, Nat.reduceAdd, Nat.reduceMul, Nat.reduceLeDiff, ↓reduceIte, rd_new_lt, own_new_lt, mp_new_lt, rd_newm_lt, own_newm_lt, mp_newm_lt, rd_wr_ne, own_wr_ne, mp_wr_ne, rd_wrm_ne, own_wrm_ne, mp_wrm_ne, rd_new_eq, own_new_eq, mp_newm_eq, rd_of_own oq, Int.toNat_zero, Nat.zero_mul, Nat.zero_add, g0]
                refine ⟨⟨by omega, by omega⟩, ?_⟩
                have t1 : Int.toNat 1 = 1 := rfl
                have t2 : Int.toNat 2 = 2 := rfl
                simp (disch := (first | omega | (simp only [size_new, size_newm, size_wr, size_wrm] <;> omega) | fail)) only [go_sem, Nat.reduceBEq, Nat.reduceAdd, Nat.reduceMul, Nat.reduceLeDiff, ↓reduceIte, rd_new_lt, own_new_lt, mp_new_lt, rd_newm_lt, own_newm_lt, mp_newm_lt, rd_wr_ne, own_wr_ne, mp_wr_ne, rd_wrm_ne, own_wrm_ne, mp_wrm_ne, rd_new_eq, own_new_eq, mp_newm_eq, rd_of_own oq, t1, Nat.one_mul, Nat.zero_add, g1]
                refine Both.dec (fun h2 => ?_) (fun h2 => ?_)
                · have h2' : na < 0 ∨ nb < 0 := by (first | omega | (split at h2 <;> omega))
                  simp (disch := (first | omega | (simp only [size_new, size_newm, size_wr, size_wrm] <;> omega) | fail)) only [go_sem, Nat.reduceBEq, Nat.reduceAdd, Nat.reduceMul, Nat.reduceLeDiff, ↓reduceIte, rd_new_lt, own_new_lt, mp_new_lt, rd_newm_lt, own_newm_lt, mp_newm_lt, rd_wr_ne, own_wr_ne, mp_wr_ne, rd_wrm_ne, own_wrm_ne, mp_wrm_ne, rd_new_eq, own_new_eq, mp_newm_eq, b7, rd_of_own b8]
                  exact ⟨no _ (gone (by omega)), bad f57⟩
                have h2' : 0 ≤ na ∧ 0 ≤ nb := by (first | omega | (split at h2 <;> omega))
                simp (disch := (first | omega | (simp only [size_new, size_newm, size_wr, size_wrm] <;> omega) | fail)) only [go_sem, Nat.reduceBEq, Nat.reduceAdd, Nat.reduceMul, Nat.reduceLeDiff, ↓reduceIte, rd_new_lt, own_new_lt, mp_new_lt, rd_newm_lt, own_newm_lt, mp_newm_lt, rd_wr_ne, own_wr_ne, mp_wr_ne, rd_wrm_ne, own_wrm_ne, mp_wrm_ne, rd_new_eq, own_new_eq, mp_newm_eq]
                refine ⟨⟨by omega, by omega⟩, ?_⟩
                simp (disch := (first | omega | (simp only [size_new, size_newm, size_wr, size_wrm] <;> omega) | fail)) only [go_sem, Nat.reduceBEq, Nat.reduceAdd, Nat.reduceMul, Nat.reduceLeDiff, ↓reduceIte, rd_new_lt, own_new_lt, mp_new_lt, rd_newm_lt, own_newm_lt, mp_newm_lt, rd_wr_ne, own_wr_ne, mp_wr_ne, rd_wrm_ne, own_wrm_ne, mp_wrm_ne, rd_new_eq, own_new_eq, mp_newm_eq, rd_of_own oq, Int.toNat_zero, Nat.zero_mul, Nat.zero_add, g0]
                refine ⟨⟨by omega, by omega⟩, ?_⟩
                simp (disch := (first | omega | (simp only [size_new, size_newm, size_wr, size_wrm] <;> omega) | fail)) only [go_sem, Nat.reduceBEq, Nat.reduceAdd, Nat.reduceMul, Nat.reduceLeDiff, ↓reduceIte, rd_new_lt, own_new_lt, mp_new_lt, rd_newm_lt, own_newm_lt, mp_newm_lt, rd_wr_ne, own_wr_ne, mp_wr_ne, rd_wrm_ne, own_wrm_ne, mp_wrm_ne, rd_new_eq, own_new_eq, mp_newm_eq, rd_of_own oq, t1, Nat.one_mul, Nat.zero_add, g1, rd_of_own o7]
                refine Both.dec (fun h3 => ?_) (fun h3 => ?_)
                · have h3' : n ≤ na ∨ n ≤ nb := by (first | omega | (split at h3 <;> omega))
                  simp (disch := (first | omega | (simp only [size_new, size_newm, size_wr, size_wrm] <;> omega) | fail)) only [go_sem, Nat.reduceBEq, Nat.reduceAdd, Nat.reduceMul, Nat.reduceLeDiff, ↓reduceIte, rd_new_lt, own_new_lt, mp_new_lt, rd_newm_lt, own_newm_lt, mp_newm_lt, rd_wr_ne, own_wr_ne, mp_wr_ne, rd_wrm_ne, own_wrm_ne, mp_wrm_ne, rd_new_eq, own_new_eq, mp_newm_eq, b7, rd_of_own b8]
                  exact ⟨no _ (gone (by omega)), bad f57⟩
                have h3' : na < n ∧ nb < n := by (first | omega | (split at h3 <;> omega))
                rw [if_pos ⟨rfl, by omega, by omega, by omega, by omega, by omega⟩] at hed
                simp (disch := (first | omega | (simp only [size_new, size_newm, size_wr, size_wrm] <;> omega) | fail)) only [go_sem, Nat.reduceBEq, Nat.reduceAdd, Nat.reduceMul, Nat.reduceLeDiff, ↓reduceIte, rd_new_lt, own_new_lt, mp_new_lt, rd_newm_lt, own_newm_lt, mp_newm_lt, rd_wr_ne, own_wr_ne, mp_wr_ne, rd_wrm_ne, own_wrm_ne, mp_wrm_ne, rd_new_eq, own_new_eq, mp_newm_eq]
                refine InvV.intro (fun H' => H'.own q = some lq) oq ?_
                simp (disch := (first | omega | (simp only [size_new, size_newm, size_wr, size_wrm] <;> omega) | fail)) only [go_sem, Nat.reduceBEq, Nat.reduceAdd, Nat.reduceMul, Nat.reduceLeDiff, ↓reduceIte, rd_new_lt, own_new_lt, mp_new_lt, rd_newm_lt, own_newm_lt, mp_newm_lt, rd_wr_ne, own_wr_ne, mp_wr_ne, rd_wrm_ne, own_wrm_ne, mp_wrm_ne, rd_new_eq, own_new_eq, mp_newm_eq]
                have e0 : Int.toNat 0 = 0 := rfl
                have hok2 : ∀ e ∈ acc ++ [Ed.mk na nb nc], 0 ≤ e.f ∧ e.f < n ∧ 0 ≤ e.t ∧ e.t < n ∧ -9223372036854775808 ≤ e.w ∧ e.w ≤ 9223372036854775807 := fun e he => by
                  rcases List.mem_append.1 he with he | he
                  · exact hok e he
                  · rw [List.mem_singleton.1 he]; exact ⟨h2'.1, h3'.1, h2'.2, h3'.2, hc0, hc1⟩
                refine ⟨⟨by omega, by omega⟩, ?_⟩
                simp (disch := (first | omega | (simp only [size_new, size_newm, size_wr, size_wrm] <;> omega) | fail)) only [go_sem, Nat.reduceBEq, Nat.reduceAdd, Nat.reduceMul, Nat.reduceLeDiff, ↓reduceIte, rd_new_lt, own_new_lt, mp_new_lt, rd_newm_lt, own_newm_lt, mp_newm_lt, rd_wr_ne, own_wr_ne, mp_wr_ne, rd_wrm_ne, own_wrm_ne, mp_wrm_ne, rd_new_eq, own_new_eq, mp_newm_eq]
                refine StbV.intro (i64 na) (fun H' hI => ?_) ?_
                · simp (disch := (first | omega | (simp only [size_new, size_newm, size_wr, size_wrm] <;> omega) | fail)) only [go_sem, Nat.reduceBEq, Nat.reduceAdd, Nat.reduceMul, Nat.reduceLeDiff, ↓reduceIte, rd_new_lt, own_new_lt, mp_new_lt, rd_newm_lt, own_newm_lt, mp_newm_lt, rd_wr_ne, own_wr_ne, mp_wr_ne, rd_wrm_ne, own_wrm_ne, mp_wrm_ne, rd_new_eq, own_new_eq, mp_newm_eq, rd_of_own hI, e0, Nat.zero_mul, Nat.zero_add, g0]
                  exact ⟨trivial, trivial⟩
                simp (disch := (first | omega | (simp only [size_new, size_newm, size_wr, size_wrm] <;> omega) | fail)) only [go_sem, Nat.reduceBEq, Nat.reduceAdd, Nat.reduceMul, Nat.reduceLeDiff, ↓reduceIte, rd_new_lt, own_new_lt, mp_new_lt, rd_newm_lt, own_newm_lt, mp_newm_lt, rd_wr_ne, own_wr_ne, mp_wr_ne, rd_wrm_ne, own_wrm_ne, mp_wrm_ne, rd_new_eq, own_new_eq, mp_newm_eq]
                refine ⟨⟨by omega, by omega⟩, ?_⟩
                simp (disch := (first | omega | (simp only [size_new, size_newm, size_wr, size_wrm] <;> omega) | fail)) only [go_sem, Nat.reduceBEq, Nat.reduceAdd, Nat.reduceMul, Nat.reduceLeDiff, ↓reduceIte, rd_new_lt, own_new_lt, mp_new_lt, rd_newm_lt, own_newm_lt, mp_newm_lt, rd_wr_ne, own_wr_ne, mp_wr_ne, rd_wrm_ne, own_wrm_ne, mp_wrm_ne, rd_new_eq, own_new_eq, mp_newm_eq]
                refine StbV.intro (i64 nb) (fun H' hI => ?_) ?_
                · simp (disch := (first | omega | (simp only [size_new, size_newm, size_wr, size_wrm] <;> omega) | fail)) only [go_sem, Nat.reduceBEq, Nat.reduceAdd, Nat.reduceMul, Nat.reduceLeDiff, ↓reduceIte, rd_new_lt, own_new_lt, mp_new_lt, rd_newm_lt, own_newm_lt, mp_newm_lt, rd_wr_ne, own_wr_ne, mp_wr_ne, rd_wrm_ne, own_wrm_ne, mp_wrm_ne, rd_new_eq, own_new_eq, mp_newm_eq, rd_of_own hI, t1, Nat.one_mul, Nat.zero_add, g1]
                  exact ⟨trivial, trivial⟩
                simp (disch := (first | omega | (simp only [size_new, size_newm, size_wr, size_wrm] <;> omega) | fail)) only [go_sem, Nat.reduceBEq, Nat.reduceAdd, Nat.reduceMul, Nat.reduceLeDiff, ↓reduceIte, rd_new_lt, own_new_lt, mp_new_lt, rd_newm_lt, own_newm_lt, mp_newm_lt, rd_wr_ne, own_wr_ne, mp_wr_ne, rd_wrm_ne, own_wrm_ne, mp_wrm_ne, rd_new_eq, own_new_eq, mp_newm_eq]
                refine ⟨⟨by omega, by omega⟩, ?_⟩
                simp (disch := (first | omega | (simp only [size_new, size_newm, size_wr, size_wrm] <;> omega) | fail)) only [go_sem, Nat.reduceBEq, Nat.reduceAdd, Nat.reduceMul, Nat.reduceLeDiff, ↓reduceIte, rd_new_lt, own_new_lt, mp_new_lt, rd_newm_lt, own_newm_lt, mp_newm_lt, rd_wr_ne, own_wr_ne, mp_wr_ne, rd_wrm_ne, own_wrm_ne, mp_wrm_ne, rd_new_eq, own_new_eq, mp_newm_eq]
                refine StbV.intro (i64 nc) (fun H' hI => ?_) ?_
                · simp (disch := (first | omega | (simp only [size_new, size_newm, size_wr, size_wrm] <;> omega) | fail)) only [go_sem, Nat.reduceBEq, Nat.reduceAdd, Nat.reduceMul, Nat.reduceLeDiff, ↓reduceIte, rd_new_lt, own_new_lt, mp_new_lt, rd_newm_lt, own_newm_lt, mp_newm_lt, rd_wr_ne, own_wr_ne, mp_wr_ne, rd_wrm_ne, own_wrm_ne, mp_wrm_ne, rd_new_eq, own_new_eq, mp_newm_eq, rd_of_own hI, t2, Nat.mul_one, Nat.zero_add, g2]
                  exact ⟨trivial, trivial⟩
                simp (disch := (first | omega | (simp only [size_new, size_newm, size_wr, size_wrm] <;> omega) | fail)) only [go_sem, Nat.reduceBEq, Nat.reduceAdd, Nat.reduceMul, Nat.reduceLeDiff, ↓reduceIte, rd_new_lt, own_new_lt, mp_new_lt, rd_newm_lt, own_newm_lt, mp_newm_lt, rd_wr_ne, own_wr_ne, mp_wr_ne, rd_wrm_ne, own_wrm_ne, mp_wrm_ne, rd_new_eq, own_new_eq, mp_newm_eq]
                have hq6 := hfq q rfl
                have hz6 := f6.size
                have hz7 := own_lt o7
                have fl : Fresh H7 (H7.new 51 [i64 na, i64 nb, i64 nc]) := (Ext.refl _ _).new _ _
                have oql := fl.own oq (fun h => h)
                have o8 := fl.own o7 (fun h => h)
                have s8 := s7.ext fl (fun _ _ h => h)
                have hz8 := fl.size
                have sl8 : Sl (H7.new 51 [i64 na, i64 nb, i64 nc]) 3 (.slice (some ⟨H7.size, 0, none⟩) 1 1) 1 (flatE [⟨na, nb, nc⟩]) (some H7.size) := Sl.lit_at (size := 3) (n := 1) (xs := flatE [⟨na, nb, nc⟩]) rfl rfl
                have fin : ∀ v9 H9 fp9, Sl H9 3 v9 (acc.length + 1) (flatE acc ++ flatE [Ed.mk na nb nc]) fp9 → Ext (fun b => fp = some b) (H7.new 51 [i64 na, i64 nb, i64 nc]) H9 →
                    (fp9 = fp ∨ ∃ b, fp9 = some b ∧ (H7.new 51 [i64 na, i64 nb, i64 nc]).size ≤ b ∧ b < H9.size) →
                    H9.own q = some lq ∧ H9.own H2.size = some [i64 n, .slice sa acc.length sc] ∧ (H9.wr H2.size [i64 n, v9]).own q = some lq ∧ Fresh H2 (H9.wr H2.size [i64 n, v9]) ∧ (H9.wr H2.size [i64 n, v9]).own H2.size = some [i64 n, v9] ∧
                    Sl (H9.wr H2.size [i64 n, v9]) 3 v9 (acc ++ [Ed.mk na nb nc]).length (flatE (acc ++ [Ed.mk na nb nc])) fp9 ∧ ∀ b, fp9 = some b → H2.size < b := by
                  intro v9 H9 fp9 s9 e9 hfp9
                  have hlt : ∀ b, fp = some b → b < H5.size := fun b hb => by subst hb; exact Sl.lt s5
                  have k1 : H9.own q = some lq := e9.own oql (fun h => by have := hlt q h; omega)
                  have k2 : H9.own H2.size = some [i64 n, .slice sa acc.length sc] := e9.own o8 (fun h => by have := hfp _ h; omega)
                  have k6 : ∀ b, fp9 = some b → H2.size < b := fun b hb => by
                    rcases hfp9 with h | ⟨b', hb', h1, h2⟩
                    · exact hfp b (by rw [← h]; exact hb)
                    · rw [hb] at hb'; injection hb' with hb'; omega
                  refine ⟨k1, k2, by rw [own_wr_ne (by omega)]; exact k1, ?_, own_wr_same k2, ?_, k6⟩
                  · exact ((f5.trans (f57.trans fl)).then e9 (fun z hz => by have := hfp z hz; omega)).then ((Ext.refl (fun z => z = H2.size) _).wr (fun _ => rfl) _) (fun z hz => by omega)
                  · rw [flatE_app, List.length_append]
                    exact s9.ext ((Ext.refl (fun z => z = H2.size) _).wr (fun _ => rfl) _) (fun b hb h => by have := k6 b hb; omega)
                refine Two.intro ?_ ?_
                · simp (disch := (first | omega | (simp only [size_new, size_newm, size_wr, size_wrm] <;> omega) | fail)) only [go_sem, Nat.reduceBEq, Nat.reduceAdd, Nat.reduceMul, Nat.reduceLeDiff, ↓reduceIte, rd_new_lt, own_new_lt, mp_new_lt, rd_newm_lt, own_newm_lt, mp_newm_lt, rd_wr_ne, own_wr_ne, mp_wr_ne, rd_wrm_ne, own_wrm_ne, mp_wrm_ne, rd_new_eq, own_new_eq, mp_newm_eq, rd_of_own o7]
                  refine And.intro oq ?_
                  simp (disch := (first | omega | (simp only [size_new, size_newm, size_wr, size_wrm] <;> omega) | fail)) only [go_sem, Nat.reduceBEq, Nat.reduceAdd, Nat.reduceMul, Nat.reduceLeDiff, ↓reduceIte, rd_new_lt, own_new_lt, mp_new_lt, rd_newm_lt, own_newm_lt, mp_newm_lt, rd_wr_ne, own_wr_ne, mp_wr_ne, rd_wrm_ne, own_wrm_ne, mp_wrm_ne, rd_new_eq, own_new_eq, mp_newm_eq]
                  refine And.intro oql ?_
                  simp (disch := (first | omega | (simp only [size_new, size_newm, size_wr, size_wrm] <;> omega) | fail)) only [go_sem, Nat.reduceBEq, Nat.reduceAdd, Nat.reduceMul, Nat.reduceLeDiff, ↓reduceIte, rd_new_lt, own_new_lt, mp_new_lt, rd_newm_lt, own_newm_lt, mp_newm_lt, rd_wr_ne, own_wr_ne, mp_wr_ne, rd_wrm_ne, own_wrm_ne, mp_wrm_ne, rd_new_eq, own_new_eq, mp_newm_eq]
                  generalize H7.new 51 [i64 na, i64 nb, i64 nc] = H8 at *
                  refine Sl.append s8 sl8.rd rfl (ones_ed [⟨na, nb, nc⟩]) (by omega) ?_
                  intro v9 H9 fp9 s9 e9 hfp9
                  obtain ⟨k1, k2, k3, k4, k5, k6, k7⟩ := fin v9 H9 fp9 s9 e9 hfp9
                  obtain ⟨sa9, sc9, rfl, hsc9⟩ := slv_val s9
                  refine And.intro k1 ?_
                  simp (disch := (first | omega | (simp only [size_new, size_newm, size_wr, size_wrm] <;> omega) | fail)) only [go_sem, Nat.reduceBEq, Nat.reduceAdd, Nat.reduceMul, Nat.reduceLeDiff, ↓reduceIte, rd_new_lt, own_new_lt, mp_new_lt, rd_newm_lt, own_newm_lt, mp_newm_lt, rd_wr_ne, own_wr_ne, mp_wr_ne, rd_wrm_ne, own_wrm_ne, mp_wrm_ne, rd_new_eq, own_new_eq, mp_newm_eq, k2]
                  refine And.intro (by first | exact k3 | exact k1) ?_
                  simp (disch := (first | omega | (simp only [size_new, size_newm, size_wr, size_wrm] <;> omega) | fail)) only [go_sem, Nat.reduceBEq, Nat.reduceAdd, Nat.reduceMul, Nat.reduceLeDiff, ↓reduceIte, rd_new_lt, own_new_lt, mp_new_lt, rd_newm_lt, own_newm_lt, mp_newm_lt, rd_wr_ne, own_wr_ne, mp_wr_ne, rd_wrm_ne, own_wrm_ne, mp_wrm_ne, rd_new_eq, own_new_eq, mp_newm_eq]
                  rw [wrap64 (n := (k : Int) + 1) (by omega) (by omega)]
                  exact ⟨rest2.length, by omega, k4, k + 1, rest2, acc ++ [Ed.mk na nb nc], _, fp9, rfl, by omega, by omega, by omega, by simp; omega, hed, hok2, k5, k6, k7, rfl⟩
                · simp (disch := (first | omega | (simp only [size_new, size_newm, size_wr, size_wrm] <;> omega) | fail)) only [go_sem, Nat.reduceBEq, Nat.reduceAdd, Nat.reduceMul, Nat.reduceLeDiff, ↓reduceIte, rd_new_lt, own_new_lt, mp_new_lt, rd_newm_lt, own_newm_lt, mp_newm_lt, rd_wr_ne, own_wr_ne, mp_wr_ne, rd_wrm_ne, own_wrm_ne, mp_wrm_ne, rd_new_eq, own_new_eq, mp_newm_eq]
                  refine And.intro oql ?_
                  simp (disch := (first | omega | (simp only [size_new, size_newm, size_wr, size_wrm] <;> omega) | fail)) only [go_sem, Nat.reduceBEq, Nat.reduceAdd, Nat.reduceMul, Nat.reduceLeDiff, ↓reduceIte, rd_new_lt, own_new_lt, mp_new_lt, rd_newm_lt, own_newm_lt, mp_newm_lt, rd_wr_ne, own_wr_ne, mp_wr_ne, rd_wrm_ne, own_wrm_ne, mp_wrm_ne, rd_new_eq, own_new_eq, mp_newm_eq, rd_of_own o8]
                  refine And.intro oql ?_
                  simp (disch := (first | omega | (simp only [size_new, size_newm, size_wr, size_wrm] <;> omega) | fail)) only [go_sem, Nat.reduceBEq, Nat.reduceAdd, Nat.reduceMul, Nat.reduceLeDiff, ↓reduceIte, rd_new_lt, own_new_lt, mp_new_lt, rd_newm_lt, own_newm_lt, mp_newm_lt, rd_wr_ne, own_wr_ne, mp_wr_ne, rd_wrm_ne, own_wrm_ne, mp_wrm_ne, rd_new_eq, own_new_eq, mp_newm_eq]
                  generalize H7.new 51 [i64 na, i64 nb, i64 nc] = H8 at *
                  refine Sl.append s8 sl8.rd rfl (ones_ed [⟨na, nb, nc⟩]) (by omega) ?_
                  intro v9 H9 fp9 s9 e9 hfp9
                  obtain ⟨k1, k2, k3, k4, k5, k6, k7⟩ := fin v9 H9 fp9 s9 e9 hfp9
                  obtain ⟨sa9, sc9, rfl, hsc9⟩ := slv_val s9
                  refine And.intro k1 ?_
                  simp (disch := (first | omega | (simp only [size_new, size_newm, size_wr, size_wrm] <;> omega) | fail)) only [go_sem, Nat.reduceBEq, Nat.reduceAdd, Nat.reduceMul, Nat.reduceLeDiff, ↓reduceIte, rd_new_lt, own_new_lt, mp_new_lt, rd_newm_lt, own_newm_lt, mp_newm_lt, rd_wr_ne, own_wr_ne, mp_wr_ne, rd_wrm_ne, own_wrm_ne, mp_wrm_ne, rd_new_eq, own_new_eq, mp_newm_eq, k2]
                  refine And.intro (by first | exact k3 | exact k1) ?_
                  simp (disch := (first | omega | (simp only [size_new, size_newm, size_wr, size_wrm] <;> omega) | fail)) only [go_sem, Nat.reduceBEq, Nat.reduceAdd, Nat.reduceMul, Nat.reduceLeDiff, ↓reduceIte, rd_new_lt, own_new_lt, mp_new_lt, rd_newm_lt, own_newm_lt, mp_newm_lt, rd_wr_ne, own_wr_ne, mp_wr_ne, rd_wrm_ne, own_wrm_ne, mp_wrm_ne, rd_new_eq, own_new_eq, mp_newm_eq]
                  rw [wrap64 (n := (k : Int) + 1) (by omega) (by omega)]
                  exact ⟨rest2.length, by omega, k4, k + 1, rest2, acc ++ [Ed.mk na nb nc], _, fp9, rfl, by omega, by omega, by omega, by simp; omega, hed, hok2, k5, k6, k7, rfl⟩

end Go.Proofs.YtkcpoiploighiaaDoor
