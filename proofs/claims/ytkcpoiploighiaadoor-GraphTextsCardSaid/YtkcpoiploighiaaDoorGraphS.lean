/-
  A text's graph, as the document reads it.
-/
import Derived.Test.YtkcpoiploighiaaDoorGraphR
import Derived.Test.YtkcpoiploighiaaDoorGraphQ
import Derived.Test.YtkcpoiploighiaaDoorMeet
set_option linter.unusedVariables false
set_option linter.unusedSimpArgs false
namespace Go.Proofs.YtkcpoiploighiaaDoor
open Go Go.Vc

theorem linesOf_ps {l : List UInt8} {ps : List (List UInt8)} {r : List UInt8} (h : pieces 10 l = ps ++ [r]) : linesOf l = ps.map (fun x => (x, true)) ++ (if r = [] then [] else [(r, false)]) := by
  unfold linesOf
  rw [h, List.dropLast_concat, List.getLastD_concat]

theorem edgesL_step (n : Int) (k : Nat) (acc : List Ed) (x : List UInt8) (wh : Bool) (r : List (List UInt8 × Bool)) : edgesL n k acc ((x, wh) :: r) =
    match numsG wEdge 3 x with
    | some [a, b, c] => if wh = true ∧ acc.length < 65536 ∧ 0 ≤ a ∧ 0 ≤ b ∧ a < n ∧ b < n then edgesL n (k + 1) (acc ++ [⟨a, b, c⟩]) r else (none, k)
    | _ => (none, k) := rfl

set_option maxHeartbeats 8000000 in
theorem ref21_Parse_spec (H : Hp) (l : List UInt8) (hl : l.length ≤ 1000000) : CallH Tryd.prog n_ref21_Parse [strV l] H fun v H' => Post (GrD H H' (parseL (linesOf l)) v ∧ Fresh H H') := by
  refine c_ref21_Parse ⟨rfl, ?_⟩
  have f0 : Fresh H (H.new 35 [i64 0, .slice none 0 0]) := (Ext.refl _ _).new _ _
  have b0 := own_new H 35 [i64 0, .slice none 0 0]
  simp (disch := (first | omega | (simp only [size_new, size_newm, size_wr, size_wrm] <;> omega) | fail)) only [go_sem, Nat.reduceBEq, Nat.reduceAdd, Nat.reduceMul, Nat.reduceLeDiff, ↓reduceIte, rd_new_lt, own_new_lt, mp_new_lt, rd_newm_lt, own_newm_lt, mp_newm_lt, rd_wr_ne, own_wr_ne, mp_wr_ne, rd_wrm_ne, own_wrm_ne, mp_wrm_ne, rd_new_eq, own_new_eq, mp_newm_eq, s_ref21_Parse]
  have hz : l.toArray.size = l.length := List.size_toArray ..
  have hz0 : (H.new 35 [i64 0, .slice none 0 0]).size = H.size + 1 := by rw [size_new]
  generalize H.new 35 [i64 0, .slice none 0 0] = H0 at *
  have s1 : Sl (H0.new 9 []) 1 (.slice (some ⟨H.size + 1, 0, none⟩) 0 0) 0 (([] : List (List UInt8)).map strV) (some (H.size + 1)) := Sl.lit_at (size := 1) (n := 0) (xs := []) rfl hz0.symm
  have f1 : Fresh H0 (H0.new 9 []) := (Ext.refl _ _).new _ _
  have hz1 : (H0.new 9 []).size = H0.size + 1 := by rw [size_new]
  have b1 := f1.own b0 (fun h => h)
  generalize H0.new 9 [] = H1 at *
  obtain ⟨lp1, lp2⟩ := len_piece 10 _ l (Nat.le_refl _)
  refine LoopV.intro (fun m env H' => ∃ (i from_ : Nat) (ps : List (List UInt8)) (v : Value) (b : Nat), m = l.length - i ∧ i ≤ l.length ∧ from_ ≤ i ∧ (10 : UInt8) ∉ (l.take i).drop from_ ∧ pieces 10 l = ps ++ pieces 10 (l.drop from_) ∧ env = [(0, strV l), (2, ptr H.size), (4, v), (5, i64 from_), (6, i64 i)] ∧ Fresh H0 H' ∧ H0.size ≤ b ∧ Sl H' 1 v ps.length (ps.map strV) (some b)) l.length ⟨0, 0, [], _, H.size + 1, by omega, by omega, by omega, by simp, by simp, rfl, f1, by omega, s1⟩ ?_
  clear s1 b1 f1 hz1
  rintro m env H2 ⟨i, fr, ps, v, b, hm, hi, hfr, hc, hps, rfl, f2, hb, s2⟩
  have hlen : ps.length ≤ 1000001 := by
    have := congrArg List.length hps
    rw [List.length_append] at this
    omega
  simp (disch := (first | omega | (simp only [size_new, size_newm, size_wr, size_wrm] <;> omega) | fail)) only [go_sem, Nat.reduceBEq, Nat.reduceAdd, Nat.reduceMul, Nat.reduceLeDiff, ↓reduceIte, rd_new_lt, own_new_lt, mp_new_lt, rd_newm_lt, own_newm_lt, mp_newm_lt, rd_wr_ne, own_wr_ne, mp_wr_ne, rd_wrm_ne, own_wrm_ne, mp_wrm_ne, rd_new_eq, own_new_eq, mp_newm_eq]
  refine Both.dec (fun h3 => ?_) (fun h3 => ?_) <;> simp (disch := (first | omega | (simp only [size_new, size_newm, size_wr, size_wrm] <;> omega) | fail)) only [go_sem, Nat.reduceBEq, Nat.reduceAdd, Nat.reduceMul, Nat.reduceLeDiff, ↓reduceIte, rd_new_lt, own_new_lt, mp_new_lt, rd_newm_lt, own_newm_lt, mp_newm_lt, rd_wr_ne, own_wr_ne, mp_wr_ne, rd_wrm_ne, own_wrm_ne, mp_wrm_ne, rd_new_eq, own_new_eq, mp_newm_eq]
  · obtain ⟨x, hx⟩ : ∃ x, l[i]? = some x := ⟨_, List.getElem?_eq_getElem (by omega)⟩
    simp (disch := (first | omega | (simp only [size_new, size_newm, size_wr, size_wrm] <;> omega) | fail)) only [go_sem, Nat.reduceBEq, Nat.reduceAdd, Nat.reduceMul, Nat.reduceLeDiff, ↓reduceIte, rd_new_lt, own_new_lt, mp_new_lt, rd_newm_lt, own_newm_lt, mp_newm_lt, rd_wr_ne, own_wr_ne, mp_wr_ne, rd_wrm_ne, own_wrm_ne, mp_wrm_ne, rd_new_eq, own_new_eq, mp_newm_eq, get_str, Int.toNat_natCast, hx, also_nn]
    refine Both.dec (fun h4 => ?_) (fun h4 => ?_) <;> simp (disch := (first | omega | (simp only [size_new, size_newm, size_wr, size_wrm] <;> omega) | fail)) only [go_sem, Nat.reduceBEq, Nat.reduceAdd, Nat.reduceMul, Nat.reduceLeDiff, ↓reduceIte, rd_new_lt, own_new_lt, mp_new_lt, rd_newm_lt, own_newm_lt, mp_newm_lt, rd_wr_ne, own_wr_ne, mp_wr_ne, rd_wrm_ne, own_wrm_ne, mp_wrm_ne, rd_new_eq, own_new_eq, mp_newm_eq]
    · have hxc : x = 10 := UInt8.toNat_inj.1 (by show x.toNat = 10; omega)
      subst hxc
      refine ⟨⟨by omega, by omega, by omega⟩, ?_⟩
      simp (disch := (first | omega | (simp only [size_new, size_newm, size_wr, size_wrm] <;> omega) | fail)) only [go_sem, Nat.reduceBEq, Nat.reduceAdd, Nat.reduceMul, Nat.reduceLeDiff, ↓reduceIte, rd_new_lt, own_new_lt, mp_new_lt, rd_newm_lt, own_newm_lt, mp_newm_lt, rd_wr_ne, own_wr_ne, mp_wr_ne, rd_wrm_ne, own_wrm_ne, mp_wrm_ne, rd_new_eq, own_new_eq, mp_newm_eq, Int.toNat_natCast, ext_str]
      have fl : Fresh H2 (H2.new 9 [strV ((l.take i).drop fr)]) := (Ext.refl _ _).new _ _
      refine Sl.append (s2.ext fl (fun _ _ h => h)) (Sl.lit_at (size := 1) (n := 1) (xs := [strV ((l.take i).drop fr)]) rfl rfl).rd rfl (ones_strs [_]) (by omega) ?_
      intro v' H' fp' s3 e3 hfp
      obtain ⟨b', rfl, hb'⟩ : ∃ b', fp' = some b' ∧ H0.size ≤ b' := by
        rcases hfp with rfl | ⟨b', rfl, h1, h2⟩
        · exact ⟨b, rfl, hb⟩
        · exact ⟨b', rfl, Nat.le_trans (f2.trans fl).size h1⟩
      simp (disch := (first | omega | (simp only [size_new, size_newm, size_wr, size_wrm] <;> omega) | fail)) only [go_sem, Nat.reduceBEq, Nat.reduceAdd, Nat.reduceMul, Nat.reduceLeDiff, ↓reduceIte, rd_new_lt, own_new_lt, mp_new_lt, rd_newm_lt, own_newm_lt, mp_newm_lt, rd_wr_ne, own_wr_ne, mp_wr_ne, rd_wrm_ne, own_wrm_ne, mp_wrm_ne, rd_new_eq, own_new_eq, mp_newm_eq]
      rw [wrap64 (n := (i : Int) + 1) (by omega) (by omega)]
      have hdrop : l.drop fr = (l.take i).drop fr ++ 10 :: l.drop (i + 1) := by
        have h6 : l.drop i = 10 :: l.drop (i + 1) := by
          rw [List.drop_eq_getElem_cons (by omega)]
          rw [List.getElem?_eq_getElem (by omega)] at hx
          injection hx with hx
          rw [hx]
        conv => lhs; rw [← List.take_append_drop i l, List.drop_append, h6]
        rw [show fr - (l.take i).length = 0 by rw [List.length_take]; omega, List.drop_zero]
      refine ⟨l.length - (i + 1), by omega, i + 1, i + 1, ps ++ [(l.take i).drop fr], v', b', rfl, by omega, by omega, ?_, ?_, rfl, ?_, hb', by rw [List.map_append, List.length_append]; exact s3⟩
      · rw [List.drop_eq_nil_of_le (by rw [List.length_take]; omega)]; simp
      · rw [hps, hdrop, pieces_at _ _ hc, List.append_assoc]; rfl
      · exact (f2.trans fl).then e3 (fun z (hz : some b = some z) => by injection hz with hz; omega)
    · rw [wrap64 (n := (i : Int) + 1) (by omega) (by omega)]
      refine ⟨l.length - (i + 1), by omega, i + 1, fr, ps, v, b, rfl, by omega, by omega, ?_, hps, rfl, f2, hb, s2⟩
      rw [List.take_add_one, hx, List.drop_append, List.mem_append]
      rintro (h | h)
      · exact hc h
      · rw [show fr - (l.take i).length = 0 by rw [List.length_take]; omega, List.drop_zero] at h
        simp at h
        exact h4 (by rw [← h]; rfl)
  · have hi2 : i = l.length := by omega
    subst hi2
    rw [List.take_length] at hc
    rw [pieces_free _ hc] at hps
    have hls := linesOf_ps hps
    obtain ⟨sa, sc, rfl, hsc⟩ := sl_val s2
    simp (disch := (first | omega | (simp only [size_new, size_newm, size_wr, size_wrm] <;> omega) | fail)) only [go_sem, Nat.reduceBEq, Nat.reduceAdd, Nat.reduceMul, Nat.reduceLeDiff, ↓reduceIte, rd_new_lt, own_new_lt, mp_new_lt, rd_newm_lt, own_newm_lt, mp_newm_lt, rd_wr_ne, own_wr_ne, mp_wr_ne, rd_wrm_ne, own_wrm_ne, mp_wrm_ne, rd_new_eq, own_new_eq, mp_newm_eq]
    refine Both.meetD (fun e h => ∃ v4 b4, e.find 2 = some (ptr H.size) ∧ e.find 4 = some v4 ∧ e.find 7 = some (i64 ps.length) ∧ Sl h 1 v4 (linesOf l).length ((linesOf l).map fun p => strV p.1) (some b4) ∧ Fresh H0 h ∧ H0.size ≤ b4) (fun h4 => ?_) (fun h4 => ?_) ?_ <;> simp (disch := (first | omega | (simp only [size_new, size_newm, size_wr, size_wrm] <;> omega) | fail)) only [go_sem, Nat.reduceBEq, Nat.reduceAdd, Nat.reduceMul, Nat.reduceLeDiff, ↓reduceIte, rd_new_lt, own_new_lt, mp_new_lt, rd_newm_lt, own_newm_lt, mp_newm_lt, rd_wr_ne, own_wr_ne, mp_wr_ne, rd_wrm_ne, own_wrm_ne, mp_wrm_ne, rd_new_eq, own_new_eq, mp_newm_eq]
    · refine ⟨⟨by omega, by omega, by omega⟩, ?_⟩
      simp (disch := (first | omega | (simp only [size_new, size_newm, size_wr, size_wrm] <;> omega) | fail)) only [go_sem, Nat.reduceBEq, Nat.reduceAdd, Nat.reduceMul, Nat.reduceLeDiff, ↓reduceIte, rd_new_lt, own_new_lt, mp_new_lt, rd_newm_lt, own_newm_lt, mp_newm_lt, rd_wr_ne, own_wr_ne, mp_wr_ne, rd_wrm_ne, own_wrm_ne, mp_wrm_ne, rd_new_eq, own_new_eq, mp_newm_eq, Int.toNat_natCast, ext_str, hz]
      have hdr : (l.take l.length).drop fr = l.drop fr := by rw [List.take_length]
      rw [hdr]
      have fl : Fresh H2 (H2.new 9 [strV (l.drop fr)]) := (Ext.refl _ _).new _ _
      refine Sl.append (s2.ext fl (fun _ _ h => h)) (Sl.lit_at (size := 1) (n := 1) (xs := [strV (l.drop fr)]) rfl rfl).rd rfl (ones_strs [_]) (by omega) ?_
      intro v' H' fp' s3 e3 hfp
      simp (disch := (first | omega | (simp only [size_new, size_newm, size_wr, size_wrm] <;> omega) | fail)) only [go_sem, Nat.reduceBEq, Nat.reduceAdd, Nat.reduceMul, Nat.reduceLeDiff, ↓reduceIte, rd_new_lt, own_new_lt, mp_new_lt, rd_newm_lt, own_newm_lt, mp_newm_lt, rd_wr_ne, own_wr_ne, mp_wr_ne, rd_wrm_ne, own_wrm_ne, mp_wrm_ne, rd_new_eq, own_new_eq, mp_newm_eq]
      obtain ⟨b', rfl, hb'⟩ : ∃ b', fp' = some b' ∧ H0.size ≤ b' := by
        rcases hfp with rfl | ⟨b', rfl, h1, h2⟩
        · exact ⟨b, rfl, hb⟩
        · exact ⟨b', rfl, Nat.le_trans (f2.trans fl).size h1⟩
      have hne : l.drop fr ≠ [] := fun h => by have := congrArg List.length h; simp at this; omega
      rw [if_neg hne] at hls
      refine ⟨v', b', trivial, rfl, trivial, ?_, (f2.trans fl).then e3 (fun z (hz : some b = some z) => by injection hz with hz; omega), hb'⟩
      rw [hls, List.length_append, List.length_map, List.map_append, List.map_map]
      exact s3
    · have he : l.drop fr = [] := List.drop_eq_nil_of_le (by omega)
      rw [if_pos he, List.append_nil] at hls
      refine ⟨_, b, trivial, rfl, trivial, ?_, f2, hb⟩
      rw [hls, List.length_map, List.map_map]
      exact s2
    · have hW : ∀ (k : Nat) (p : List UInt8 × Bool), (linesOf l)[k]? = some p → (p.2 = true ↔ k < ps.length) := by
        intro k p hk
        rw [hls, List.getElem?_append, List.length_map] at hk
        split at hk
        · rw [List.getElem?_map] at hk
          cases hp : ps[k]? with
          | none => rw [hp] at hk; cases hk
          | some q => rw [hp] at hk; injection hk with hk; subst hk; simp; assumption
        · split at hk
          · simp at hk
          · have := List.mem_of_getElem? hk
            rw [List.mem_singleton] at this
            subst this
            simp; omega
      have hlln : (linesOf l).length ≤ 1000002 := by
        rw [hls, List.length_append, List.length_map]
        split <;> simp <;> omega
      have hxl : ∀ (k : Nat) (p : List UInt8 × Bool), (linesOf l)[k]? = some p → p.1.length ≤ l.length := by
        intro k p hk
        have hmem : p.1 ∈ pieces 10 l := by
          have hm := List.mem_of_getElem? hk
          rw [hls, List.mem_append] at hm
          rw [hps]
          rcases hm with hm | hm
          · obtain ⟨x, hx, rfl⟩ := List.mem_map.1 hm; exact List.mem_append_left _ hx
          · split at hm
            · cases hm
            · rw [List.mem_singleton] at hm; subst hm; simp
        exact lp1 _ hmem
      clear hls
      generalize linesOf l = ls at *
      generalize ps.length = W at *
      clear s2 hps hc f2
      rintro env H3 ⟨v4, b4, h2, h4, h7, s4, f3, hb4⟩
      obtain ⟨sa4, sc4, rfl, hsc4⟩ := sl_val s4
      have b3 := f3.own b0 (fun h => h)
      simp (disch := (first | omega | (simp only [size_new, size_newm, size_wr, size_wrm] <;> omega) | fail)) only [go_sem, Nat.reduceBEq, Nat.reduceAdd, Nat.reduceMul, Nat.reduceLeDiff, ↓reduceIte, rd_new_lt, own_new_lt, mp_new_lt, rd_newm_lt, own_newm_lt, mp_newm_lt, rd_wr_ne, own_wr_ne, mp_wr_ne, rd_wrm_ne, own_wrm_ne, mp_wrm_ne, rd_new_eq, own_new_eq, mp_newm_eq, h2, h4, h7]
      have q3 := own_new H3 35 [i64 0, .slice none 0 0]
      have q4 := own_wr_same (l := [i64 0, .slice none 0 0]) q3
      have f4 : Fresh H3 ((H3.new 35 [i64 0, .slice none 0 0]).wr H3.size [i64 0, .slice none 0 0]) := ((Ext.refl _ _).new _ _ : Fresh H3 _).then ((Ext.refl (fun z => z = H3.size) _).wr (fun _ => rfl) _) (fun z hz => by omega)
      generalize (H3.new 35 [i64 0, .slice none 0 0]).wr H3.size [i64 0, .slice none 0 0] = H4 at *
      have hb4s : b4 < H3.size := Sl.lt s4
      have hzz : H.size < H3.size := own_lt b3
      refine LoopV.intro (fun m env H' => Fresh H3 H' ∧ ∃ (k : Nat) (n : Int) (acc : List Ed) (sv : Value) (fp : Option Nat), m = ls.length - k ∧ k ≤ ls.length ∧ (k = 0 → acc = []) ∧ (0 < k → 0 ≤ n ∧ n ≤ 4096 ∧ parseL ls = ((edgesL n (k + 1) acc (ls.drop k)).1.map fun es => (n, es), (edgesL n (k + 1) acc (ls.drop k)).2)) ∧
        acc.length ≤ 65536 ∧ (∀ e ∈ acc, 0 ≤ e.f ∧ e.f < n ∧ 0 ≤ e.t ∧ e.t < n ∧ -9223372036854775808 ≤ e.w ∧ e.w ≤ 9223372036854775807) ∧
        H'.own H3.size = some [i64 n, sv] ∧ Sl H' 3 sv acc.length (flatE acc) fp ∧ (∀ b, fp = some b → H3.size < b) ∧
        env = [(2, ptr H.size), (4, .slice sa4 ls.length sc4), (7, i64 W), (8, ptr H3.size), (46, .slice sa4 ls.length sc4), (47, i64 ls.length), (48, i64 k)]) ls.length
        ⟨f4, 0, 0, [], .slice none 0 0, none, by omega, by omega, fun _ => rfl, by omega, by simp, by simp, q4, Sl.nil _ _, by (intro b h; cases h), rfl⟩ ?_
      rintro m env H5 ⟨f5, k, n, acc, sv, fp, hm, hk, hk0, hk1, hal, hok, o5, s5, hfp, rfl⟩
      have b5 := f5.own b3 (fun h => h)
      have r5 := (s4.ext f5 (fun _ _ h => h)).rd
      have fz : ∀ {A : Hp}, Fresh H5 A → Fresh H (A.wr H.size [i64 0, .slice none 0 0]) := fun h => (f0.trans (f3.trans (f5.trans h))).then ((Ext.refl (fun z => z = H.size) _).wr (fun _ => rfl) _) (fun z hz => by omega)
      obtain ⟨sa, sc, rfl, hsc⟩ := slv_val s5
      have hz5 : H3.size < H5.size := own_lt o5
      simp (disch := (first | omega | (simp only [size_new, size_newm, size_wr, size_wrm] <;> omega) | fail)) only [go_sem, Nat.reduceBEq, Nat.reduceAdd, Nat.reduceMul, Nat.reduceLeDiff, ↓reduceIte, rd_new_lt, own_new_lt, mp_new_lt, rd_newm_lt, own_newm_lt, mp_newm_lt, rd_wr_ne, own_wr_ne, mp_wr_ne, rd_wrm_ne, own_wrm_ne, mp_wrm_ne, rd_new_eq, own_new_eq, mp_newm_eq]
      refine Both.dec (fun hlt => ?_) (fun hlt => ?_) <;> simp (disch := (first | omega | (simp only [size_new, size_newm, size_wr, size_wrm] <;> omega) | fail)) only [go_sem, Nat.reduceBEq, Nat.reduceAdd, Nat.reduceMul, Nat.reduceLeDiff, ↓reduceIte, rd_new_lt, own_new_lt, mp_new_lt, rd_newm_lt, own_newm_lt, mp_newm_lt, rd_wr_ne, own_wr_ne, mp_wr_ne, rd_wrm_ne, own_wrm_ne, mp_wrm_ne, rd_new_eq, own_new_eq, mp_newm_eq]
      · have hk2 : k < ls.length := by omega
        obtain ⟨p, hp⟩ : ∃ p, ls[k]? = some p := ⟨_, List.getElem?_eq_getElem hk2⟩
        obtain ⟨x, wh⟩ := p
        have hxx : x.length ≤ 1000000 := by have := hxl k _ hp; simp only at this; omega
        have hWk := hW k _ hp
        simp only at hWk
        have hdr : ls.drop k = (x, wh) :: ls.drop (k + 1) := by
          rw [List.drop_eq_getElem_cons hk2]
          rw [List.getElem?_eq_getElem hk2] at hp
          injection hp with hp
          rw [hp]
        have e5 : (ls.map fun p => strV p.1) = (ls.map (·.1)).map strV := by rw [List.map_map]; rfl
        rw [e5] at r5
        obtain ⟨_, b', o, lb, ha, hrd, hlb⟩ := RdS.str r5 (i := k) (x := x) (by rw [List.getElem?_map, hp]; rfl)
        subst ha
        refine ⟨⟨by omega, by omega⟩, ?_⟩
        have hw1 := wrap64 (n := (k : Int) + 1) (by omega) (by omega)
        simp (disch := (first | omega | (simp only [size_new, size_newm, size_wr, size_wrm] <;> omega) | fail)) only [go_sem, Nat.reduceBEq, Nat.reduceAdd, Nat.reduceMul, Nat.reduceLeDiff, ↓reduceIte, rd_new_lt, own_new_lt, mp_new_lt, rd_newm_lt, own_newm_lt, mp_newm_lt, rd_wr_ne, own_wr_ne, mp_wr_ne, rd_wrm_ne, own_wrm_ne, mp_wrm_ne, rd_new_eq, own_new_eq, mp_newm_eq, hrd, Int.toNat_natCast, Nat.mul_one, hlb]
        refine Both.dec (fun hz => ?_) (fun hz => ?_) <;> simp (disch := (first | omega | (simp only [size_new, size_newm, size_wr, size_wrm] <;> omega) | fail)) only [go_sem, Nat.reduceBEq, Nat.reduceAdd, Nat.reduceMul, Nat.reduceLeDiff, ↓reduceIte, rd_new_lt, own_new_lt, mp_new_lt, rd_newm_lt, own_newm_lt, mp_newm_lt, rd_wr_ne, own_wr_ne, mp_wr_ne, rd_wrm_ne, own_wrm_ne, mp_wrm_ne, rd_new_eq, own_new_eq, mp_newm_eq]
        · obtain rfl : k = 0 := by omega
          obtain rfl := hk0 rfl
          refine (ref21_read_spec H5 x wGraph hxx).mono ?_
          rintro vr H6 ⟨f6, fq, sr, hfq⟩
          have hrr := read_range wGraph x
          have hr1 := @read_nums wGraph x 1 (by omega)
          have hr2 := @read_other wGraph x 1
          generalize readL wGraph x = rl at *
          obtain ⟨ra, rc, rfl, hrc⟩ := sl_val sr
          have b6 := f6.own b5 (fun h => h)
          have b7 := own_wr_same (l := [i64 0, .slice none 0 0]) b6
          have hpl : ls = (x, wh) :: ls.drop 1 := hdr
          simp (disch := (first | omega | (simp only [size_new, size_newm, size_wr, size_wrm] <;> omega) | fail)) only [go_sem, Nat.reduceBEq, Nat.reduceAdd, Nat.reduceMul, Nat.reduceLeDiff, ↓reduceIte, rd_new_lt, own_new_lt, mp_new_lt, rd_newm_lt, own_newm_lt, mp_newm_lt, rd_wr_ne, own_wr_ne, mp_wr_ne, rd_wrm_ne, own_wrm_ne, mp_wrm_ne, rd_new_eq, own_new_eq, mp_newm_eq]
          refine Both.dec (fun c1 => ?_) (fun c1 => ?_)
          rotate_left
          · simp (disch := (first | omega | (simp only [size_new, size_newm, size_wr, size_wrm] <;> omega) | fail)) only [go_sem, Nat.reduceBEq, Nat.reduceAdd, Nat.reduceMul, Nat.reduceLeDiff, ↓reduceIte, rd_new_lt, own_new_lt, mp_new_lt, rd_newm_lt, own_newm_lt, mp_newm_lt, rd_wr_ne, own_wr_ne, mp_wr_ne, rd_wrm_ne, own_wrm_ne, mp_wrm_ne, rd_new_eq, own_new_eq, mp_newm_eq, b6, rd_of_own b7]
            refine ⟨.inr ⟨1, ?_, by omega, rfl⟩, fz f6⟩
            rw [hpl]
            simp only [parseL, hr2 (by omega)]
          obtain ⟨y, rfl⟩ : ∃ y, rl = [y] := List.length_eq_one_iff.1 (by omega)
          have hnum := hr1 rfl
          obtain ⟨q, cq, lq, hqs, rfl, oq, hcq, hatq⟩ := Sl.ints sr (by simp)
          injection hqs with hq1 hq2 hq3
          subst hq1; subst hq3
          have g0 := hatq 0 y rfl
          have e0 : Int.toNat 0 = 0 := rfl
          have bad : ¬ (wh = true ∧ 0 ≤ y ∧ y ≤ 4096) → parseL ls = (none, 1) := fun h => by
            rw [hpl]
            simp only [parseL, hnum]
            rw [if_neg h]
          simp (disch := (first | omega | (simp only [size_new, size_newm, size_wr, size_wrm] <;> omega) | fail)) only [go_sem, Nat.reduceBEq, Nat.reduceAdd, Nat.reduceMul, Nat.reduceLeDiff, ↓reduceIte, rd_new_lt, own_new_lt, mp_new_lt, rd_newm_lt, own_newm_lt, mp_newm_lt, rd_wr_ne, own_wr_ne, mp_wr_ne, rd_wrm_ne, own_wrm_ne, mp_wrm_ne, rd_new_eq, own_new_eq, mp_newm_eq]
          refine ⟨⟨by omega, by simp⟩, ?_⟩
          simp (disch := (first | omega | (simp only [size_new, size_newm, size_wr, size_wrm] <;> omega) | fail)) only [go_sem, Nat.reduceBEq, Nat.reduceAdd, Nat.reduceMul, Nat.reduceLeDiff, ↓reduceIte, rd_new_lt, own_new_lt, mp_new_lt, rd_newm_lt, own_newm_lt, mp_newm_lt, rd_wr_ne, own_wr_ne, mp_wr_ne, rd_wrm_ne, own_wrm_ne, mp_wrm_ne, rd_new_eq, own_new_eq, mp_newm_eq, rd_of_own oq, e0, Nat.zero_mul, Nat.zero_add, g0]
          refine Both.dec (fun c2 => ?_) (fun c2 => ?_)
          · simp (disch := (first | omega | (simp only [size_new, size_newm, size_wr, size_wrm] <;> omega) | fail)) only [go_sem, Nat.reduceBEq, Nat.reduceAdd, Nat.reduceMul, Nat.reduceLeDiff, ↓reduceIte, rd_new_lt, own_new_lt, mp_new_lt, rd_newm_lt, own_newm_lt, mp_newm_lt, rd_wr_ne, own_wr_ne, mp_wr_ne, rd_wrm_ne, own_wrm_ne, mp_wrm_ne, rd_new_eq, own_new_eq, mp_newm_eq, b6, rd_of_own b7]
            exact ⟨.inr ⟨1, bad (by omega), by omega, rfl⟩, fz f6⟩
          simp (disch := (first | omega | (simp only [size_new, size_newm, size_wr, size_wrm] <;> omega) | fail)) only [go_sem, Nat.reduceBEq, Nat.reduceAdd, Nat.reduceMul, Nat.reduceLeDiff, ↓reduceIte, rd_new_lt, own_new_lt, mp_new_lt, rd_newm_lt, own_newm_lt, mp_newm_lt, rd_wr_ne, own_wr_ne, mp_wr_ne, rd_wrm_ne, own_wrm_ne, mp_wrm_ne, rd_new_eq, own_new_eq, mp_newm_eq]
          refine ⟨⟨by omega, by simp⟩, ?_⟩
          simp (disch := (first | omega | (simp only [size_new, size_newm, size_wr, size_wrm] <;> omega) | fail)) only [go_sem, Nat.reduceBEq, Nat.reduceAdd, Nat.reduceMul, Nat.reduceLeDiff, ↓reduceIte, rd_new_lt, own_new_lt, mp_new_lt, rd_newm_lt, own_newm_lt, mp_newm_lt, rd_wr_ne, own_wr_ne, mp_wr_ne, rd_wrm_ne, own_wrm_ne, mp_wrm_ne, rd_new_eq, own_new_eq, mp_newm_eq, rd_of_own oq, e0, Nat.zero_mul, Nat.zero_add, g0]
          refine Both.dec (fun c3 => ?_) (fun c3 => ?_)
          · simp (disch := (first | omega | (simp only [size_new, size_newm, size_wr, size_wrm] <;> omega) | fail)) only [go_sem, Nat.reduceBEq, Nat.reduceAdd, Nat.reduceMul, Nat.reduceLeDiff, ↓reduceIte, rd_new_lt, own_new_lt, mp_new_lt, rd_newm_lt, own_newm_lt, mp_newm_lt, rd_wr_ne, own_wr_ne, mp_wr_ne, rd_wrm_ne, own_wrm_ne, mp_wrm_ne, rd_new_eq, own_new_eq, mp_newm_eq, b6, rd_of_own b7]
            exact ⟨.inr ⟨1, bad (by omega), by omega, rfl⟩, fz f6⟩
          simp (disch := (first | omega | (simp only [size_new, size_newm, size_wr, size_wrm] <;> omega) | fail)) only [go_sem, Nat.reduceBEq, Nat.reduceAdd, Nat.reduceMul, Nat.reduceLeDiff, ↓reduceIte, rd_new_lt, own_new_lt, mp_new_lt, rd_newm_lt, own_newm_lt, mp_newm_lt, rd_wr_ne, own_wr_ne, mp_wr_ne, rd_wrm_ne, own_wrm_ne, mp_wrm_ne, rd_new_eq, own_new_eq, mp_newm_eq]
          refine Both.dec (fun c4 => ?_) (fun c4 => ?_) <;> simp (disch := (first | omega | (simp only [size_new, size_newm, size_wr, size_wrm] <;> omega) | fail)) only [go_sem, Nat.reduceBEq, Nat.reduceAdd, Nat.reduceMul, Nat.reduceLeDiff, ↓reduceIte, rd_new_lt, own_new_lt, mp_new_lt, rd_newm_lt, own_newm_lt, mp_newm_lt, rd_wr_ne, own_wr_ne, mp_wr_ne, rd_wrm_ne, own_wrm_ne, mp_wrm_ne, rd_new_eq, own_new_eq, mp_newm_eq]
          · simp (disch := (first | omega | (simp only [size_new, size_newm, size_wr, size_wrm] <;> omega) | fail)) only [go_sem, Nat.reduceBEq, Nat.reduceAdd, Nat.reduceMul, Nat.reduceLeDiff, ↓reduceIte, rd_new_lt, own_new_lt, mp_new_lt, rd_newm_lt, own_newm_lt, mp_newm_lt, rd_wr_ne, own_wr_ne, mp_wr_ne, rd_wrm_ne, own_wrm_ne, mp_wrm_ne, rd_new_eq, own_new_eq, mp_newm_eq, b6, rd_of_own b7]
            refine ⟨.inr ⟨1, bad (fun h => ?_), by omega, rfl⟩, fz f6⟩
            have := hWk.1 h.1
            omega
          have hwt : wh = true := hWk.2 (by omega)
          refine ⟨⟨by omega, by simp⟩, ?_⟩
          have o6 := f6.own o5 (fun h => h)
          simp (disch := (first | omega | (simp only [size_new, size_newm, size_wr, size_wrm] <;> omega) | fail)) only [go_sem, Nat.reduceBEq, Nat.reduceAdd, Nat.reduceMul, Nat.reduceLeDiff, ↓reduceIte, rd_new_lt, own_new_lt, mp_new_lt, rd_newm_lt, own_newm_lt, mp_newm_lt, rd_wr_ne, own_wr_ne, mp_wr_ne, rd_wrm_ne, own_wrm_ne, mp_wrm_ne, rd_new_eq, own_new_eq, mp_newm_eq, rd_of_own oq, e0, Nat.zero_mul, Nat.zero_add, g0, o6]
          rw [hw1]
          have o7 := own_wr_same (l := [i64 y, .slice sa ([] : List Ed).length sc]) o6
          refine ⟨ls.length - 1, by omega, (f5.trans f6).then ((Ext.refl (fun z => z = H3.size) _).wr (fun _ => rfl) _) (fun z hz => by omega), 1, y, [], .slice sa ([] : List Ed).length sc, fp, rfl, by omega, by omega, fun _ => ⟨by omega, by omega, ?_⟩, by simp, by simp, o7, (s5.ext f6 (fun _ _ h => h)).ext ((Ext.refl (fun z => z = H3.size) _).wr (fun _ => rfl) _) (fun b hb h => by have := hfp b hb; omega), hfp, rfl⟩
          conv => lhs; rw [hpl]
          simp only [parseL, hnum]
          rw [if_pos ⟨hwt, by omega, by omega⟩]
        · obtain ⟨hn0, hn1, hpar⟩ := hk1 (by omega)
          refine (ref21_read_spec H5 x wEdge hxx).mono ?_
          rintro vr H6 ⟨f6, fq, sr, hfq⟩
          have hrr := read_range wEdge x
          have hr1 := @read_nums wEdge x 3 (by omega)
          have hr2 := @read_other wEdge x 3
          generalize readL wEdge x = rl at *
          obtain ⟨ra, rc, rfl, hrc⟩ := sl_val sr
          have b6 := f6.own b5 (fun h => h)
          have b7 := own_wr_same (l := [i64 0, .slice none 0 0]) b6
          have o6 := f6.own o5 (fun h => h)
          have s6 := s5.ext f6 (fun _ _ h => h)
          rw [hdr, edgesL_step] at hpar
          have badn : (Option.map (fun es => (n, es)) ((none, k + 1) : Option (List Ed) × Nat).1, ((none, k + 1) : Option (List Ed) × Nat).2) = ((none, k + 1) : Option (Int × List Ed) × Nat) := rfl
          simp (disch := (first | omega | (simp only [size_new, size_newm, size_wr, size_wrm] <;> omega) | fail)) only [go_sem, Nat.reduceBEq, Nat.reduceAdd, Nat.reduceMul, Nat.reduceLeDiff, ↓reduceIte, rd_new_lt, own_new_lt, mp_new_lt, rd_newm_lt, own_newm_lt, mp_newm_lt, rd_wr_ne, own_wr_ne, mp_wr_ne, rd_wrm_ne, own_wrm_ne, mp_wrm_ne, rd_new_eq, own_new_eq, mp_newm_eq]
          refine Both.dec (fun c1 => ?_) (fun c1 => ?_)
          rotate_left
          · simp (disch := (first | omega | (simp only [size_new, size_newm, size_wr, size_wrm] <;> omega) | fail)) only [go_sem, Nat.reduceBEq, Nat.reduceAdd, Nat.reduceMul, Nat.reduceLeDiff, ↓reduceIte, rd_new_lt, own_new_lt, mp_new_lt, rd_newm_lt, own_newm_lt, mp_newm_lt, rd_wr_ne, own_wr_ne, mp_wr_ne, rd_wrm_ne, own_wrm_ne, mp_wrm_ne, rd_new_eq, own_new_eq, mp_newm_eq, b6, rd_of_own b7, hw1]
            refine ⟨.inr ⟨k + 1, ?_, by omega, rfl⟩, fz f6⟩
            rw [hpar]
            simp only [hr2 (by omega)]
            rfl
          have hnum := hr1 (by omega)
          obtain ⟨na, nb, nc, rfl⟩ : ∃ a b c, rl = [a, b, c] := by
            match rl, (show rl.length = 3 by omega) with
            | [a, b, c], _ => exact ⟨a, b, c, rfl⟩
          simp only [hnum] at hpar
          obtain ⟨q, cq, lq, hqs, rfl, oq, hcq, hatq⟩ := Sl.ints sr (by simp)
          injection hqs with hq1 hq2 hq3
          subst hq1; subst hq3
          have g0 := hatq 0 na rfl
          have g1 := hatq 1 nb rfl
          have g2 := hatq 2 nc rfl
          have e0 : Int.toNat 0 = 0 := rfl
          have t1 : Int.toNat 1 = 1 := rfl
          have t2 : Int.toNat 2 = 2 := rfl
          have hc01 := hrr nc (by simp)
          have bad : ¬ (wh = true ∧ acc.length < 65536 ∧ 0 ≤ na ∧ 0 ≤ nb ∧ na < n ∧ nb < n) → parseL ls = (none, k + 1) := fun h => by
            rw [hpar, if_neg h]
            rfl
          simp (disch := (first | omega | (simp only [size_new, size_newm, size_wr, size_wrm] <;> omega) | fail)) only [go_sem, Nat.reduceBEq, Nat.reduceAdd, Nat.reduceMul, Nat.reduceLeDiff, ↓reduceIte, rd_new_lt, own_new_lt, mp_new_lt, rd_newm_lt, own_newm_lt, mp_newm_lt, rd_wr_ne, own_wr_ne, mp_wr_ne, rd_wrm_ne, own_wrm_ne, mp_wrm_ne, rd_new_eq, own_new_eq, mp_newm_eq]
          refine Both.dec (fun c2 => ?_) (fun c2 => ?_)
          · simp (disch := (first | omega | (simp only [size_new, size_newm, size_wr, size_wrm] <;> omega) | fail)) only [go_sem, Nat.reduceBEq, Nat.reduceAdd, Nat.reduceMul, Nat.reduceLeDiff, ↓reduceIte, rd_new_lt, own_new_lt, mp_new_lt, rd_newm_lt, own_newm_lt, mp_newm_lt, rd_wr_ne, own_wr_ne, mp_wr_ne, rd_wrm_ne, own_wrm_ne, mp_wrm_ne, rd_new_eq, own_new_eq, mp_newm_eq, b6, rd_of_own b7, hw1]
            refine ⟨.inr ⟨k + 1, bad (fun h => ?_), by omega, rfl⟩, fz f6⟩
            have := hWk.1 h.1
            omega
          have hwt : wh = true := hWk.2 (by omega)
          simp (disch := (first | omega | (simp only [size_new, size_newm, size_wr, size_wrm] <;> omega) | fail)) only [go_sem, Nat.reduceBEq, Nat.reduceAdd, Nat.reduceMul, Nat.reduceLeDiff, ↓reduceIte, rd_new_lt, own_new_lt, mp_new_lt, rd_newm_lt, own_newm_lt, mp_newm_lt, rd_wr_ne, own_wr_ne, mp_wr_ne, rd_wrm_ne, own_wrm_ne, mp_wrm_ne, rd_new_eq, own_new_eq, mp_newm_eq, rd_of_own o6]
          refine Both.dec (fun c3 => ?_) (fun c3 => ?_)
          · simp (disch := (first | omega | (simp only [size_new, size_newm, size_wr, size_wrm] <;> omega) | fail)) only [go_sem, Nat.reduceBEq, Nat.reduceAdd, Nat.reduceMul, Nat.reduceLeDiff, ↓reduceIte, rd_new_lt, own_new_lt, mp_new_lt, rd_newm_lt, own_newm_lt, mp_newm_lt, rd_wr_ne, own_wr_ne, mp_wr_ne, rd_wrm_ne, own_wrm_ne, mp_wrm_ne, rd_new_eq, own_new_eq, mp_newm_eq, b6, rd_of_own b7, hw1]
            exact ⟨.inr ⟨k + 1, bad (by omega), by omega, rfl⟩, fz f6⟩
          simp (disch := (first | omega | (simp only [size_new, size_newm, size_wr, size_wrm] <;> omega) | fail)) only [go_sem, Nat.reduceBEq, Nat.reduceAdd, Nat.reduceMul, Nat.reduceLeDiff, ↓reduceIte, rd_new_lt, own_new_lt, mp_new_lt, rd_newm_lt, own_newm_lt, mp_newm_lt, rd_wr_ne, own_wr_ne, mp_wr_ne, rd_wrm_ne, own_wrm_ne, mp_wrm_ne, rd_new_eq, own_new_eq, mp_newm_eq]
          refine ⟨⟨by omega, by simp⟩, ?_⟩
          simp (disch := (first | omega | (simp only [size_new, size_newm, size_wr, size_wrm] <;> omega) | fail)) only [go_sem, Nat.reduceBEq, Nat.reduceAdd, Nat.reduceMul, Nat.reduceLeDiff, ↓reduceIte, rd_new_lt, own_new_lt, mp_new_lt, rd_newm_lt, own_newm_lt, mp_newm_lt, rd_wr_ne, own_wr_ne, mp_wr_ne, rd_wrm_ne, own_wrm_ne, mp_wrm_ne, rd_new_eq, own_new_eq, mp_newm_eq, rd_of_own oq, e0, Nat.zero_mul, Nat.zero_add, g0]
          refine Both.dec (fun c4 => ?_) (fun c4 => ?_)
          · simp (disch := (first | omega | (simp only [size_new, size_newm, size_wr, size_wrm] <;> omega) | fail)) only [go_sem, Nat.reduceBEq, Nat.reduceAdd, Nat.reduceMul, Nat.reduceLeDiff, ↓reduceIte, rd_new_lt, own_new_lt, mp_new_lt, rd_newm_lt, own_newm_lt, mp_newm_lt, rd_wr_ne, own_wr_ne, mp_wr_ne, rd_wrm_ne, own_wrm_ne, mp_wrm_ne, rd_new_eq, own_new_eq, mp_newm_eq, b6, rd_of_own b7, hw1]
            exact ⟨.inr ⟨k + 1, bad (by omega), by omega, rfl⟩, fz f6⟩
          simp (disch := (first | omega | (simp only [size_new, size_newm, size_wr, size_wrm] <;> omega) | fail)) only [go_sem, Nat.reduceBEq, Nat.reduceAdd, Nat.reduceMul, Nat.reduceLeDiff, ↓reduceIte, rd_new_lt, own_new_lt, mp_new_lt, rd_newm_lt, own_newm_lt, mp_newm_lt, rd_wr_ne, own_wr_ne, mp_wr_ne, rd_wrm_ne, own_wrm_ne, mp_wrm_ne, rd_new_eq, own_new_eq, mp_newm_eq]
          refine ⟨⟨by omega, by simp⟩, ?_⟩
          simp (disch := (first | omega | (simp only [size_new, size_newm, size_wr, size_wrm] <;> omega) | fail)) only [go_sem, Nat.reduceBEq, Nat.reduceAdd, Nat.reduceMul, Nat.reduceLeDiff, ↓reduceIte, rd_new_lt, own_new_lt, mp_new_lt, rd_newm_lt, own_newm_lt, mp_newm_lt, rd_wr_ne, own_wr_ne, mp_wr_ne, rd_wrm_ne, own_wrm_ne, mp_wrm_ne, rd_new_eq, own_new_eq, mp_newm_eq, rd_of_own oq, t1, Nat.one_mul, Nat.zero_add, g1]
          refine Both.dec (fun c5 => ?_) (fun c5 => ?_)
          · simp (disch := (first | omega | (simp only [size_new, size_newm, size_wr, size_wrm] <;> omega) | fail)) only [go_sem, Nat.reduceBEq, Nat.reduceAdd, Nat.reduceMul, Nat.reduceLeDiff, ↓reduceIte, rd_new_lt, own_new_lt, mp_new_lt, rd_newm_lt, own_newm_lt, mp_newm_lt, rd_wr_ne, own_wr_ne, mp_wr_ne, rd_wrm_ne, own_wrm_ne, mp_wrm_ne, rd_new_eq, own_new_eq, mp_newm_eq, b6, rd_of_own b7, hw1]
            exact ⟨.inr ⟨k + 1, bad (by omega), by omega, rfl⟩, fz f6⟩
          simp (disch := (first | omega | (simp only [size_new, size_newm, size_wr, size_wrm] <;> omega) | fail)) only [go_sem, Nat.reduceBEq, Nat.reduceAdd, Nat.reduceMul, Nat.reduceLeDiff, ↓reduceIte, rd_new_lt, own_new_lt, mp_new_lt, rd_newm_lt, own_newm_lt, mp_newm_lt, rd_wr_ne, own_wr_ne, mp_wr_ne, rd_wrm_ne, own_wrm_ne, mp_wrm_ne, rd_new_eq, own_new_eq, mp_newm_eq]
          refine ⟨⟨by omega, by simp⟩, ?_⟩
          simp (disch := (first | omega | (simp only [size_new, size_newm, size_wr, size_wrm] <;> omega) | fail)) only [go_sem, Nat.reduceBEq, Nat.reduceAdd, Nat.reduceMul, Nat.reduceLeDiff, ↓reduceIte, rd_new_lt, own_new_lt, mp_new_lt, rd_newm_lt, own_newm_lt, mp_newm_lt, rd_wr_ne, own_wr_ne, mp_wr_ne, rd_wrm_ne, own_wrm_ne, mp_wrm_ne, rd_new_eq, own_new_eq, mp_newm_eq, rd_of_own oq, e0, Nat.zero_mul, Nat.zero_add, g0, rd_of_own o6]
          refine Both.dec (fun c6 => ?_) (fun c6 => ?_)
          · simp (disch := (first | omega | (simp only [size_new, size_newm, size_wr, size_wrm] <;> omega) | fail)) only [go_sem, Nat.reduceBEq, Nat.reduceAdd, Nat.reduceMul, Nat.reduceLeDiff, ↓reduceIte, rd_new_lt, own_new_lt, mp_new_lt, rd_newm_lt, own_newm_lt, mp_newm_lt, rd_wr_ne, own_wr_ne, mp_wr_ne, rd_wrm_ne, own_wrm_ne, mp_wrm_ne, rd_new_eq, own_new_eq, mp_newm_eq, b6, rd_of_own b7, hw1]
            exact ⟨.inr ⟨k + 1, bad (by omega), by omega, rfl⟩, fz f6⟩
          simp (disch := (first | omega | (simp only [size_new, size_newm, size_wr, size_wrm] <;> omega) | fail)) only [go_sem, Nat.reduceBEq, Nat.reduceAdd, Nat.reduceMul, Nat.reduceLeDiff, ↓reduceIte, rd_new_lt, own_new_lt, mp_new_lt, rd_newm_lt, own_newm_lt, mp_newm_lt, rd_wr_ne, own_wr_ne, mp_wr_ne, rd_wrm_ne, own_wrm_ne, mp_wrm_ne, rd_new_eq, own_new_eq, mp_newm_eq]
          refine ⟨⟨by omega, by simp⟩, ?_⟩
          simp (disch := (first | omega | (simp only [size_new, size_newm, size_wr, size_wrm] <;> omega) | fail)) only [go_sem, Nat.reduceBEq, Nat.reduceAdd, Nat.reduceMul, Nat.reduceLeDiff, ↓reduceIte, rd_new_lt, own_new_lt, mp_new_lt, rd_newm_lt, own_newm_lt, mp_newm_lt, rd_wr_ne, own_wr_ne, mp_wr_ne, rd_wrm_ne, own_wrm_ne, mp_wrm_ne, rd_new_eq, own_new_eq, mp_newm_eq, rd_of_own oq, t1, Nat.one_mul, Nat.zero_add, g1, rd_of_own o6]
          refine Both.dec (fun c7 => ?_) (fun c7 => ?_)
          · simp (disch := (first | omega | (simp only [size_new, size_newm, size_wr, size_wrm] <;> omega) | fail)) only [go_sem, Nat.reduceBEq, Nat.reduceAdd, Nat.reduceMul, Nat.reduceLeDiff, ↓reduceIte, rd_new_lt, own_new_lt, mp_new_lt, rd_newm_lt, own_newm_lt, mp_newm_lt, rd_wr_ne, own_wr_ne, mp_wr_ne, rd_wrm_ne, own_wrm_ne, mp_wrm_ne, rd_new_eq, own_new_eq, mp_newm_eq, b6, rd_of_own b7, hw1]
            exact ⟨.inr ⟨k + 1, bad (by omega), by omega, rfl⟩, fz f6⟩
          rw [if_pos ⟨hwt, by omega, by omega, by omega, by omega, by omega⟩] at hpar
          simp (disch := (first | omega | (simp only [size_new, size_newm, size_wr, size_wrm] <;> omega) | fail)) only [go_sem, Nat.reduceBEq, Nat.reduceAdd, Nat.reduceMul, Nat.reduceLeDiff, ↓reduceIte, rd_new_lt, own_new_lt, mp_new_lt, rd_newm_lt, own_newm_lt, mp_newm_lt, rd_wr_ne, own_wr_ne, mp_wr_ne, rd_wrm_ne, own_wrm_ne, mp_wrm_ne, rd_new_eq, own_new_eq, mp_newm_eq]
          refine InvV.intro (fun H' => H'.own q = some lq) oq ?_
          simp (disch := (first | omega | (simp only [size_new, size_newm, size_wr, size_wrm] <;> omega) | fail)) only [go_sem, Nat.reduceBEq, Nat.reduceAdd, Nat.reduceMul, Nat.reduceLeDiff, ↓reduceIte, rd_new_lt, own_new_lt, mp_new_lt, rd_newm_lt, own_newm_lt, mp_newm_lt, rd_wr_ne, own_wr_ne, mp_wr_ne, rd_wrm_ne, own_wrm_ne, mp_wrm_ne, rd_new_eq, own_new_eq, mp_newm_eq]
          have hok2 : ∀ e ∈ acc ++ [Ed.mk na nb nc], 0 ≤ e.f ∧ e.f < n ∧ 0 ≤ e.t ∧ e.t < n ∧ -9223372036854775808 ≤ e.w ∧ e.w ≤ 9223372036854775807 := fun e he => by
            rcases List.mem_append.1 he with he | he
            · exact hok e he
            · rw [List.mem_singleton.1 he]; exact ⟨by show 0 ≤ na; omega, by show na < n; omega, by show 0 ≤ nb; omega, by show nb < n; omega, hc01.1, hc01.2⟩
          refine ⟨⟨by omega, by omega⟩, ?_⟩
          simp (disch := (first | omega | (simp only [size_new, size_newm, size_wr, size_wrm] <;> omega) | fail)) only [go_sem, Nat.reduceBEq, Nat.reduceAdd, Nat.reduceMul, Nat.reduceLeDiff, ↓reduceIte, rd_new_lt, own_new_lt, mp_new_lt, rd_newm_lt, own_newm_lt, mp_newm_lt, rd_wr_ne, own_wr_ne, mp_wr_ne, rd_wrm_ne, own_wrm_ne, mp_wrm_ne, rd_new_eq, own_new_eq, mp_newm_eq]
          refine StbV.intro (i64 na) (fun H' hI => ?_) ?_
          · simp (disch := (first | omega | (simp only [size_new, size_newm, size_wr, size_wrm] <;> omega) | fail)) only [go_sem, Nat.reduceBEq, Nat.reduceAdd, Nat.reduceMul, Nat.reduceLeDiff, ↓reduceIte, rd_new_lt, own_new_lt, mp_new_lt, rd_newm_lt, own_newm_lt, mp_newm_lt, rd_wr_ne, own_wr_ne, mp_wr_ne, rd_wrm_ne, own_wrm_ne, mp_wrm_ne, rd_new_eq, own_new_eq, mp_newm_eq, rd_of_own hI, e0, Nat.zero_mul, Nat.zero_add, g0]
            exact ⟨trivial, trivial⟩
          simp (disch := (first | omega | (simp only [size_new, size_newm, size_wr, size_wrm] <;> omega) | fail)) only [go_sem, Nat.reduceBEq, Nat.reduceAdd, Nat.reduceMul, Nat.reduceLeDiff, ↓reduceIte, rd_new_lt, own_new_lt, mp_new_lt, rd_newm_lt, own_newm_lt, mp_newm_lt, rd_wr_ne, own_wr_ne, mp_wr_ne, rd_wrm_ne, own_wrm_ne, mp_wrm_ne, rd_new_eq, own_new_eq, mp_newm_eq]
          refine ⟨⟨by omega, by omega⟩, ?_⟩
          simp (disch := (first | omega | (simp only [size_new, size_newm, size_wr, size_wrm] <;> omega) | fail)) only [go_sem, Nat.reduceBEq, Nat.reduceAdd, Nat.reduceMul, Nat.reduceLeDiff, ↓reduceIte, rd_new_lt, own_new_lt, mp_new_lt, rd_newm_lt, own_newm_lt, mp_newm_lt, rd_wr_ne, own_wr_ne, mp_wr_ne, rd_wrm_ne, own_wrm_ne, mp_wrm_ne, rd_new_eq, own_new_eq, mp_newm_eq]
          refine StbV.intro (i64 nb) (fun H' hI => ?_) ?_
          · simp (disch := (first | omega | (simp only [size_new, size_newm, size_wr, size_wrm] <;> omega) | fail)) only [go_sem, Nat.reduceBEq, Nat.reduceAdd, Nat.reduceMul, Nat.reduceLeDiff, ↓reduceIte, rd_new_lt, own_new_lt, mp_new_lt, rd_newm_lt, own_newm_lt, mp_newm_lt, rd_wr_ne, own_wr_ne, mp_wr_ne, rd_wrm_ne, own_wrm_ne, mp_wrm_ne, rd_new_eq, own_new_eq, mp_newm_eq, rd_of_own hI, t1, Nat.one_mul, Nat.zero_add, g1]
            exact ⟨trivial, trivial⟩
          simp (disch := (first | omega | (simp only [size_new, size_newm, size_wr, size_wrm] <;> omega) | fail)) only [go_sem, Nat.reduceBEq, Nat.reduceAdd, Nat.reduceMul, Nat.reduceLeDiff, ↓reduceIte, rd_new_lt, own_new_lt, mp_new_lt, rd_newm_lt, own_newm_lt, mp_newm_lt, rd_wr_ne, own_wr_ne, mp_wr_ne, rd_wrm_ne, own_wrm_ne, mp_wrm_ne, rd_new_eq, own_new_eq, mp_newm_eq]
          refine ⟨⟨by omega, by omega⟩, ?_⟩
          simp (disch := (first | omega | (simp only [size_new, size_newm, size_wr, size_wrm] <;> omega) | fail)) only [go_sem, Nat.reduceBEq, Nat.reduceAdd, Nat.reduceMul, Nat.reduceLeDiff, ↓reduceIte, rd_new_lt, own_new_lt, mp_new_lt, rd_newm_lt, own_newm_lt, mp_newm_lt, rd_wr_ne, own_wr_ne, mp_wr_ne, rd_wrm_ne, own_wrm_ne, mp_wrm_ne, rd_new_eq, own_new_eq, mp_newm_eq]
          refine StbV.intro (i64 nc) (fun H' hI => ?_) ?_
          · simp (disch := (first | omega | (simp only [size_new, size_newm, size_wr, size_wrm] <;> omega) | fail)) only [go_sem, Nat.reduceBEq, Nat.reduceAdd, Nat.reduceMul, Nat.reduceLeDiff, ↓reduceIte, rd_new_lt, own_new_lt, mp_new_lt, rd_newm_lt, own_newm_lt, mp_newm_lt, rd_wr_ne, own_wr_ne, mp_wr_ne, rd_wrm_ne, own_wrm_ne, mp_wrm_ne, rd_new_eq, own_new_eq, mp_newm_eq, rd_of_own hI, t2, Nat.mul_one, Nat.zero_add, g2]
            exact ⟨trivial, trivial⟩
          simp (disch := (first | omega | (simp only [size_new, size_newm, size_wr, size_wrm] <;> omega) | fail)) only [go_sem, Nat.reduceBEq, Nat.reduceAdd, Nat.reduceMul, Nat.reduceLeDiff, ↓reduceIte, rd_new_lt, own_new_lt, mp_new_lt, rd_newm_lt, own_newm_lt, mp_newm_lt, rd_wr_ne, own_wr_ne, mp_wr_ne, rd_wrm_ne, own_wrm_ne, mp_wrm_ne, rd_new_eq, own_new_eq, mp_newm_eq]
          have hq6 := hfq q rfl
          have hz6 := own_lt o6
          have fl : Fresh H6 (H6.new 51 [i64 na, i64 nb, i64 nc]) := (Ext.refl _ _).new _ _
          have oql := fl.own oq (fun h => h)
          have o8 := fl.own o6 (fun h => h)
          have s8 := s6.ext fl (fun _ _ h => h)
          have hz8 := fl.size
          have hz66 := f6.size
          have sl8 : Sl (H6.new 51 [i64 na, i64 nb, i64 nc]) 3 (.slice (some ⟨H6.size, 0, none⟩) 1 1) 1 (flatE [⟨na, nb, nc⟩]) (some H6.size) := Sl.lit_at (size := 3) (n := 1) (xs := flatE [⟨na, nb, nc⟩]) rfl rfl
          have fin : ∀ v9 H9 fp9, Sl H9 3 v9 (acc.length + 1) (flatE acc ++ flatE [Ed.mk na nb nc]) fp9 → Ext (fun b => fp = some b) (H6.new 51 [i64 na, i64 nb, i64 nc]) H9 →
              (fp9 = fp ∨ ∃ b, fp9 = some b ∧ (H6.new 51 [i64 na, i64 nb, i64 nc]).size ≤ b ∧ b < H9.size) →
              H9.own q = some lq ∧ H9.own H3.size = some [i64 n, .slice sa acc.length sc] ∧ (H9.wr H3.size [i64 n, v9]).own q = some lq ∧ Fresh H3 (H9.wr H3.size [i64 n, v9]) ∧ (H9.wr H3.size [i64 n, v9]).own H3.size = some [i64 n, v9] ∧
              Sl (H9.wr H3.size [i64 n, v9]) 3 v9 (acc ++ [Ed.mk na nb nc]).length (flatE (acc ++ [Ed.mk na nb nc])) fp9 ∧ ∀ b, fp9 = some b → H3.size < b := by
            intro v9 H9 fp9 s9 e9 hfp9
            have hlt : ∀ b, fp = some b → b < H5.size := fun b hb => by subst hb; exact Sl.lt s5
            have k1 : H9.own q = some lq := e9.own oql (fun h => by have := hlt q h; omega)
            have k2 : H9.own H3.size = some [i64 n, .slice sa acc.length sc] := e9.own o8 (fun h => by have := hfp _ h; omega)
            have k6 : ∀ b, fp9 = some b → H3.size < b := fun b hb => by
              rcases hfp9 with h | ⟨b', hb', h1, h2⟩
              · exact hfp b (by rw [← h]; exact hb)
              · rw [hb] at hb'; injection hb' with hb'; omega
            refine ⟨k1, k2, by rw [own_wr_ne (by omega)]; exact k1, ?_, own_wr_same k2, ?_, k6⟩
            · exact ((f5.trans (f6.trans fl)).then e9 (fun z hz => by have := hfp z hz; omega)).then ((Ext.refl (fun z => z = H3.size) _).wr (fun _ => rfl) _) (fun z hz => by omega)
            · rw [flatE_app, List.length_append]
              exact s9.ext ((Ext.refl (fun z => z = H3.size) _).wr (fun _ => rfl) _) (fun b hb h => by have := k6 b hb; omega)
          refine Two.intro ?_ ?_
          · simp (disch := (first | omega | (simp only [size_new, size_newm, size_wr, size_wrm] <;> omega) | fail)) only [go_sem, Nat.reduceBEq, Nat.reduceAdd, Nat.reduceMul, Nat.reduceLeDiff, ↓reduceIte, rd_new_lt, own_new_lt, mp_new_lt, rd_newm_lt, own_newm_lt, mp_newm_lt, rd_wr_ne, own_wr_ne, mp_wr_ne, rd_wrm_ne, own_wrm_ne, mp_wrm_ne, rd_new_eq, own_new_eq, mp_newm_eq, rd_of_own o6]
            refine And.intro oq ?_
            simp (disch := (first | omega | (simp only [size_new, size_newm, size_wr, size_wrm] <;> omega) | fail)) only [go_sem, Nat.reduceBEq, Nat.reduceAdd, Nat.reduceMul, Nat.reduceLeDiff, ↓reduceIte, rd_new_lt, own_new_lt, mp_new_lt, rd_newm_lt, own_newm_lt, mp_newm_lt, rd_wr_ne, own_wr_ne, mp_wr_ne, rd_wrm_ne, own_wrm_ne, mp_wrm_ne, rd_new_eq, own_new_eq, mp_newm_eq]
            refine And.intro oql ?_
            simp (disch := (first | omega | (simp only [size_new, size_newm, size_wr, size_wrm] <;> omega) | fail)) only [go_sem, Nat.reduceBEq, Nat.reduceAdd, Nat.reduceMul, Nat.reduceLeDiff, ↓reduceIte, rd_new_lt, own_new_lt, mp_new_lt, rd_newm_lt, own_newm_lt, mp_newm_lt, rd_wr_ne, own_wr_ne, mp_wr_ne, rd_wrm_ne, own_wrm_ne, mp_wrm_ne, rd_new_eq, own_new_eq, mp_newm_eq]
            generalize H6.new 51 [i64 na, i64 nb, i64 nc] = H8 at *
            refine Sl.append s8 sl8.rd rfl (ones_ed [⟨na, nb, nc⟩]) (by omega) ?_
            intro v9 H9 fp9 s9 e9 hfp9
            obtain ⟨k1, k2, k3, k4, k5, k6, k7⟩ := fin v9 H9 fp9 s9 e9 hfp9
            obtain ⟨sa9, sc9, rfl, hsc9⟩ := slv_val s9
            refine And.intro k1 ?_
            simp (disch := (first | omega | (simp only [size_new, size_newm, size_wr, size_wrm] <;> omega) | fail)) only [go_sem, Nat.reduceBEq, Nat.reduceAdd, Nat.reduceMul, Nat.reduceLeDiff, ↓reduceIte, rd_new_lt, own_new_lt, mp_new_lt, rd_newm_lt, own_newm_lt, mp_newm_lt, rd_wr_ne, own_wr_ne, mp_wr_ne, rd_wrm_ne, own_wrm_ne, mp_wrm_ne, rd_new_eq, own_new_eq, mp_newm_eq, k2]
            refine And.intro (by first | exact k3 | exact k1) ?_
            simp (disch := (first | omega | (simp only [size_new, size_newm, size_wr, size_wrm] <;> omega) | fail)) only [go_sem, Nat.reduceBEq, Nat.reduceAdd, Nat.reduceMul, Nat.reduceLeDiff, ↓reduceIte, rd_new_lt, own_new_lt, mp_new_lt, rd_newm_lt, own_newm_lt, mp_newm_lt, rd_wr_ne, own_wr_ne, mp_wr_ne, rd_wrm_ne, own_wrm_ne, mp_wrm_ne, rd_new_eq, own_new_eq, mp_newm_eq]
            rw [hw1]
            exact ⟨ls.length - (k + 1), by omega, k4, k + 1, n, acc ++ [Ed.mk na nb nc], _, fp9, rfl, by omega, by omega, fun _ => ⟨hn0, hn1, hpar⟩, by simp; omega, hok2, k5, k6, k7, rfl⟩
          · simp (disch := (first | omega | (simp only [size_new, size_newm, size_wr, size_wrm] <;> omega) | fail)) only [go_sem, Nat.reduceBEq, Nat.reduceAdd, Nat.reduceMul, Nat.reduceLeDiff, ↓reduceIte, rd_new_lt, own_new_lt, mp_new_lt, rd_newm_lt, own_newm_lt, mp_newm_lt, rd_wr_ne, own_wr_ne, mp_wr_ne, rd_wrm_ne, own_wrm_ne, mp_wrm_ne, rd_new_eq, own_new_eq, mp_newm_eq]
            refine And.intro oql ?_
            simp (disch := (first | omega | (simp only [size_new, size_newm, size_wr, size_wrm] <;> omega) | fail)) only [go_sem, Nat.reduceBEq, Nat.reduceAdd, Nat.reduceMul, Nat.reduceLeDiff, ↓reduceIte, rd_new_lt, own_new_lt, mp_new_lt, rd_newm_lt, own_newm_lt, mp_newm_lt, rd_wr_ne, own_wr_ne, mp_wr_ne, rd_wrm_ne, own_wrm_ne, mp_wrm_ne, rd_new_eq, own_new_eq, mp_newm_eq, rd_of_own o8]
            refine And.intro oql ?_
            simp (disch := (first | omega | (simp only [size_new, size_newm, size_wr, size_wrm] <;> omega) | fail)) only [go_sem, Nat.reduceBEq, Nat.reduceAdd, Nat.reduceMul, Nat.reduceLeDiff, ↓reduceIte, rd_new_lt, own_new_lt, mp_new_lt, rd_newm_lt, own_newm_lt, mp_newm_lt, rd_wr_ne, own_wr_ne, mp_wr_ne, rd_wrm_ne, own_wrm_ne, mp_wrm_ne, rd_new_eq, own_new_eq, mp_newm_eq]
            generalize H6.new 51 [i64 na, i64 nb, i64 nc] = H8 at *
            refine Sl.append s8 sl8.rd rfl (ones_ed [⟨na, nb, nc⟩]) (by omega) ?_
            intro v9 H9 fp9 s9 e9 hfp9
            obtain ⟨k1, k2, k3, k4, k5, k6, k7⟩ := fin v9 H9 fp9 s9 e9 hfp9
            obtain ⟨sa9, sc9, rfl, hsc9⟩ := slv_val s9
            refine And.intro k1 ?_
            simp (disch := (first | omega | (simp only [size_new, size_newm, size_wr, size_wrm] <;> omega) | fail)) only [go_sem, Nat.reduceBEq, Nat.reduceAdd, Nat.reduceMul, Nat.reduceLeDiff, ↓reduceIte, rd_new_lt, own_new_lt, mp_new_lt, rd_newm_lt, own_newm_lt, mp_newm_lt, rd_wr_ne, own_wr_ne, mp_wr_ne, rd_wrm_ne, own_wrm_ne, mp_wrm_ne, rd_new_eq, own_new_eq, mp_newm_eq, k2]
            refine And.intro (by first | exact k3 | exact k1) ?_
            simp (disch := (first | omega | (simp only [size_new, size_newm, size_wr, size_wrm] <;> omega) | fail)) only [go_sem, Nat.reduceBEq, Nat.reduceAdd, Nat.reduceMul, Nat.reduceLeDiff, ↓reduceIte, rd_new_lt, own_new_lt, mp_new_lt, rd_newm_lt, own_newm_lt, mp_newm_lt, rd_wr_ne, own_wr_ne, mp_wr_ne, rd_wrm_ne, own_wrm_ne, mp_wrm_ne, rd_new_eq, own_new_eq, mp_newm_eq]
            rw [hw1]
            exact ⟨ls.length - (k + 1), by omega, k4, k + 1, n, acc ++ [Ed.mk na nb nc], _, fp9, rfl, by omega, by omega, fun _ => ⟨hn0, hn1, hpar⟩, by simp; omega, hok2, k5, k6, k7, rfl⟩
      · have hk3 : k = ls.length := by omega
        refine Both.dec (fun c1 => ?_) (fun c1 => ?_) <;> simp (disch := (first | omega | (simp only [size_new, size_newm, size_wr, size_wrm] <;> omega) | fail)) only [go_sem, Nat.reduceBEq, Nat.reduceAdd, Nat.reduceMul, Nat.reduceLeDiff, ↓reduceIte, rd_new_lt, own_new_lt, mp_new_lt, rd_newm_lt, own_newm_lt, mp_newm_lt, rd_wr_ne, own_wr_ne, mp_wr_ne, rd_wrm_ne, own_wrm_ne, mp_wrm_ne, rd_new_eq, own_new_eq, mp_newm_eq]
        · have b7 := own_wr_same (l := [i64 0, .slice none 0 0]) b5
          have hnil : ls = [] := List.length_eq_zero_iff.1 (by omega)
          simp (disch := (first | omega | (simp only [size_new, size_newm, size_wr, size_wrm] <;> omega) | fail)) only [go_sem, Nat.reduceBEq, Nat.reduceAdd, Nat.reduceMul, Nat.reduceLeDiff, ↓reduceIte, rd_new_lt, own_new_lt, mp_new_lt, rd_newm_lt, own_newm_lt, mp_newm_lt, rd_wr_ne, own_wr_ne, mp_wr_ne, rd_wrm_ne, own_wrm_ne, mp_wrm_ne, rd_new_eq, own_new_eq, mp_newm_eq, b5, rd_of_own b7]
          refine ⟨.inr ⟨1, by rw [hnil]; rfl, by omega, rfl⟩, fz (Ext.refl _ _)⟩
        · obtain ⟨hn0, hn1, hpar⟩ := hk1 (by omega)
          rw [hk3, List.drop_length] at hpar
          have b7 := own_wr_same (l := [i64 n, .slice sa acc.length sc]) b5
          have f7 : Fresh H (H5.wr H.size [i64 n, .slice sa acc.length sc]) := (f0.trans (f3.trans f5)).then ((Ext.refl (fun z => z = H.size) _).wr (fun _ => rfl) _) (fun z hz => by omega)
          simp (disch := (first | omega | (simp only [size_new, size_newm, size_wr, size_wrm] <;> omega) | fail)) only [go_sem, Nat.reduceBEq, Nat.reduceAdd, Nat.reduceMul, Nat.reduceLeDiff, ↓reduceIte, rd_new_lt, own_new_lt, mp_new_lt, rd_newm_lt, own_newm_lt, mp_newm_lt, rd_wr_ne, own_wr_ne, mp_wr_ne, rd_wrm_ne, own_wrm_ne, mp_wrm_ne, rd_new_eq, own_new_eq, mp_newm_eq, rd_of_own o5, b5, rd_of_own b7]
          refine ⟨.inl ⟨n, acc, _, fp, ?_, hn0, hn1, hal, hok, rfl, s5.ext ((Ext.refl (fun z => z = H.size) _).wr (fun _ => rfl) _) (fun b hb h => by have := hfp b hb; omega), fun b hb => by have := hfp b hb; omega⟩, f7⟩
          rw [hpar]
          rfl

end Go.Proofs.YtkcpoiploighiaaDoor
