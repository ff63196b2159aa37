/-
  The law GraphBack answers true.
-/
import Derived.Test.YtkcpoiploighiaaDoorGraphE
import Derived.Test.YtkcpoiploighiaaDoorGraphT2
import Derived.Test.YtkcpoiploighiaaDoorGraphD
import Derived.Test.YtkcpoiploighiaaDoorGraphArg
import Derived.Test.YtkcpoiploighiaaDoorSumV
import Derived.Test.YtkcpoiploighiaaDoorAlive21
set_option linter.unusedVariables false
set_option linter.unusedSimpArgs false
namespace Go.Proofs.YtkcpoiploighiaaDoor
open Go Go.Vc

def backL (l : List Int) : List Int := l.flatMap fun x => [x, 0]
theorem backL_sum (l : List Int) : (backL l).sum = l.sum := by
  induction l with
  | nil => rfl
  | cons x l ih => show ([x, 0] ++ backL l).sum = _; rw [List.sum_append, ih, List.sum_cons]; simp
theorem backL_len (l : List Int) : (backL l).length = 2 * l.length := by
  induction l with
  | nil => rfl
  | cons x l ih => show ([x, 0] ++ backL l).length = _; rw [List.length_append, ih, List.length_cons]; simp; omega
theorem backL_app (a b : List Int) : backL (a ++ b) = backL a ++ backL b := List.flatMap_append ..
theorem backL_mem {l : List Int} {y : Int} (h : y ∈ backL l) : y ∈ l ∨ y = 0 := by
  obtain ⟨x, hx, h⟩ := List.mem_flatMap.1 h
  simp only [List.mem_cons, List.not_mem_nil, or_false] at h
  rcases h with rfl | rfl
  · exact .inl hx
  · exact .inr rfl
theorem sum_rev (l : List Int) : l.reverse.sum = l.sum := by
  induction l with
  | nil => rfl
  | cons x l ih => rw [List.reverse_cons, List.sum_append, ih, List.sum_cons]; simp; omega

theorem ones_ints (l : List Int) : allOne (l.map i64) := fun v hv => by
  obtain ⟨x, _, rfl⟩ := List.mem_map.1 hv
  rfl

theorem sum_eq (a b a' b' : Int) : eqVs [(0, (none, .int)), (1, (none, .int))] [i64 a, u64 b] [i64 a', u64 b'] = some (decide (a = a') && decide (b = b')) := by
  by_cases h1 : a = a' <;> by_cases h2 : b = b' <;> simp [eqVs, partL, eqV, simpleEq, h1, h2]

set_option maxHeartbeats 4000000 in
theorem law21_GraphBack_args {Hh : Hp} (he : ErrH Hh) {v0 v1 : Value} (h0 : fitA Hh (true, [.k (.i .i64), .sl [.i .i64, .i .i64, .i .i64]]) v0) (h1 : fitA Hh (false, [.sl [.i .i64]]) v1) : CallH Tryd.prog n_law21_GraphBack [v0, v1] Hh fun v H' => Post (v = .bool true ∧ Fresh Hh H') := by
  obtain ⟨n, es, a, c, rfl, hr, hac, hmax, hn, hes⟩ := fitA_graph h0
  obtain ⟨rows, hx0, hrows, hrl, ax, cx, rfl, hax⟩ := fitA_slc h1
  obtain ⟨xs, e1, e2, hx⟩ := rows_ints hrows
  rw [e1, ← e2] at hx0
  rw [← e2] at hax ⊢
  have hx0 : RdS Hh 1 (.slice ax xs.length cx) xs.length (xs.map i64) := hx0
  clear e1 e2 hrows hrl h0 h1
  have hx' := fun x h => wf_i64 (hx x h)
  refine c_law21_GraphBack ⟨rfl, ?_⟩
  have f0 : Fresh Hh (Hh.new 35 [i64 n, .slice a es.length c]) := (Ext.refl _ _).new _ _
  have b0 := own_new Hh 35 [i64 n, .slice a es.length c]
  simp (disch := (first | omega | (simp only [size_new, size_newm, size_wr, size_wrm] <;> omega) | fail)) only [go_sem, Nat.reduceBEq, Nat.reduceAdd, Nat.reduceMul, Nat.reduceLeDiff, ↓reduceIte, rd_new_lt, own_new_lt, mp_new_lt, rd_newm_lt, own_newm_lt, mp_newm_lt, rd_wr_ne, own_wr_ne, mp_wr_ne, rd_wrm_ne, own_wrm_ne, mp_wrm_ne, rd_new_eq, own_new_eq, mp_newm_eq, s_law21_GraphBack, grV]
  generalize Hh.new 35 [i64 n, .slice a es.length c] = H0 at *
  refine (law21_graphAlive_spec (he.fresh f0)).mono ?_
  rintro _ H1 ⟨rfl, f1⟩
  have b1 := f1.own b0 (fun h => h)
  simp (disch := (first | omega | (simp only [size_new, size_newm, size_wr, size_wrm] <;> omega) | fail)) only [go_sem, Nat.reduceBEq, Nat.reduceAdd, Nat.reduceMul, Nat.reduceLeDiff, ↓reduceIte, rd_new_lt, own_new_lt, mp_new_lt, rd_newm_lt, own_newm_lt, mp_newm_lt, rd_wr_ne, own_wr_ne, mp_wr_ne, rd_wrm_ne, own_wrm_ne, mp_wrm_ne, rd_new_eq, own_new_eq, mp_newm_eq, rd_of_own b1]
  refine (law21_great_spec H1 n a es.length c).mono ?_
  rintro _ H2 ⟨rfl, f2⟩
  have b2 := f2.own b1 (fun h => h)
  have f02 := f0.trans (f1.trans f2)
  simp (disch := (first | omega | (simp only [size_new, size_newm, size_wr, size_wrm] <;> omega) | fail)) only [go_sem, Nat.reduceBEq, Nat.reduceAdd, Nat.reduceMul, Nat.reduceLeDiff, ↓reduceIte, rd_new_lt, own_new_lt, mp_new_lt, rd_newm_lt, own_newm_lt, mp_newm_lt, rd_wr_ne, own_wr_ne, mp_wr_ne, rd_wrm_ne, own_wrm_ne, mp_wrm_ne, rd_new_eq, own_new_eq, mp_newm_eq]
  refine Both.dec (fun g1 => ?_) (fun g1 => ?_) <;> simp (disch := (first | omega | (simp only [size_new, size_newm, size_wr, size_wrm] <;> omega) | fail)) only [go_sem, Nat.reduceBEq, Nat.reduceAdd, Nat.reduceMul, Nat.reduceLeDiff, ↓reduceIte, rd_new_lt, own_new_lt, mp_new_lt, rd_newm_lt, own_newm_lt, mp_newm_lt, rd_wr_ne, own_wr_ne, mp_wr_ne, rd_wrm_ne, own_wrm_ne, mp_wrm_ne, rd_new_eq, own_new_eq, mp_newm_eq, rd_of_own b2]
  · exact ⟨rfl, f02⟩
  refine Both.dec (fun g2 => ?_) (fun g2 => ?_) <;> simp (disch := (first | omega | (simp only [size_new, size_newm, size_wr, size_wrm] <;> omega) | fail)) only [go_sem, Nat.reduceBEq, Nat.reduceAdd, Nat.reduceMul, Nat.reduceLeDiff, ↓reduceIte, rd_new_lt, own_new_lt, mp_new_lt, rd_newm_lt, own_newm_lt, mp_newm_lt, rd_wr_ne, own_wr_ne, mp_wr_ne, rd_wrm_ne, own_wrm_ne, mp_wrm_ne, rd_new_eq, own_new_eq, mp_newm_eq, rd_of_own b2]
  · exact ⟨rfl, f02⟩
  refine Both.dec (fun g3 => ?_) (fun g3 => ?_) <;> simp (disch := (first | omega | (simp only [size_new, size_newm, size_wr, size_wrm] <;> omega) | fail)) only [go_sem, Nat.reduceBEq, Nat.reduceAdd, Nat.reduceMul, Nat.reduceLeDiff, ↓reduceIte, rd_new_lt, own_new_lt, mp_new_lt, rd_newm_lt, own_newm_lt, mp_newm_lt, rd_wr_ne, own_wr_ne, mp_wr_ne, rd_wrm_ne, own_wrm_ne, mp_wrm_ne, rd_new_eq, own_new_eq, mp_newm_eq, rd_of_own b2]
  · exact ⟨rfl, f02⟩
  have hm : es.length ≤ 1000000000 := by omega
  have hEd : ∀ e ∈ es, EdR e := hes
  refine (graph_Text_spec (he.fresh f02).tab (hr.fresh f02) hm hn hEd).mono ?_
  rintro _ Ht ⟨rfl, ft⟩
  have bt := ft.own b2 (fun h => h)
  have htl := textG_len (es := es) hn hEd
  have hlt : (if rightG n es = true then textG n es else []).length ≤ 1000000 := by split <;> (try simp only [List.length_nil]) <;> omega
  generalize htx : (if rightG n es = true then textG n es else []) = tx at *
  simp (disch := (first | omega | (simp only [size_new, size_newm, size_wr, size_wrm] <;> omega) | fail)) only [go_sem, Nat.reduceBEq, Nat.reduceAdd, Nat.reduceMul, Nat.reduceLeDiff, ↓reduceIte, rd_new_lt, own_new_lt, mp_new_lt, rd_newm_lt, own_newm_lt, mp_newm_lt, rd_wr_ne, own_wr_ne, mp_wr_ne, rd_wrm_ne, own_wrm_ne, mp_wrm_ne, rd_new_eq, own_new_eq, mp_newm_eq]
  refine (graph_Parse_spec ((he.fresh f02).fresh ft) tx hlt).mono ?_
  rintro _ H3 ⟨d3, f3⟩
  obtain ⟨a3, c3, fp3, rfl, s3, hfp3, hle3⟩ := d3.all
  clear d3
  have b3 := f3.own bt (fun h => h)
  generalize hp : parseL (linesOf tx) = p at *
  have q4 := own_new H3 35 [i64 0, .slice none 0 0]
  have f5 : Fresh H3 ((H3.new 35 [i64 0, .slice none 0 0]).wr H3.size [i64 (gN p), .slice a3 (gE p).length c3]) := ((Ext.refl _ _).new _ _ : Fresh H3 _).then ((Ext.refl (fun z => z = H3.size) _).wr (fun _ => rfl) _) (fun z hz => by omega)
  have b5 := f5.own b3 (fun h => h)
  have hzz := own_lt b3
  simp (disch := (first | omega | (simp only [size_new, size_newm, size_wr, size_wrm] <;> omega) | fail)) only [go_sem, Nat.reduceBEq, Nat.reduceAdd, Nat.reduceMul, Nat.reduceLeDiff, ↓reduceIte, rd_new_lt, own_new_lt, mp_new_lt, rd_newm_lt, own_newm_lt, mp_newm_lt, rd_wr_ne, own_wr_ne, mp_wr_ne, rd_wrm_ne, own_wrm_ne, mp_wrm_ne, rd_new_eq, own_new_eq, mp_newm_eq, q4, rd_of_own b3, rd_of_own b5]
  have q5 := own_wr_same (l := [i64 (gN p), .slice a3 (gE p).length c3]) q4
  have s5 := s3.ext f5 (fun _ _ h => h)
  generalize (H3.new 35 [i64 0, .slice none 0 0]).wr H3.size [i64 (gN p), .slice a3 (gE p).length c3] = H5 at *
  have f25 := ft.trans (f3.trans f5)
  have hr5 := (hr.fresh f02).fresh f25
  refine (graph_Check_spec (n := n) hr5 hm).mono ?_
  rintro _ H6 ⟨rfl, f6⟩
  have q6 := f6.own q5 (fun h => h)
  have b6 := f6.own b5 (fun h => h)
  have s6 := s5.ext f6 (fun _ _ h => h)
  have f26 := f25.trans f6
  by_cases hR : rightG n es = true
  rotate_left
  · rw [if_neg hR]
    rw [if_neg hR] at htx
    subst htx
    have hp0 : parseL (linesOf []) = (none, 1) := rfl
    rw [hp0] at hp
    subst hp
    simp (disch := (first | omega | (simp only [size_new, size_newm, size_wr, size_wrm] <;> omega) | fail)) only [go_sem, Nat.reduceBEq, Nat.reduceAdd, Nat.reduceMul, Nat.reduceLeDiff, ↓reduceIte, rd_new_lt, own_new_lt, mp_new_lt, rd_newm_lt, own_newm_lt, mp_newm_lt, rd_wr_ne, own_wr_ne, mp_wr_ne, rd_wrm_ne, own_wrm_ne, mp_wrm_ne, rd_new_eq, own_new_eq, mp_newm_eq, eq_bytes, decide_true]
    refine Both.dec (fun g4 => ?_) (fun g4 => ?_)
    · exact absurd g4 (by decide)
    have e2 : (gE (none, 1)).length = 0 := rfl
    have e3 : gN (none, 1) = 0 := rfl
    rw [e2, e3] at q6
    simp (disch := (first | omega | (simp only [size_new, size_newm, size_wr, size_wrm] <;> omega) | fail)) only [go_sem, Nat.reduceBEq, Nat.reduceAdd, Nat.reduceMul, Nat.reduceLeDiff, ↓reduceIte, rd_new_lt, own_new_lt, mp_new_lt, rd_newm_lt, own_newm_lt, mp_newm_lt, rd_wr_ne, own_wr_ne, mp_wr_ne, rd_wrm_ne, own_wrm_ne, mp_wrm_ne, rd_new_eq, own_new_eq, mp_newm_eq, decide_true, rd_of_own q6]
    refine Both.of_true (by simp) ?_
    simp (disch := (first | omega | (simp only [size_new, size_newm, size_wr, size_wrm] <;> omega) | fail)) only [go_sem, Nat.reduceBEq, Nat.reduceAdd, Nat.reduceMul, Nat.reduceLeDiff, ↓reduceIte, rd_new_lt, own_new_lt, mp_new_lt, rd_newm_lt, own_newm_lt, mp_newm_lt, rd_wr_ne, own_wr_ne, mp_wr_ne, rd_wrm_ne, own_wrm_ne, mp_wrm_ne, rd_new_eq, own_new_eq, mp_newm_eq, decide_true, rd_of_own q6]
    refine Both.of_true (by simp) ?_
    simp (disch := (first | omega | (simp only [size_new, size_newm, size_wr, size_wrm] <;> omega) | fail)) only [go_sem, Nat.reduceBEq, Nat.reduceAdd, Nat.reduceMul, Nat.reduceLeDiff, ↓reduceIte, rd_new_lt, own_new_lt, mp_new_lt, rd_newm_lt, own_newm_lt, mp_newm_lt, rd_wr_ne, own_wr_ne, mp_wr_ne, rd_wrm_ne, own_wrm_ne, mp_wrm_ne, rd_new_eq, own_new_eq, mp_newm_eq, decide_true, rd_of_own q6]
    exact ⟨congrArg Value.bool (by simp), f02.trans f26⟩
  rw [if_pos hR]
  rw [if_pos hR] at htx
  have hp1 := parse_text ((rightG_iff n es).1 hR) (fun e h => (hes e h).2.2)
  rw [htx, hp] at hp1
  subst hp1
  simp (disch := (first | omega | (simp only [size_new, size_newm, size_wr, size_wrm] <;> omega) | fail)) only [go_sem, Nat.reduceBEq, Nat.reduceAdd, Nat.reduceMul, Nat.reduceLeDiff, ↓reduceIte, rd_new_lt, own_new_lt, mp_new_lt, rd_newm_lt, own_newm_lt, mp_newm_lt, rd_wr_ne, own_wr_ne, mp_wr_ne, rd_wrm_ne, own_wrm_ne, mp_wrm_ne, rd_new_eq, own_new_eq, mp_newm_eq]
  refine Both.of_true (by simp) ?_
  simp (disch := (first | omega | (simp only [size_new, size_newm, size_wr, size_wrm] <;> omega) | fail)) only [go_sem, Nat.reduceBEq, Nat.reduceAdd, Nat.reduceMul, Nat.reduceLeDiff, ↓reduceIte, rd_new_lt, own_new_lt, mp_new_lt, rd_newm_lt, own_newm_lt, mp_newm_lt, rd_wr_ne, own_wr_ne, mp_wr_ne, rd_wrm_ne, own_wrm_ne, mp_wrm_ne, rd_new_eq, own_new_eq, mp_newm_eq]
  have e1 : gE (some (n, es), 0) = es := rfl
  have e2 : gN (some (n, es), 0) = n := rfl
  rw [e1, e2] at q6
  rw [e1] at s6
  have sl0 : Sl (H6.new 2 []) 1 (.slice (some ⟨H6.size, 0, none⟩) 0 0) 0 ((backL (xs.drop xs.length).reverse).map i64) (some H6.size) := by rw [List.drop_length]; exact Sl.lit_at (size := 1) (n := 0) (xs := []) rfl rfl
  have fl0 : Fresh H6 (H6.new 2 []) := (Ext.refl _ _).new _ _
  generalize H6.new 2 [] = H7 at *
  rw [wrap64 (n := (xs.length : Int) - 1) (by omega) (by omega)]
  refine LoopV.intro (fun m env H' => Fresh H6 H' ∧ ∃ (v : Value) (b : Nat), m ≤ xs.length ∧ H6.size ≤ b ∧ Sl H' 1 v (backL (xs.drop m).reverse).length ((backL (xs.drop m).reverse).map i64) (some b) ∧
    env = [(1, .slice ax xs.length cx), (2, ptr Hh.size), (6, ptr H3.size), (7, i64 0), (8, v), (9, i64 ((m : Int) - 1))]) xs.length ⟨fl0, _, H6.size, by omega, by omega, by rw [show (backL (xs.drop xs.length).reverse).length = 0 by rw [List.drop_length]; rfl]; exact sl0, rfl⟩ ?_
  rintro m env H8 ⟨f8, v, b, hm8, hb8, s8, rfl⟩
  have hx8 := (hx0.fresh f02).fresh (f26.trans f8)
  simp (disch := (first | omega | (simp only [size_new, size_newm, size_wr, size_wrm] <;> omega) | fail)) only [go_sem, Nat.reduceBEq, Nat.reduceAdd, Nat.reduceMul, Nat.reduceLeDiff, ↓reduceIte, rd_new_lt, own_new_lt, mp_new_lt, rd_newm_lt, own_newm_lt, mp_newm_lt, rd_wr_ne, own_wr_ne, mp_wr_ne, rd_wrm_ne, own_wrm_ne, mp_wrm_ne, rd_new_eq, own_new_eq, mp_newm_eq]
  refine Both.dec (fun g4 => ?_) (fun g4 => ?_) <;> simp (disch := (first | omega | (simp only [size_new, size_newm, size_wr, size_wrm] <;> omega) | fail)) only [go_sem, Nat.reduceBEq, Nat.reduceAdd, Nat.reduceMul, Nat.reduceLeDiff, ↓reduceIte, rd_new_lt, own_new_lt, mp_new_lt, rd_newm_lt, own_newm_lt, mp_newm_lt, rd_wr_ne, own_wr_ne, mp_wr_ne, rd_wrm_ne, own_wrm_ne, mp_wrm_ne, rd_new_eq, own_new_eq, mp_newm_eq]
  · obtain ⟨j, rfl⟩ : ∃ j, m = j + 1 := ⟨m - 1, by omega⟩
    obtain ⟨x, hxj⟩ : ∃ x, xs[j]? = some x := ⟨_, List.getElem?_eq_getElem (by omega)⟩
    have hjj : ((j + 1 : Nat) : Int) - 1 = (j : Int) := by omega
    rw [hjj]
    obtain ⟨_, ⟨h0, _⟩ | ⟨bx, o, c2, lb, hs, hrd, hle, htake⟩⟩ := id hx8
    · omega
    injection hs with hs1 hs2 hs3
    subst hs1
    have hcell : lb[o + j]? = some (i64 x) := by
      have : (xs.map i64)[j]? = some (i64 x) := by rw [List.getElem?_map, hxj]; rfl
      rw [← htake, List.getElem?_take, if_pos (by omega), List.getElem?_drop] at this
      exact this
    refine ⟨⟨by omega, by omega⟩, ?_⟩
    simp (disch := (first | omega | (simp only [size_new, size_newm, size_wr, size_wrm] <;> omega) | fail)) only [go_sem, Nat.reduceBEq, Nat.reduceAdd, Nat.reduceMul, Nat.reduceLeDiff, ↓reduceIte, rd_new_lt, own_new_lt, mp_new_lt, rd_newm_lt, own_newm_lt, mp_newm_lt, rd_wr_ne, own_wr_ne, mp_wr_ne, rd_wrm_ne, own_wrm_ne, mp_wrm_ne, rd_new_eq, own_new_eq, mp_newm_eq, hrd, Int.toNat_natCast, Nat.mul_one, hcell]
    have fl : Fresh H8 (H8.new 2 [i64 x, i64 0]) := (Ext.refl _ _).new _ _
    have hbl := backL_len (xs.drop (j + 1)).reverse
    rw [List.length_reverse, List.length_drop] at hbl
    refine Sl.append (s8.ext fl (fun _ _ h => h)) (Sl.lit_at (size := 1) (n := 2) (xs := [i64 x, i64 0]) rfl rfl).rd rfl (ones_ints [x, 0]) (by omega) ?_
    intro v' H' fp' s9 e9 hfp
    obtain ⟨b9, rfl, hb9⟩ : ∃ b', fp' = some b' ∧ H6.size ≤ b' := by
      rcases hfp with rfl | ⟨b', rfl, h1, h2⟩
      · exact ⟨b, rfl, hb8⟩
      · exact ⟨b', rfl, Nat.le_trans (f8.trans fl).size h1⟩
    have hdr : (xs.drop j).reverse = (xs.drop (j + 1)).reverse ++ [x] := by
      have hj3 : j < xs.length := by omega
      rw [List.drop_eq_getElem_cons hj3, List.reverse_cons]
      rw [List.getElem?_eq_getElem hj3] at hxj
      injection hxj with hxj
      rw [hxj]
    have ebk : backL (xs.drop j).reverse = backL (xs.drop (j + 1)).reverse ++ [x, 0] := by rw [hdr, backL_app]; rfl
    simp (disch := (first | omega | (simp only [size_new, size_newm, size_wr, size_wrm] <;> omega) | fail)) only [go_sem, Nat.reduceBEq, Nat.reduceAdd, Nat.reduceMul, Nat.reduceLeDiff, ↓reduceIte, rd_new_lt, own_new_lt, mp_new_lt, rd_newm_lt, own_newm_lt, mp_newm_lt, rd_wr_ne, own_wr_ne, mp_wr_ne, rd_wrm_ne, own_wrm_ne, mp_wrm_ne, rd_new_eq, own_new_eq, mp_newm_eq]
    rw [wrap64 (n := (j : Int) - 1) (by omega) (by omega)]
    exact ⟨j, by omega, (f8.trans fl).then e9 (fun z (hz : some b = some z) => by injection hz with hz; omega), v', b9, by omega, hb9, by rw [ebk, List.map_append, List.length_append]; exact s9, rfl⟩
  · have hm0 : m = 0 := by omega
    subst hm0
    rw [List.drop_zero] at s8
    have b8 := f8.own b6 (fun h => h)
    have q8 := f8.own q6 (fun h => h)
    have r8 := (s6.ext f8 (fun _ _ h => h)).rd
    have hr8 := (hr.fresh f02).fresh (f26.trans f8)
    refine Both.of_true (by simp) ?_
    simp (disch := (first | omega | (simp only [size_new, size_newm, size_wr, size_wrm] <;> omega) | fail)) only [go_sem, Nat.reduceBEq, Nat.reduceAdd, Nat.reduceMul, Nat.reduceLeDiff, ↓reduceIte, rd_new_lt, own_new_lt, mp_new_lt, rd_newm_lt, own_newm_lt, mp_newm_lt, rd_wr_ne, own_wr_ne, mp_wr_ne, rd_wrm_ne, own_wrm_ne, mp_wrm_ne, rd_new_eq, own_new_eq, mp_newm_eq, rd_of_own b8, rd_of_own q8]
    refine (ref21_Same_spec (n := n) (m := n) hr8 r8 hm).mono ?_
    rintro _ H9 ⟨rfl, f9⟩
    rw [decide_eq_true rfl, decide_eq_true rfl]
    simp (disch := (first | omega | (simp only [size_new, size_newm, size_wr, size_wrm] <;> omega) | fail)) only [go_sem, Nat.reduceBEq, Nat.reduceAdd, Nat.reduceMul, Nat.reduceLeDiff, ↓reduceIte, rd_new_lt, own_new_lt, mp_new_lt, rd_newm_lt, own_newm_lt, mp_newm_lt, rd_wr_ne, own_wr_ne, mp_wr_ne, rd_wrm_ne, own_wrm_ne, mp_wrm_ne, rd_new_eq, own_new_eq, mp_newm_eq, Bool.and_true]
    obtain ⟨av, cv, rfl, _⟩ := slv_val s8
    have hbl := backL_len xs.reverse
    rw [List.length_reverse] at hbl
    have hxb : ∀ y ∈ backL xs.reverse, -9223372036854775808 ≤ y ∧ y ≤ 9223372036854775807 := fun y hy => by
      rcases backL_mem hy with hy | rfl
      · exact hx' y (List.mem_reverse.1 hy)
      · omega
    refine (graph_Total_spec (hx8.fresh f9) (by omega) hx').mono ?_
    rintro _ H10 ⟨rfl, f10⟩
    simp (disch := (first | omega | (simp only [size_new, size_newm, size_wr, size_wrm] <;> omega) | fail)) only [go_sem, Nat.reduceBEq, Nat.reduceAdd, Nat.reduceMul, Nat.reduceLeDiff, ↓reduceIte, rd_new_lt, own_new_lt, mp_new_lt, rd_newm_lt, own_newm_lt, mp_newm_lt, rd_wr_ne, own_wr_ne, mp_wr_ne, rd_wrm_ne, own_wrm_ne, mp_wrm_ne, rd_new_eq, own_new_eq, mp_newm_eq]
    refine (graph_Total_spec ((s8.ext (f9.trans f10) (fun _ _ h => h)).rd) (by omega) hxb).mono ?_
    rintro _ H11 ⟨rfl, f11⟩
    rw [totS_val hx' (by omega), totS_val hxb (by omega), backL_sum, sum_rev]
    simp (disch := (first | omega | (simp only [size_new, size_newm, size_wr, size_wrm] <;> omega) | fail)) only [go_sem, Nat.reduceBEq, Nat.reduceAdd, Nat.reduceMul, Nat.reduceLeDiff, ↓reduceIte, rd_new_lt, own_new_lt, mp_new_lt, rd_newm_lt, own_newm_lt, mp_newm_lt, rd_wr_ne, own_wr_ne, mp_wr_ne, rd_wrm_ne, own_wrm_ne, mp_wrm_ne, rd_new_eq, own_new_eq, mp_newm_eq, sumV]
    rw [sum_eq, Option.map_some]
    simp (disch := (first | omega | (simp only [size_new, size_newm, size_wr, size_wrm] <;> omega) | fail)) only [go_sem, Nat.reduceBEq, Nat.reduceAdd, Nat.reduceMul, Nat.reduceLeDiff, ↓reduceIte, rd_new_lt, own_new_lt, mp_new_lt, rd_newm_lt, own_newm_lt, mp_newm_lt, rd_wr_ne, own_wr_ne, mp_wr_ne, rd_wrm_ne, own_wrm_ne, mp_wrm_ne, rd_new_eq, own_new_eq, mp_newm_eq]
    exact ⟨congrArg Value.bool (by simp), f02.trans (f26.trans (f8.trans (f9.trans (f10.trans f11))))⟩

end Go.Proofs.YtkcpoiploighiaaDoor
