/-
  A graph's text, as the program writes it.
-/
import Derived.Test.YtkcpoiploighiaaDoorGraphT
import Derived.Test.YtkcpoiploighiaaDoorGraphC2
import Derived.Test.YtkcpoiploighiaaDoorBld
set_option linter.unusedVariables false
set_option linter.unusedSimpArgs false
namespace Go.Proofs.YtkcpoiploighiaaDoor
open Go Go.Vc

theorem lineW_take (word : List UInt8) (l : List Int) {j : Nat} {n : Int} (h : l[j]? = some n) : lineW word (l.take (j + 1)) = lineW word (l.take j) ++ 32 :: Lib.itoa n := by
  have htk : l.take (j + 1) = l.take j ++ [n] := by rw [List.take_add_one, h]; rfl
  unfold lineW
  rw [htk]
  simp

set_option maxHeartbeats 1000000 in
theorem graph_line_spec {H : Hp} (ht : TabH H) (word : List UInt8) {a : Option Addr} {c : Nat} {l : List Int} (h : RdS H 1 (.slice a l.length c) l.length (l.map i64)) (hw : word.length ≤ 1000) (hl : l.length ≤ 1000) (hr : ∀ n ∈ l, -9223372036854775808 ≤ n ∧ n ≤ 9223372036854775807) :
    CallH Tryd.prog n_graph_line [strV word, .slice a l.length c] H fun v H' => Post (v = strV (lineW word l ++ [10]) ∧ Fresh H H') := by
  refine c_graph_line ⟨rfl, ?_⟩
  simp (disch := (first | omega | (simp only [size_new, size_newm, size_wr, size_wrm] <;> omega) | fail)) only [go_sem, Nat.reduceBEq, Nat.reduceAdd, Nat.reduceMul, Nat.reduceLeDiff, ↓reduceIte, rd_new_lt, own_new_lt, mp_new_lt, rd_newm_lt, own_newm_lt, mp_newm_lt, rd_wr_ne, own_wr_ne, mp_wr_ne, rd_wrm_ne, own_wrm_ne, mp_wrm_ne, rd_new_eq, own_new_eq, mp_newm_eq, s_graph_line]
  refine LoopV.intro (fun m env H' => Fresh H H' ∧ ∃ j : Nat, m = l.length - j ∧ j ≤ l.length ∧ env = [(0, strV (lineW word (l.take j))), (7, .slice a l.length c), (8, i64 l.length), (9, i64 j)]) l.length ⟨Ext.refl _ _, 0, by omega, by omega, by simp [lineW]⟩ ?_
  rintro m env H1 ⟨f1, j, hmj, hj, rfl⟩
  have h1 := h.fresh f1
  have hlen : ∀ k, (lineW word (l.take k)).length ≤ 1000 + 22 * 1000 := fun k => by
    have := lineW_len word (l.take k) (fun n hn => hr n (List.mem_of_mem_take hn))
    rw [List.length_take] at this
    omega
  simp (disch := (first | omega | (simp only [size_new, size_newm, size_wr, size_wrm] <;> omega) | fail)) only [go_sem, Nat.reduceBEq, Nat.reduceAdd, Nat.reduceMul, Nat.reduceLeDiff, ↓reduceIte, rd_new_lt, own_new_lt, mp_new_lt, rd_newm_lt, own_newm_lt, mp_newm_lt, rd_wr_ne, own_wr_ne, mp_wr_ne, rd_wrm_ne, own_wrm_ne, mp_wrm_ne, rd_new_eq, own_new_eq, mp_newm_eq]
  refine Both.dec (fun hlt => ?_) (fun hlt => ?_) <;> simp (disch := (first | omega | (simp only [size_new, size_newm, size_wr, size_wrm] <;> omega) | fail)) only [go_sem, Nat.reduceBEq, Nat.reduceAdd, Nat.reduceMul, Nat.reduceLeDiff, ↓reduceIte, rd_new_lt, own_new_lt, mp_new_lt, rd_newm_lt, own_newm_lt, mp_newm_lt, rd_wr_ne, own_wr_ne, mp_wr_ne, rd_wrm_ne, own_wrm_ne, mp_wrm_ne, rd_new_eq, own_new_eq, mp_newm_eq]
  · have hj2 : j < l.length := by omega
    obtain ⟨n, hn⟩ : ∃ n, l[j]? = some n := ⟨_, List.getElem?_eq_getElem hj2⟩
    obtain ⟨hn0, hn1⟩ := hr n (List.mem_of_getElem? hn)
    obtain ⟨_, ⟨h0, _⟩ | ⟨b, o, c2, lb, hs, hrd, hle, htake⟩⟩ := id h1
    · omega
    injection hs with hs1 hs2 hs3
    subst hs1
    have hcell : lb[o + j]? = some (i64 n) := by
      have : (l.map i64)[j]? = some (i64 n) := by rw [List.getElem?_map, hn]; rfl
      rw [← htake, List.getElem?_take, if_pos (by omega), List.getElem?_drop] at this
      exact this
    refine ⟨⟨by omega, by omega⟩, ?_⟩
    simp (disch := (first | omega | (simp only [size_new, size_newm, size_wr, size_wrm] <;> omega) | fail)) only [go_sem, Nat.reduceBEq, Nat.reduceAdd, Nat.reduceMul, Nat.reduceLeDiff, ↓reduceIte, rd_new_lt, own_new_lt, mp_new_lt, rd_newm_lt, own_newm_lt, mp_newm_lt, rd_wr_ne, own_wr_ne, mp_wr_ne, rd_wrm_ne, own_wrm_ne, mp_wrm_ne, rd_new_eq, own_new_eq, mp_newm_eq, hrd, Int.toNat_natCast, Nat.mul_one, hcell]
    refine (entry_Digits_spec (ht.fresh f1) hn0 hn1).mono ?_
    rintro _ H2 ⟨rfl, f2⟩
    have hil := itoa_len hn0 hn1
    have := hlen j
    simp (disch := (first | omega | (simp only [size_new, size_newm, size_wr, size_wrm] <;> omega) | fail)) only [go_sem, Nat.reduceBEq, Nat.reduceAdd, Nat.reduceMul, Nat.reduceLeDiff, ↓reduceIte, rd_new_lt, own_new_lt, mp_new_lt, rd_newm_lt, own_newm_lt, mp_newm_lt, rd_wr_ne, own_wr_ne, mp_wr_ne, rd_wrm_ne, own_wrm_ne, mp_wrm_ne, rd_new_eq, own_new_eq, mp_newm_eq]
    rw [cat_big [32] (Lib.itoa n) (by simp only [List.length_cons, List.length_nil]; omega)]
    simp (disch := (first | omega | (simp only [size_new, size_newm, size_wr, size_wrm] <;> omega) | fail)) only [go_sem, Nat.reduceBEq, Nat.reduceAdd, Nat.reduceMul, Nat.reduceLeDiff, ↓reduceIte, rd_new_lt, own_new_lt, mp_new_lt, rd_newm_lt, own_newm_lt, mp_newm_lt, rd_wr_ne, own_wr_ne, mp_wr_ne, rd_wrm_ne, own_wrm_ne, mp_wrm_ne, rd_new_eq, own_new_eq, mp_newm_eq]
    rw [cat_big (lineW word (l.take j)) ([32] ++ Lib.itoa n) (by simp only [List.length_append, List.length_cons, List.length_nil]; omega)]
    have e1 : lineW word (l.take j) ++ ([32] ++ Lib.itoa n) = lineW word (l.take (j + 1)) := by rw [lineW_take word l hn]; simp
    rw [e1]
    simp (disch := (first | omega | (simp only [size_new, size_newm, size_wr, size_wrm] <;> omega) | fail)) only [go_sem, Nat.reduceBEq, Nat.reduceAdd, Nat.reduceMul, Nat.reduceLeDiff, ↓reduceIte, rd_new_lt, own_new_lt, mp_new_lt, rd_newm_lt, own_newm_lt, mp_newm_lt, rd_wr_ne, own_wr_ne, mp_wr_ne, rd_wrm_ne, own_wrm_ne, mp_wrm_ne, rd_new_eq, own_new_eq, mp_newm_eq]
    rw [wrap64 (n := (j : Int) + 1) (by omega) (by omega)]
    exact ⟨l.length - (j + 1), by omega, f1.trans f2, j + 1, rfl, by omega, rfl⟩
  · have hj2 : j = l.length := by omega
    subst hj2
    have := hlen l.length
    rw [List.take_length] at this ⊢
    rw [cat_big (lineW word l) [10] (by simp only [List.length_cons, List.length_nil]; omega)]
    simp (disch := (first | omega | (simp only [size_new, size_newm, size_wr, size_wrm] <;> omega) | fail)) only [go_sem, Nat.reduceBEq, Nat.reduceAdd, Nat.reduceMul, Nat.reduceLeDiff, ↓reduceIte, rd_new_lt, own_new_lt, mp_new_lt, rd_newm_lt, own_newm_lt, mp_newm_lt, rd_wr_ne, own_wr_ne, mp_wr_ne, rd_wrm_ne, own_wrm_ne, mp_wrm_ne, rd_new_eq, own_new_eq, mp_newm_eq]
    exact ⟨rfl, f1⟩

set_option maxHeartbeats 4000000 in
theorem graph_Text_spec {H : Hp} (ht : TabH H) {n : Int} {a : Option Addr} {c : Nat} {es : List Ed} (h : RdS H 3 (.slice a es.length c) es.length (flatE es)) (hm : es.length ≤ 1000000000) (hn : -9223372036854775808 ≤ n ∧ n ≤ 9223372036854775807) (hes : ∀ e ∈ es, EdR e) :
    CallH Tryd.prog n_graph_Text [grV n (.slice a es.length c)] H fun v H' => Post (v = strV (if rightG n es = true then textG n es else []) ∧ Fresh H H') := by
  refine c_graph_Text ⟨rfl, ?_⟩
  have f0 : Fresh H (H.new 35 [i64 n, .slice a es.length c]) := (Ext.refl _ _).new _ _
  have b0 := own_new H 35 [i64 n, .slice a es.length c]
  simp (disch := (first | omega | (simp only [size_new, size_newm, size_wr, size_wrm] <;> omega) | fail)) only [go_sem, Nat.reduceBEq, Nat.reduceAdd, Nat.reduceMul, Nat.reduceLeDiff, ↓reduceIte, rd_new_lt, own_new_lt, mp_new_lt, rd_newm_lt, own_newm_lt, mp_newm_lt, rd_wr_ne, own_wr_ne, mp_wr_ne, rd_wrm_ne, own_wrm_ne, mp_wrm_ne, rd_new_eq, own_new_eq, mp_newm_eq, s_graph_Text, grV]
  generalize H.new 35 [i64 n, .slice a es.length c] = H0 at *
  have h0 := h.fresh f0
  refine (graph_Check_spec (n := n) h0 hm).mono ?_
  rintro _ Hr ⟨rfl, fr⟩
  have br := fr.own b0 (fun h => h)
  by_cases hR : rightG n es = true
  rotate_left
  · rw [if_neg hR, if_neg hR]
    simp (disch := (first | omega | (simp only [size_new, size_newm, size_wr, size_wrm] <;> omega) | fail)) only [go_sem, Nat.reduceBEq, Nat.reduceAdd, Nat.reduceMul, Nat.reduceLeDiff, ↓reduceIte, rd_new_lt, own_new_lt, mp_new_lt, rd_newm_lt, own_newm_lt, mp_newm_lt, rd_wr_ne, own_wr_ne, mp_wr_ne, rd_wrm_ne, own_wrm_ne, mp_wrm_ne, rd_new_eq, own_new_eq, mp_newm_eq]
    exact ⟨rfl, f0.trans fr⟩
  rw [if_pos hR, if_pos hR]
  have hr0 := h0.fresh fr
  have f02 := f0.trans fr
  simp (disch := (first | omega | (simp only [size_new, size_newm, size_wr, size_wrm] <;> omega) | fail)) only [go_sem, Nat.reduceBEq, Nat.reduceAdd, Nat.reduceMul, Nat.reduceLeDiff, ↓reduceIte, rd_new_lt, own_new_lt, mp_new_lt, rd_newm_lt, own_newm_lt, mp_newm_lt, rd_wr_ne, own_wr_ne, mp_wr_ne, rd_wrm_ne, own_wrm_ne, mp_wrm_ne, rd_new_eq, own_new_eq, mp_newm_eq]
  refine Both.of_true (by simp) ?_
  simp (disch := (first | omega | (simp only [size_new, size_newm, size_wr, size_wrm] <;> omega) | fail)) only [go_sem, Nat.reduceBEq, Nat.reduceAdd, Nat.reduceMul, Nat.reduceLeDiff, ↓reduceIte, rd_new_lt, own_new_lt, mp_new_lt, rd_newm_lt, own_newm_lt, mp_newm_lt, rd_wr_ne, own_wr_ne, mp_wr_ne, rd_wrm_ne, own_wrm_ne, mp_wrm_ne, rd_new_eq, own_new_eq, mp_newm_eq, rd_of_own br]
  have hB := f02.size
  have bn := BldH.new (B := Hr.size) Hr (Nat.le_refl _)
  have fb : Fresh Hr (Hr.new 72 [.pointer none, .slice none 0 0]) := (Ext.refl _ _).new _ _
  have b1 := fb.own br (fun h => h)
  have hr1 := hr0.fresh fb
  generalize Hr.new 72 [.pointer none, .slice none 0 0] = Hb at *
  simp (disch := (first | omega | (simp only [size_new, size_newm, size_wr, size_wrm] <;> omega) | fail)) only [go_sem, Nat.reduceBEq, Nat.reduceAdd, Nat.reduceMul, Nat.reduceLeDiff, ↓reduceIte, rd_new_lt, own_new_lt, mp_new_lt, rd_newm_lt, own_newm_lt, mp_newm_lt, rd_wr_ne, own_wr_ne, mp_wr_ne, rd_wrm_ne, own_wrm_ne, mp_wrm_ne, rd_new_eq, own_new_eq, mp_newm_eq, rd_of_own b1]
  have fl : Fresh Hb (Hb.new 2 [i64 n]) := (Ext.refl _ _).new _ _
  have sl : RdS (Hb.new 2 [i64 n]) 1 (.slice (some ⟨Hb.size, 0, none⟩) ([n] : List Int).length 1) ([n] : List Int).length (([n] : List Int).map i64) := (Sl.lit_at (size := 1) (n := 1) (xs := [i64 n]) rfl rfl).rd
  have bl := bn.fresh fl
  have b2 := fl.own b1 (fun h => h)
  generalize Hb.new 2 [i64 n] = Hl at *
  have fHl := f02.trans (fb.trans fl)
  refine (graph_line_spec (ht.fresh fHl) wGraph sl (by simp [wGraph]) (by simp) (fun x hx => by rw [List.mem_singleton.1 hx]; exact hn)).mono ?_
  rintro _ Hm ⟨rfl, fm⟩
  have b3 := fm.own b2 (fun h => h)
  simp (disch := (first | omega | (simp only [size_new, size_newm, size_wr, size_wrm] <;> omega) | fail)) only [go_sem, Nat.reduceBEq, Nat.reduceAdd, Nat.reduceMul, Nat.reduceLeDiff, ↓reduceIte, rd_new_lt, own_new_lt, mp_new_lt, rd_newm_lt, own_newm_lt, mp_newm_lt, rd_wr_ne, own_wr_ne, mp_wr_ne, rd_wrm_ne, own_wrm_ne, mp_wrm_ne, rd_new_eq, own_new_eq, mp_newm_eq]
  have hll := lineW_len wGraph [n] (fun x hx => by rw [List.mem_singleton.1 hx]; exact hn)
  have hw5 : wGraph.length = 5 := rfl
  refine (WriteString_spec (bl.fresh fm) (lineW wGraph [n] ++ [10]) (by simp only [List.length_append, List.length_cons, List.length_nil] at *; omega)).mono ?_
  rintro _ Hw ⟨rfl, bw, ew⟩
  have hgs : H.size < Hr.size := own_lt br
  have fw : Fresh Hr Hw := ((fb.trans fl).trans fm).then ew (fun z hz => hz)
  have b4 := ew.own b3 (fun h => by omega)
  have e0 : [] ++ (lineW wGraph [n] ++ [10]) = textG n (es.take 0) := by unfold textG; simp
  rw [e0] at bw
  have hrw := hr0.fresh fw
  simp (disch := (first | omega | (simp only [size_new, size_newm, size_wr, size_wrm] <;> omega) | fail)) only [go_sem, Nat.reduceBEq, Nat.reduceAdd, Nat.reduceMul, Nat.reduceLeDiff, ↓reduceIte, rd_new_lt, own_new_lt, mp_new_lt, rd_newm_lt, own_newm_lt, mp_newm_lt, rd_wr_ne, own_wr_ne, mp_wr_ne, rd_wrm_ne, own_wrm_ne, mp_wrm_ne, rd_new_eq, own_new_eq, mp_newm_eq, rd_of_own b4]
  refine LoopV.intro (fun m env H' => Fresh Hr H' ∧ ∃ j : Nat, m = es.length - j ∧ j ≤ es.length ∧ BldH Hr.size Hr.size (textG n (es.take j)) H' ∧ env = [(3, ptr Hr.size), (15, .slice a es.length c), (16, i64 es.length), (17, i64 j)]) es.length ⟨fw, 0, by omega, by omega, bw, rfl⟩ ?_
  rintro m env H1 ⟨f1, j, hmj, hj, bj, rfl⟩
  have h1 := hr0.fresh f1
  simp (disch := (first | omega | (simp only [size_new, size_newm, size_wr, size_wrm] <;> omega) | fail)) only [go_sem, Nat.reduceBEq, Nat.reduceAdd, Nat.reduceMul, Nat.reduceLeDiff, ↓reduceIte, rd_new_lt, own_new_lt, mp_new_lt, rd_newm_lt, own_newm_lt, mp_newm_lt, rd_wr_ne, own_wr_ne, mp_wr_ne, rd_wrm_ne, own_wrm_ne, mp_wrm_ne, rd_new_eq, own_new_eq, mp_newm_eq]
  refine Both.dec (fun hlt => ?_) (fun hlt => ?_) <;> simp (disch := (first | omega | (simp only [size_new, size_newm, size_wr, size_wrm] <;> omega) | fail)) only [go_sem, Nat.reduceBEq, Nat.reduceAdd, Nat.reduceMul, Nat.reduceLeDiff, ↓reduceIte, rd_new_lt, own_new_lt, mp_new_lt, rd_newm_lt, own_newm_lt, mp_newm_lt, rd_wr_ne, own_wr_ne, mp_wr_ne, rd_wrm_ne, own_wrm_ne, mp_wrm_ne, rd_new_eq, own_new_eq, mp_newm_eq]
  · have hj2 : j < es.length := by omega
    obtain ⟨e, he⟩ : ∃ e, es[j]? = some e := ⟨_, List.getElem?_eq_getElem hj2⟩
    obtain ⟨_, b, o, lb, rfl, hrd, hle, hcells⟩ := RdS.edge h1 he
    refine ⟨⟨by omega, by omega⟩, ?_⟩
    have hmem := List.mem_of_getElem? he
    simp (disch := (first | omega | (simp only [size_new, size_newm, size_wr, size_wrm] <;> omega) | fail)) only [go_sem, Nat.reduceBEq, Nat.reduceAdd, Nat.reduceMul, Nat.reduceLeDiff, ↓reduceIte, rd_new_lt, own_new_lt, mp_new_lt, rd_newm_lt, own_newm_lt, mp_newm_lt, rd_wr_ne, own_wr_ne, mp_wr_ne, rd_wrm_ne, own_wrm_ne, mp_wrm_ne, rd_new_eq, own_new_eq, mp_newm_eq, hrd, Int.toNat_natCast, hcells, cellsE]
    refine ⟨by omega, ?_⟩
    have q2 := own_new H1 51 [i64 0, i64 0, i64 0]
    simp (disch := (first | omega | (simp only [size_new, size_newm, size_wr, size_wrm] <;> omega) | fail)) only [go_sem, Nat.reduceBEq, Nat.reduceAdd, Nat.reduceMul, Nat.reduceLeDiff, ↓reduceIte, rd_new_lt, own_new_lt, mp_new_lt, rd_newm_lt, own_newm_lt, mp_newm_lt, rd_wr_ne, own_wr_ne, mp_wr_ne, rd_wrm_ne, own_wrm_ne, mp_wrm_ne, rd_new_eq, own_new_eq, mp_newm_eq, hcells, cellsE, q2]
    have q3 := own_wr_same (l := [i64 e.f, i64 e.t, i64 e.w]) q2
    have f3 : Fresh H1 ((H1.new 51 [i64 0, i64 0, i64 0]).wr H1.size [i64 e.f, i64 e.t, i64 e.w]) := ((Ext.refl _ _).new _ _ : Fresh H1 _).then ((Ext.refl (fun z => z = H1.size) _).wr (fun _ => rfl) _) (fun z hz => by omega)
    generalize (H1.new 51 [i64 0, i64 0, i64 0]).wr H1.size [i64 e.f, i64 e.t, i64 e.w] = H3 at *
    have hed := hes e hmem
    obtain ⟨⟨ef0, ef1⟩, ⟨et0, et1⟩, ⟨ew0, ew1⟩⟩ := id hed
    simp (disch := (first | omega | (simp only [size_new, size_newm, size_wr, size_wrm] <;> omega) | fail)) only [go_sem, Nat.reduceBEq, Nat.reduceAdd, Nat.reduceMul, Nat.reduceLeDiff, ↓reduceIte, rd_new_lt, own_new_lt, mp_new_lt, rd_newm_lt, own_newm_lt, mp_newm_lt, rd_wr_ne, own_wr_ne, mp_wr_ne, rd_wrm_ne, own_wrm_ne, mp_wrm_ne, rd_new_eq, own_new_eq, mp_newm_eq, rd_of_own q3]
    have fl2 : Fresh H3 (H3.new 2 [i64 e.f, i64 e.t, i64 e.w]) := (Ext.refl _ _).new _ _
    have sl2 : RdS (H3.new 2 [i64 e.f, i64 e.t, i64 e.w]) 1 (.slice (some ⟨H3.size, 0, none⟩) [e.f, e.t, e.w].length 3) [e.f, e.t, e.w].length ([e.f, e.t, e.w].map i64) := (Sl.lit_at (size := 1) (n := 3) (xs := [i64 e.f, i64 e.t, i64 e.w]) rfl rfl).rd
    generalize H3.new 2 [i64 e.f, i64 e.t, i64 e.w] = H4 at *
    have hlr : ∀ x ∈ [e.f, e.t, e.w], -9223372036854775808 ≤ x ∧ x ≤ 9223372036854775807 := fun x hx => by
      simp only [List.mem_cons, List.not_mem_nil, or_false] at hx
      rcases hx with rfl | rfl | rfl <;> omega
    refine (graph_line_spec (((ht.fresh f02).fresh f1).fresh (f3.trans fl2)) wEdge sl2 (by simp [wEdge]) (by simp) hlr).mono ?_
    rintro _ H5 ⟨rfl, f5⟩
    simp (disch := (first | omega | (simp only [size_new, size_newm, size_wr, size_wrm] <;> omega) | fail)) only [go_sem, Nat.reduceBEq, Nat.reduceAdd, Nat.reduceMul, Nat.reduceLeDiff, ↓reduceIte, rd_new_lt, own_new_lt, mp_new_lt, rd_newm_lt, own_newm_lt, mp_newm_lt, rd_wr_ne, own_wr_ne, mp_wr_ne, rd_wrm_ne, own_wrm_ne, mp_wrm_ne, rd_new_eq, own_new_eq, mp_newm_eq]
    have hl1 := textG_len (es := es.take j) hn (fun x hx => hes x (List.mem_of_mem_take hx))
    have hl2 := textE3_len hed
    rw [List.length_take] at hl1
    have e1 : lineW wEdge [e.f, e.t, e.w] ++ [10] = textE3 e := rfl
    rw [e1]
    refine (WriteString_spec (bj.fresh ((f3.trans fl2).trans f5)) (textE3 e) (by omega)).mono ?_
    rintro _ H6 ⟨rfl, b6, e6⟩
    rw [← textG_take n es he] at b6
    simp (disch := (first | omega | (simp only [size_new, size_newm, size_wr, size_wrm] <;> omega) | fail)) only [go_sem, Nat.reduceBEq, Nat.reduceAdd, Nat.reduceMul, Nat.reduceLeDiff, ↓reduceIte, rd_new_lt, own_new_lt, mp_new_lt, rd_newm_lt, own_newm_lt, mp_newm_lt, rd_wr_ne, own_wr_ne, mp_wr_ne, rd_wrm_ne, own_wrm_ne, mp_wrm_ne, rd_new_eq, own_new_eq, mp_newm_eq]
    rw [wrap64 (n := (j : Int) + 1) (by omega) (by omega)]
    exact ⟨es.length - (j + 1), by omega, (f1.trans ((f3.trans fl2).trans f5)).then e6 (fun z hz => hz), j + 1, rfl, by omega, b6, rfl⟩
  · have hj2 : j = es.length := by omega
    subst hj2
    rw [List.take_length] at bj
    refine (BString_spec bj).mono ?_
    rintro _ H7 ⟨rfl, e7⟩
    simp (disch := (first | omega | (simp only [size_new, size_newm, size_wr, size_wrm] <;> omega) | fail)) only [go_sem, Nat.reduceBEq, Nat.reduceAdd, Nat.reduceMul, Nat.reduceLeDiff, ↓reduceIte, rd_new_lt, own_new_lt, mp_new_lt, rd_newm_lt, own_newm_lt, mp_newm_lt, rd_wr_ne, own_wr_ne, mp_wr_ne, rd_wrm_ne, own_wrm_ne, mp_wrm_ne, rd_new_eq, own_new_eq, mp_newm_eq]
    exact ⟨rfl, (f02.trans f1).then e7 (fun z hz => by omega)⟩

end Go.Proofs.YtkcpoiploighiaaDoor
