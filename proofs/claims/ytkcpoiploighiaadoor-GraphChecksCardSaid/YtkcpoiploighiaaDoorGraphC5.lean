/-
  Which graphs' ways can be weighed: the program's way.
-/
import Derived.Test.YtkcpoiploighiaaDoorGraphC4
import Derived.Test.YtkcpoiploighiaaDoorShelf
set_option linter.unusedVariables false
set_option linter.unusedSimpArgs false
namespace Go.Proofs.YtkcpoiploighiaaDoor
open Go Go.Vc

set_option maxHeartbeats 2000000 in
theorem graph_Weighed_spec {H : Hp} {n : Int} {a : Option Addr} {c : Nat} {es : List Ed} (h : RdS H 3 (.slice a es.length c) es.length (flatE es)) (hm : es.length ≤ 1000000000) (hw : ∀ e ∈ es, -9223372036854775808 ≤ e.w ∧ e.w ≤ 9223372036854775807) :
    CallH Tryd.prog n_graph_Weighed [grV n (.slice a es.length c)] H fun v H' => Post (v = i64 (if weighG n es = true then 0 else 201) ∧ Fresh H H') := by
  refine c_graph_Weighed ⟨rfl, ?_⟩
  have f0 : Fresh H (H.new 35 [i64 n, .slice a es.length c]) := (Ext.refl _ _).new _ _
  have b0 := own_new H 35 [i64 n, .slice a es.length c]
  simp (disch := (first | omega | (simp only [size_new, size_newm, size_wr, size_wrm] <;> omega) | fail)) only [go_sem, Nat.reduceBEq, Nat.reduceAdd, Nat.reduceMul, Nat.reduceLeDiff, ↓reduceIte, rd_new_lt, own_new_lt, mp_new_lt, rd_newm_lt, own_newm_lt, mp_newm_lt, rd_wr_ne, own_wr_ne, mp_wr_ne, rd_wrm_ne, own_wrm_ne, mp_wrm_ne, rd_new_eq, own_new_eq, mp_newm_eq, s_graph_Weighed, grV]
  generalize H.new 35 [i64 n, .slice a es.length c] = H0 at *
  have h0 := h.fresh f0
  refine (graph_Check_spec (n := n) h0 hm).mono ?_
  rintro _ Hr ⟨rfl, fr⟩
  have br := fr.own b0 (fun h => h)
  by_cases hR : rightG n es = true
  rotate_left
  · rw [if_neg hR]
    simp (disch := (first | omega | (simp only [size_new, size_newm, size_wr, size_wrm] <;> omega) | fail)) only [go_sem, Nat.reduceBEq, Nat.reduceAdd, Nat.reduceMul, Nat.reduceLeDiff, ↓reduceIte, rd_new_lt, own_new_lt, mp_new_lt, rd_newm_lt, own_newm_lt, mp_newm_lt, rd_wr_ne, own_wr_ne, mp_wr_ne, rd_wrm_ne, own_wrm_ne, mp_wrm_ne, rd_new_eq, own_new_eq, mp_newm_eq]
    refine ⟨?_, f0.trans fr⟩
    rw [if_neg (by unfold weighG; rw [Bool.and_eq_true]; exact fun h => hR h.1)]
    rfl
  rw [if_pos hR]
  have hwg : weighG n es = es.all (weighE n) := by unfold weighG; rw [hR, Bool.true_and]
  have hn := ((rightG_iff n es).1 hR).n0
  have hn2 := ((rightG_iff n es).1 hR).n1
  have hr0 := h0.fresh fr
  simp (disch := (first | omega | (simp only [size_new, size_newm, size_wr, size_wrm] <;> omega) | fail)) only [go_sem, Nat.reduceBEq, Nat.reduceAdd, Nat.reduceMul, Nat.reduceLeDiff, ↓reduceIte, rd_new_lt, own_new_lt, mp_new_lt, rd_newm_lt, own_newm_lt, mp_newm_lt, rd_wr_ne, own_wr_ne, mp_wr_ne, rd_wrm_ne, own_wrm_ne, mp_wrm_ne, rd_new_eq, own_new_eq, mp_newm_eq]
  refine Both.of_true (by simp) ?_
  simp (disch := (first | omega | (simp only [size_new, size_newm, size_wr, size_wrm] <;> omega) | fail)) only [go_sem, Nat.reduceBEq, Nat.reduceAdd, Nat.reduceMul, Nat.reduceLeDiff, ↓reduceIte, rd_new_lt, own_new_lt, mp_new_lt, rd_newm_lt, own_newm_lt, mp_newm_lt, rd_wr_ne, own_wr_ne, mp_wr_ne, rd_wrm_ne, own_wrm_ne, mp_wrm_ne, rd_new_eq, own_new_eq, mp_newm_eq, rd_of_own br]
  refine LoopV.intro (fun m env H' => Fresh Hr H' ∧ ∃ j : Nat, m = es.length - j ∧ j ≤ es.length ∧ (∀ e ∈ es.take j, 0 ≤ e.w) ∧ env = [(1, ptr H.size), (4, i64 (mostE (es.take j))), (15, .slice a es.length c), (16, i64 es.length), (17, i64 j)]) es.length ⟨Ext.refl _ _, 0, by omega, by omega, by simp, rfl⟩ ?_
  rintro m env H1 ⟨f1, j, hmj, hj, hall, rfl⟩
  have h1 := hr0.fresh f1
  have b1 := f1.own br (fun h => h)
  simp (disch := (first | omega | (simp only [size_new, size_newm, size_wr, size_wrm] <;> omega) | fail)) only [go_sem, Nat.reduceBEq, Nat.reduceAdd, Nat.reduceMul, Nat.reduceLeDiff, ↓reduceIte, rd_new_lt, own_new_lt, mp_new_lt, rd_newm_lt, own_newm_lt, mp_newm_lt, rd_wr_ne, own_wr_ne, mp_wr_ne, rd_wrm_ne, own_wrm_ne, mp_wrm_ne, rd_new_eq, own_new_eq, mp_newm_eq]
  refine Both.dec (fun hlt => ?_) (fun hlt => ?_) <;> simp (disch := (first | omega | (simp only [size_new, size_newm, size_wr, size_wrm] <;> omega) | fail)) only [go_sem, Nat.reduceBEq, Nat.reduceAdd, Nat.reduceMul, Nat.reduceLeDiff, ↓reduceIte, rd_new_lt, own_new_lt, mp_new_lt, rd_newm_lt, own_newm_lt, mp_newm_lt, rd_wr_ne, own_wr_ne, mp_wr_ne, rd_wrm_ne, own_wrm_ne, mp_wrm_ne, rd_new_eq, own_new_eq, mp_newm_eq]
  · have hj2 : j < es.length := by omega
    obtain ⟨e, he⟩ : ∃ e, es[j]? = some e := ⟨_, List.getElem?_eq_getElem hj2⟩
    obtain ⟨_, b, o, lb, rfl, hrd, hle, hcells⟩ := RdS.edge h1 he
    refine ⟨⟨by omega, by omega⟩, ?_⟩
    have hmem := List.mem_of_getElem? he
    simp (disch := (first | omega | (simp only [size_new, size_newm, size_wr, size_wrm] <;> omega) | fail)) only [go_sem, Nat.reduceBEq, Nat.reduceAdd, Nat.reduceMul, Nat.reduceLeDiff, ↓reduceIte, rd_new_lt, own_new_lt, mp_new_lt, rd_newm_lt, own_newm_lt, mp_newm_lt, rd_wr_ne, own_wr_ne, mp_wr_ne, rd_wrm_ne, own_wrm_ne, mp_wrm_ne, rd_new_eq, own_new_eq, mp_newm_eq, hrd, Int.toNat_natCast, hcells, cellsE]
    refine ⟨by omega, ?_⟩
    have q2 := own_new H1 51 [i64 0, i64 0, i64 0]
    simp (disch := (first | omega | (simp only [size_new, size_newm, size_wr, size_wrm] <;> omega) | fail)) only [go_sem, Nat.reduceBEq, Nat.reduceAdd, Nat.reduceMul, Nat.reduceLeDiff, ↓reduceIte, rd_new_lt, own_new_lt, mp_new_lt, rd_newm_lt, own_newm_lt, mp_newm_lt, rd_wr_ne, own_wr_ne, mp_wr_ne, rd_wrm_ne, own_wrm_ne, mp_wrm_ne, rd_new_eq, own_new_eq, mp_newm_eq, hcells, cellsE, q2]
    have q3 := own_wr_same (l := [i64 e.f, i64 e.t, i64 e.w]) q2
    have f3 : Fresh H1 ((H1.new 51 [i64 0, i64 0, i64 0]).wr H1.size [i64 e.f, i64 e.t, i64 e.w]) := ((Ext.refl _ _).new _ _ : Fresh H1 _).then ((Ext.refl (fun z => z = H1.size) _).wr (fun _ => rfl) _) (fun z hz => by omega)
    have b3 := f3.own b1 (fun h => h)
    generalize (H1.new 51 [i64 0, i64 0, i64 0]).wr H1.size [i64 e.f, i64 e.t, i64 e.w] = H3 at *
    have fz := f0.trans (fr.trans (f1.trans f3))
    simp (disch := (first | omega | (simp only [size_new, size_newm, size_wr, size_wrm] <;> omega) | fail)) only [go_sem, Nat.reduceBEq, Nat.reduceAdd, Nat.reduceMul, Nat.reduceLeDiff, ↓reduceIte, rd_new_lt, own_new_lt, mp_new_lt, rd_newm_lt, own_newm_lt, mp_newm_lt, rd_wr_ne, own_wr_ne, mp_wr_ne, rd_wrm_ne, own_wrm_ne, mp_wrm_ne, rd_new_eq, own_new_eq, mp_newm_eq, rd_of_own q3, rd_of_own b3]
    refine Both.dec (fun g1 => ?_) (fun g1 => ?_) <;> simp (disch := (first | omega | (simp only [size_new, size_newm, size_wr, size_wrm] <;> omega) | fail)) only [go_sem, Nat.reduceBEq, Nat.reduceAdd, Nat.reduceMul, Nat.reduceLeDiff, ↓reduceIte, rd_new_lt, own_new_lt, mp_new_lt, rd_newm_lt, own_newm_lt, mp_newm_lt, rd_wr_ne, own_wr_ne, mp_wr_ne, rd_wrm_ne, own_wrm_ne, mp_wrm_ne, rd_new_eq, own_new_eq, mp_newm_eq, rd_of_own q3, rd_of_own b3]
    · refine ⟨?_, fz⟩
      have hf : weighE n e = false := by unfold weighE; rw [decide_eq_false (by omega), Bool.false_and]
      rw [if_neg (by rw [hwg, List.all_eq_false.2 ⟨e, hmem, by rw [hf]; simp⟩]; simp)]
      rfl
    have htk : es.take (j + 1) = es.take j ++ [e] := by rw [List.take_add_one, he]; rfl
    have emx : (if e.w > mostE (es.take j) then e.w else mostE (es.take j)) = mostE (es.take (j + 1)) := by rw [htk, mostE_snoc]; split <;> omega
    rw [emx, wrap64 (n := (j : Int) + 1) (by omega) (by omega)]
    refine ⟨es.length - (j + 1), by omega, f1.trans f3, j + 1, rfl, by omega, ?_, rfl⟩
    intro e' he'
    rw [htk] at he'
    rcases List.mem_append.1 he' with he' | he'
    · exact hall e' he'
    · rw [List.mem_singleton.1 he']; omega
  · have hj2 : j = es.length := by omega
    subst hj2
    rw [List.take_length] at hall ⊢
    have hmw := most_weigh (n := n) (es := es) hn hn2 (fun e he => ⟨hall e he, (hw e he).2⟩)
    have g0 := (most_ge es 0).1
    have hm1 : mostE es ≤ 9223372036854775807 := by
      have := most_mem es 0
      unfold mostE
      rcases this with h | ⟨e, he, h⟩ <;> rw [h]
      · omega
      · exact (hw e he).2
    obtain ⟨y, hy⟩ : ∃ y : Nat, mostE es = (y : Int) := ⟨(mostE es).toNat, by have : 0 ≤ mostE es := g0; omega⟩
    obtain ⟨x, hx⟩ : ∃ x : Nat, n = (x : Int) := ⟨n.toNat, by omega⟩
    rw [hy] at hm1 hmw ⊢
    rw [← hwg, hx] at hmw
    have fz := f0.trans (fr.trans f1)
    simp (disch := (first | omega | (simp only [size_new, size_newm, size_wr, size_wrm] <;> omega) | fail)) only [go_sem, Nat.reduceBEq, Nat.reduceAdd, Nat.reduceMul, Nat.reduceLeDiff, ↓reduceIte, rd_new_lt, own_new_lt, mp_new_lt, rd_newm_lt, own_newm_lt, mp_newm_lt, rd_wr_ne, own_wr_ne, mp_wr_ne, rd_wrm_ne, own_wrm_ne, mp_wrm_ne, rd_new_eq, own_new_eq, mp_newm_eq, rd_of_own b1]
    rw [hx, wrapU64 (n := (x : Int)) (by omega) (by omega), wrapU64 (n := (y : Int)) (by omega) (by omega)]
    refine (bits_Mul64_spec x y (by omega) (by omega) H1).mono ?_
    rintro _ _ ⟨rfl, rfl⟩
    have hxy : ((x : Int) * (y : Int)) = ((x * y : Nat) : Int) := by simp
    rw [hxy] at hmw
    generalize x * y = z at *
    simp (disch := (first | omega | (simp only [size_new, size_newm, size_wr, size_wrm] <;> omega) | fail)) only [go_sem, Nat.reduceBEq, Nat.reduceAdd, Nat.reduceMul, Nat.reduceLeDiff, ↓reduceIte, rd_new_lt, own_new_lt, mp_new_lt, rd_newm_lt, own_newm_lt, mp_newm_lt, rd_wr_ne, own_wr_ne, mp_wr_ne, rd_wrm_ne, own_wrm_ne, mp_wrm_ne, rd_new_eq, own_new_eq, mp_newm_eq]
    refine Both.dec (fun g1 => ?_) (fun g1 => ?_) <;> simp (disch := (first | omega | (simp only [size_new, size_newm, size_wr, size_wrm] <;> omega) | fail)) only [go_sem, Nat.reduceBEq, Nat.reduceAdd, Nat.reduceMul, Nat.reduceLeDiff, ↓reduceIte, rd_new_lt, own_new_lt, mp_new_lt, rd_newm_lt, own_newm_lt, mp_newm_lt, rd_wr_ne, own_wr_ne, mp_wr_ne, rd_wrm_ne, own_wrm_ne, mp_wrm_ne, rd_new_eq, own_new_eq, mp_newm_eq]
    · refine ⟨?_, fz⟩
      rw [if_neg (by rw [← hx] at hmw; rw [← hx]; intro h; have := hmw.2 h; omega)]
      rfl
    · refine Both.dec (fun g2 => ?_) (fun g2 => ?_) <;> simp (disch := (first | omega | (simp only [size_new, size_newm, size_wr, size_wrm] <;> omega) | fail)) only [go_sem, Nat.reduceBEq, Nat.reduceAdd, Nat.reduceMul, Nat.reduceLeDiff, ↓reduceIte, rd_new_lt, own_new_lt, mp_new_lt, rd_newm_lt, own_newm_lt, mp_newm_lt, rd_wr_ne, own_wr_ne, mp_wr_ne, rd_wrm_ne, own_wrm_ne, mp_wrm_ne, rd_new_eq, own_new_eq, mp_newm_eq]
      · refine ⟨?_, fz⟩
        rw [if_neg (by rw [← hx] at hmw; rw [← hx]; intro h; have := hmw.2 h; omega)]
        rfl
      · refine ⟨?_, fz⟩
        rw [if_pos (by rw [← hx] at hmw; rw [← hx]; exact hmw.1 (by omega))]
        rfl

end Go.Proofs.YtkcpoiploighiaaDoor
