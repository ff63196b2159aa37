/-
  slices.ContainsFunc with whatever closure; whether edges span a graph: the program's way.
-/
import Derived.Test.YtbnaicgmnadkgaaCutA
import Derived.Test.YtbnaicgmnadkgaaGraphC2
import Derived.Test.YtbnaicgmnadkgaaRef25
set_option linter.unusedVariables false
set_option linter.unusedSimpArgs false
namespace Go.Proofs.Ytbnaicgmnadkgaa
open Go Go.Vc

set_option maxHeartbeats 1000000 in
theorem IndexFuncE_spec {H : Hp} {a : Option Addr} {c : Nat} {es : List Ed} (f : FuncId) (caps : List Value) (q : Ed → Bool) (Inv : Hp → Prop) (hI : Inv H) (hrd : ∀ H', Inv H' → RdS H' 3 (.slice a es.length c) es.length (flatE es)) (hcal : callable Try.prog f = true)
    (hf : ∀ H' e, e ∈ es → Inv H' → CallH Try.prog f (.agg (cellsE e).toArray :: caps) H' fun v H'' => Post (v = .bool (q e) ∧ Inv H'')) (hm : es.length ≤ 1000000000) :
    CallH Try.prog n_slices_IndexFunc_api_Edge_api_Edge [.slice a es.length c, .func (.func f) #[] caps.toArray] H fun v H' => Post (∃ i : Int, v = i64 i ∧ (0 ≤ i ↔ es.any q = true) ∧ Inv H') := by
  refine c_slices_IndexFunc_api_Edge_api_Edge ⟨rfl, ?_⟩
  simp (disch := (first | omega | (simp only [size_new, size_newm, size_wr, size_wrm] <;> omega) | fail)) only [go_sem, Nat.reduceBEq, Nat.reduceAdd, Nat.reduceMul, Nat.reduceLeDiff, ↓reduceIte, rd_new_lt, own_new_lt, mp_new_lt, rd_newm_lt, own_newm_lt, mp_newm_lt, rd_wr_ne, own_wr_ne, mp_wr_ne, rd_wrm_ne, own_wrm_ne, mp_wrm_ne, rd_new_eq, own_new_eq, mp_newm_eq, s_slices_IndexFunc_api_Edge_api_Edge]
  refine LoopV.intro (fun m env H' => Inv H' ∧ ∃ j : Nat, m = es.length - j ∧ j ≤ es.length ∧ (∀ e ∈ es.take j, q e = false) ∧ env = [(0, .slice a es.length c), (1, .func (.func f) #[] caps.toArray), (7, i64 es.length), (8, i64 j)]) es.length ⟨hI, 0, by omega, by omega, by simp, rfl⟩ ?_
  rintro m env H1 ⟨i1, j, hmj, hj, hall, rfl⟩
  have h1 := hrd H1 i1
  simp (disch := (first | omega | (simp only [size_new, size_newm, size_wr, size_wrm] <;> omega) | fail)) only [go_sem, Nat.reduceBEq, Nat.reduceAdd, Nat.reduceMul, Nat.reduceLeDiff, ↓reduceIte, rd_new_lt, own_new_lt, mp_new_lt, rd_newm_lt, own_newm_lt, mp_newm_lt, rd_wr_ne, own_wr_ne, mp_wr_ne, rd_wrm_ne, own_wrm_ne, mp_wrm_ne, rd_new_eq, own_new_eq, mp_newm_eq]
  refine Both.dec (fun hlt => ?_) (fun hlt => ?_) <;> simp (disch := (first | omega | (simp only [size_new, size_newm, size_wr, size_wrm] <;> omega) | fail)) only [go_sem, Nat.reduceBEq, Nat.reduceAdd, Nat.reduceMul, Nat.reduceLeDiff, ↓reduceIte, rd_new_lt, own_new_lt, mp_new_lt, rd_newm_lt, own_newm_lt, mp_newm_lt, rd_wr_ne, own_wr_ne, mp_wr_ne, rd_wrm_ne, own_wrm_ne, mp_wrm_ne, rd_new_eq, own_new_eq, mp_newm_eq]
  · have hj2 : j < es.length := by omega
    obtain ⟨e, he⟩ : ∃ e, es[j]? = some e := ⟨_, List.getElem?_eq_getElem hj2⟩
    obtain ⟨_, b, o, lb, rfl, hrd2, hle, hcells⟩ := RdS.edge h1 he
    refine ⟨⟨by omega, by omega⟩, ?_⟩
    have hmem := List.mem_of_getElem? he
    simp (disch := (first | omega | (simp only [size_new, size_newm, size_wr, size_wrm] <;> omega) | fail)) only [go_sem, Nat.reduceBEq, Nat.reduceAdd, Nat.reduceMul, Nat.reduceLeDiff, ↓reduceIte, rd_new_lt, own_new_lt, mp_new_lt, rd_newm_lt, own_newm_lt, mp_newm_lt, rd_wr_ne, own_wr_ne, mp_wr_ne, rd_wrm_ne, own_wrm_ne, mp_wrm_ne, rd_new_eq, own_new_eq, mp_newm_eq, hrd2, Int.toNat_natCast, hcells]
    refine ⟨by omega, ?_⟩
    simp (disch := (first | omega | (simp only [size_new, size_newm, size_wr, size_wrm] <;> omega) | fail)) only [go_sem, Nat.reduceBEq, Nat.reduceAdd, Nat.reduceMul, Nat.reduceLeDiff, ↓reduceIte, rd_new_lt, own_new_lt, mp_new_lt, rd_newm_lt, own_newm_lt, mp_newm_lt, rd_wr_ne, own_wr_ne, mp_wr_ne, rd_wrm_ne, own_wrm_ne, mp_wrm_ne, rd_new_eq, own_new_eq, mp_newm_eq, hcells]
    refine ⟨hcal, ?_⟩
    refine CallH.mono (by simpa using hf H1 e hmem i1) ?_
    rintro _ H2 ⟨rfl, i2⟩
    simp (disch := (first | omega | (simp only [size_new, size_newm, size_wr, size_wrm] <;> omega) | fail)) only [go_sem, Nat.reduceBEq, Nat.reduceAdd, Nat.reduceMul, Nat.reduceLeDiff, ↓reduceIte, rd_new_lt, own_new_lt, mp_new_lt, rd_newm_lt, own_newm_lt, mp_newm_lt, rd_wr_ne, own_wr_ne, mp_wr_ne, rd_wrm_ne, own_wrm_ne, mp_wrm_ne, rd_new_eq, own_new_eq, mp_newm_eq]
    cases hx : q e
    · simp (disch := (first | omega | (simp only [size_new, size_newm, size_wr, size_wrm] <;> omega) | fail)) only [go_sem, Nat.reduceBEq, Nat.reduceAdd, Nat.reduceMul, Nat.reduceLeDiff, ↓reduceIte, rd_new_lt, own_new_lt, mp_new_lt, rd_newm_lt, own_newm_lt, mp_newm_lt, rd_wr_ne, own_wr_ne, mp_wr_ne, rd_wrm_ne, own_wrm_ne, mp_wrm_ne, rd_new_eq, own_new_eq, mp_newm_eq]
      rw [wrap64 (n := (j : Int) + 1) (by omega) (by omega)]
      refine ⟨es.length - (j + 1), by omega, i2, j + 1, rfl, by omega, ?_, rfl⟩
      intro e' he'
      rw [List.take_add_one, he] at he'
      rcases List.mem_append.1 he' with he' | he'
      · exact hall e' he'
      · have : e' = e := by simpa using he'
        rw [this]; exact hx
    · simp (disch := (first | omega | (simp only [size_new, size_newm, size_wr, size_wrm] <;> omega) | fail)) only [go_sem, Nat.reduceBEq, Nat.reduceAdd, Nat.reduceMul, Nat.reduceLeDiff, ↓reduceIte, rd_new_lt, own_new_lt, mp_new_lt, rd_newm_lt, own_newm_lt, mp_newm_lt, rd_wr_ne, own_wr_ne, mp_wr_ne, rd_wrm_ne, own_wrm_ne, mp_wrm_ne, rd_new_eq, own_new_eq, mp_newm_eq]
      exact ⟨j, rfl, ⟨fun _ => List.any_eq_true.2 ⟨e, hmem, hx⟩, fun _ => by omega⟩, i2⟩
  · refine ⟨-1, rfl, ?_, i1⟩
    have hj2 : j = es.length := by omega
    subst hj2
    rw [List.take_length] at hall
    have : es.any q = false := List.any_eq_false.2 fun e he => by rw [hall e he]; simp
    rw [this]
    simp

theorem ContainsFuncE_spec {H : Hp} {a : Option Addr} {c : Nat} {es : List Ed} (f : FuncId) (caps : List Value) (q : Ed → Bool) (Inv : Hp → Prop) (hI : Inv H) (hrd : ∀ H', Inv H' → RdS H' 3 (.slice a es.length c) es.length (flatE es)) (hcal : callable Try.prog f = true)
    (hf : ∀ H' e, e ∈ es → Inv H' → CallH Try.prog f (.agg (cellsE e).toArray :: caps) H' fun v H'' => Post (v = .bool (q e) ∧ Inv H'')) (hm : es.length ≤ 1000000000) :
    CallH Try.prog n_slices_ContainsFunc_api_Edge_api_Edge [.slice a es.length c, .func (.func f) #[] caps.toArray] H fun v H' => Post (v = .bool (es.any q) ∧ Inv H') := by
  refine c_slices_ContainsFunc_api_Edge_api_Edge ⟨rfl, ?_⟩
  simp (disch := (first | omega | (simp only [size_new, size_newm, size_wr, size_wrm] <;> omega) | fail)) only [go_sem, Nat.reduceBEq, Nat.reduceAdd, Nat.reduceMul, Nat.reduceLeDiff, ↓reduceIte, rd_new_lt, own_new_lt, mp_new_lt, rd_newm_lt, own_newm_lt, mp_newm_lt, rd_wr_ne, own_wr_ne, mp_wr_ne, rd_wrm_ne, own_wrm_ne, mp_wrm_ne, rd_new_eq, own_new_eq, mp_newm_eq, s_slices_ContainsFunc_api_Edge_api_Edge]
  refine (IndexFuncE_spec f caps q Inv hI hrd hcal hf hm).mono ?_
  rintro _ H1 ⟨i, rfl, hi, i1⟩
  simp (disch := (first | omega | (simp only [size_new, size_newm, size_wr, size_wrm] <;> omega) | fail)) only [go_sem, Nat.reduceBEq, Nat.reduceAdd, Nat.reduceMul, Nat.reduceLeDiff, ↓reduceIte, rd_new_lt, own_new_lt, mp_new_lt, rd_newm_lt, own_newm_lt, mp_newm_lt, rd_wr_ne, own_wr_ne, mp_wr_ne, rd_wrm_ne, own_wrm_ne, mp_wrm_ne, rd_new_eq, own_new_eq, mp_newm_eq]
  refine ⟨congrArg Value.bool ?_, i1⟩
  cases hx : es.any q
  · rw [hx] at hi
    exact decide_eq_false (fun h => by cases hi.1 h)
  · rw [hx] at hi
    exact decide_eq_true (hi.2 rfl)

set_option maxHeartbeats 1000000 in
theorem IndexFuncI_spec {H : Hp} {a : Option Addr} {c : Nat} {xs : List Int} (f : FuncId) (caps : List Value) (q : Int → Bool) (Inv : Hp → Prop) (hI : Inv H) (hrd : ∀ H', Inv H' → RdS H' 1 (.slice a xs.length c) xs.length (xs.map i64)) (hcal : callable Try.prog f = true)
    (hf : ∀ H' x, x ∈ xs → Inv H' → CallH Try.prog f (i64 x :: caps) H' fun v H'' => Post (v = .bool (q x) ∧ Inv H'')) (hm : xs.length ≤ 1000000000) :
    CallH Try.prog n_slices_IndexFunc_int_int [.slice a xs.length c, .func (.func f) #[] caps.toArray] H fun v H' => Post (∃ i : Int, v = i64 i ∧ (0 ≤ i ↔ xs.any q = true) ∧ Inv H') := by
  refine c_slices_IndexFunc_int_int ⟨rfl, ?_⟩
  simp (disch := (first | omega | (simp only [size_new, size_newm, size_wr, size_wrm] <;> omega) | fail)) only [go_sem, Nat.reduceBEq, Nat.reduceAdd, Nat.reduceMul, Nat.reduceLeDiff, ↓reduceIte, rd_new_lt, own_new_lt, mp_new_lt, rd_newm_lt, own_newm_lt, mp_newm_lt, rd_wr_ne, own_wr_ne, mp_wr_ne, rd_wrm_ne, own_wrm_ne, mp_wrm_ne, rd_new_eq, own_new_eq, mp_newm_eq, s_slices_IndexFunc_int_int]
  refine LoopV.intro (fun m env H' => Inv H' ∧ ∃ j : Nat, m = xs.length - j ∧ j ≤ xs.length ∧ (∀ e ∈ xs.take j, q e = false) ∧ env = [(0, .slice a xs.length c), (1, .func (.func f) #[] caps.toArray), (7, i64 xs.length), (8, i64 j)]) xs.length ⟨hI, 0, by omega, by omega, by simp, rfl⟩ ?_
  rintro m env H1 ⟨i1, j, hmj, hj, hall, rfl⟩
  have h1 := hrd H1 i1
  simp (disch := (first | omega | (simp only [size_new, size_newm, size_wr, size_wrm] <;> omega) | fail)) only [go_sem, Nat.reduceBEq, Nat.reduceAdd, Nat.reduceMul, Nat.reduceLeDiff, ↓reduceIte, rd_new_lt, own_new_lt, mp_new_lt, rd_newm_lt, own_newm_lt, mp_newm_lt, rd_wr_ne, own_wr_ne, mp_wr_ne, rd_wrm_ne, own_wrm_ne, mp_wrm_ne, rd_new_eq, own_new_eq, mp_newm_eq]
  refine Both.dec (fun hlt => ?_) (fun hlt => ?_) <;> simp (disch := (first | omega | (simp only [size_new, size_newm, size_wr, size_wrm] <;> omega) | fail)) only [go_sem, Nat.reduceBEq, Nat.reduceAdd, Nat.reduceMul, Nat.reduceLeDiff, ↓reduceIte, rd_new_lt, own_new_lt, mp_new_lt, rd_newm_lt, own_newm_lt, mp_newm_lt, rd_wr_ne, own_wr_ne, mp_wr_ne, rd_wrm_ne, own_wrm_ne, mp_wrm_ne, rd_new_eq, own_new_eq, mp_newm_eq]
  · have hj2 : j < xs.length := by omega
    obtain ⟨e, he⟩ : ∃ e, xs[j]? = some e := ⟨_, List.getElem?_eq_getElem hj2⟩
    obtain ⟨_, b, o, lb, rfl, hrd2, hcell⟩ := RdS.num h1 he
    refine ⟨⟨by omega, by omega⟩, ?_⟩
    have hmem := List.mem_of_getElem? he
    simp (disch := (first | omega | (simp only [size_new, size_newm, size_wr, size_wrm] <;> omega) | fail)) only [go_sem, Nat.reduceBEq, Nat.reduceAdd, Nat.reduceMul, Nat.reduceLeDiff, ↓reduceIte, rd_new_lt, own_new_lt, mp_new_lt, rd_newm_lt, own_newm_lt, mp_newm_lt, rd_wr_ne, own_wr_ne, mp_wr_ne, rd_wrm_ne, own_wrm_ne, mp_wrm_ne, rd_new_eq, own_new_eq, mp_newm_eq, hrd2, Int.toNat_natCast, Nat.mul_one, hcell]
    refine ⟨hcal, ?_⟩
    refine CallH.mono (by simpa using hf H1 e hmem i1) ?_
    rintro _ H2 ⟨rfl, i2⟩
    simp (disch := (first | omega | (simp only [size_new, size_newm, size_wr, size_wrm] <;> omega) | fail)) only [go_sem, Nat.reduceBEq, Nat.reduceAdd, Nat.reduceMul, Nat.reduceLeDiff, ↓reduceIte, rd_new_lt, own_new_lt, mp_new_lt, rd_newm_lt, own_newm_lt, mp_newm_lt, rd_wr_ne, own_wr_ne, mp_wr_ne, rd_wrm_ne, own_wrm_ne, mp_wrm_ne, rd_new_eq, own_new_eq, mp_newm_eq]
    cases hx : q e
    · simp (disch := (first | omega | (simp only [size_new, size_newm, size_wr, size_wrm] <;> omega) | fail)) only [go_sem, Nat.reduceBEq, Nat.reduceAdd, Nat.reduceMul, Nat.reduceLeDiff, ↓reduceIte, rd_new_lt, own_new_lt, mp_new_lt, rd_newm_lt, own_newm_lt, mp_newm_lt, rd_wr_ne, own_wr_ne, mp_wr_ne, rd_wrm_ne, own_wrm_ne, mp_wrm_ne, rd_new_eq, own_new_eq, mp_newm_eq]
      rw [wrap64 (n := (j : Int) + 1) (by omega) (by omega)]
      refine ⟨xs.length - (j + 1), by omega, i2, j + 1, rfl, by omega, ?_, rfl⟩
      intro e' he'
      rw [List.take_add_one, he] at he'
      rcases List.mem_append.1 he' with he' | he'
      · exact hall e' he'
      · have : e' = e := by simpa using he'
        rw [this]; exact hx
    · simp (disch := (first | omega | (simp only [size_new, size_newm, size_wr, size_wrm] <;> omega) | fail)) only [go_sem, Nat.reduceBEq, Nat.reduceAdd, Nat.reduceMul, Nat.reduceLeDiff, ↓reduceIte, rd_new_lt, own_new_lt, mp_new_lt, rd_newm_lt, own_newm_lt, mp_newm_lt, rd_wr_ne, own_wr_ne, mp_wr_ne, rd_wrm_ne, own_wrm_ne, mp_wrm_ne, rd_new_eq, own_new_eq, mp_newm_eq]
      exact ⟨j, rfl, ⟨fun _ => List.any_eq_true.2 ⟨e, hmem, hx⟩, fun _ => by omega⟩, i2⟩
  · refine ⟨-1, rfl, ?_, i1⟩
    have hj2 : j = xs.length := by omega
    subst hj2
    rw [List.take_length] at hall
    have : xs.any q = false := List.any_eq_false.2 fun e he => by rw [hall e he]; simp
    rw [this]
    simp

theorem ContainsFuncI_spec {H : Hp} {a : Option Addr} {c : Nat} {xs : List Int} (f : FuncId) (caps : List Value) (q : Int → Bool) (Inv : Hp → Prop) (hI : Inv H) (hrd : ∀ H', Inv H' → RdS H' 1 (.slice a xs.length c) xs.length (xs.map i64)) (hcal : callable Try.prog f = true)
    (hf : ∀ H' x, x ∈ xs → Inv H' → CallH Try.prog f (i64 x :: caps) H' fun v H'' => Post (v = .bool (q x) ∧ Inv H'')) (hm : xs.length ≤ 1000000000) :
    CallH Try.prog n_slices_ContainsFunc_int_int [.slice a xs.length c, .func (.func f) #[] caps.toArray] H fun v H' => Post (v = .bool (xs.any q) ∧ Inv H') := by
  refine c_slices_ContainsFunc_int_int ⟨rfl, ?_⟩
  simp (disch := (first | omega | (simp only [size_new, size_newm, size_wr, size_wrm] <;> omega) | fail)) only [go_sem, Nat.reduceBEq, Nat.reduceAdd, Nat.reduceMul, Nat.reduceLeDiff, ↓reduceIte, rd_new_lt, own_new_lt, mp_new_lt, rd_newm_lt, own_newm_lt, mp_newm_lt, rd_wr_ne, own_wr_ne, mp_wr_ne, rd_wrm_ne, own_wrm_ne, mp_wrm_ne, rd_new_eq, own_new_eq, mp_newm_eq, s_slices_ContainsFunc_int_int]
  refine (IndexFuncI_spec f caps q Inv hI hrd hcal hf hm).mono ?_
  rintro _ H1 ⟨i, rfl, hi, i1⟩
  simp (disch := (first | omega | (simp only [size_new, size_newm, size_wr, size_wrm] <;> omega) | fail)) only [go_sem, Nat.reduceBEq, Nat.reduceAdd, Nat.reduceMul, Nat.reduceLeDiff, ↓reduceIte, rd_new_lt, own_new_lt, mp_new_lt, rd_newm_lt, own_newm_lt, mp_newm_lt, rd_wr_ne, own_wr_ne, mp_wr_ne, rd_wrm_ne, own_wrm_ne, mp_wrm_ne, rd_new_eq, own_new_eq, mp_newm_eq]
  refine ⟨congrArg Value.bool ?_, i1⟩
  cases hx : xs.any q
  · rw [hx] at hi
    exact decide_eq_false (fun h => by cases hi.1 h)
  · rw [hx] at hi
    exact decide_eq_true (hi.2 rfl)

theorem cut_Spans_1_spec {H : Hp} {p b s len : Nat} {rt : Nat → Nat} {most : Int} (e : Ed) (hp : H.own p = some [ptr b]) (h : NamesAt H b s len rt most) (hf : 0 ≤ e.f ∧ e.f + 1 < len) (ht : 0 ≤ e.t ∧ e.t + 1 < len) :
    CallH Try.prog n_cut_Spans_1 [.agg (cellsE e).toArray, ptr p] H fun v H' => Post (v = .bool (!decide (rt (e.f.toNat + 1) = rt (e.t.toNat + 1))) ∧ NamesAt H' b s len rt most ∧ Ext (fun z => z = b ∨ z = s) H H') := by
  refine callH_ofC mixed d_cut_Spans_1 (nt := 11) (by kernel_rfl) (by simp) ?_
  have f0 : Fresh H (H.new 35 [i64 e.f, i64 e.t, i64 e.w]) := (Ext.refl _ _).new _ _
  have b0 := own_new H 35 [i64 e.f, i64 e.t, i64 e.w]
  have p0 := f0.own hp (fun h => h)
  have n0 := h.ext f0 (fun h => h) (fun h => h)
  have hlt := h.lt
  simp (disch := (first | omega | (simp only [size_new, size_newm, size_wr, size_wrm] <;> omega) | fail)) only [go_sem, Nat.reduceBEq, Nat.reduceAdd, Nat.reduceMul, Nat.reduceLeDiff, ↓reduceIte, rd_new_lt, own_new_lt, mp_new_lt, rd_newm_lt, own_newm_lt, mp_newm_lt, rd_wr_ne, own_wr_ne, mp_wr_ne, rd_wrm_ne, own_wrm_ne, mp_wrm_ne, rd_new_eq, own_new_eq, mp_newm_eq, s_cut_Spans_1, cellsE, rd_of_own b0, rd_of_own p0]
  generalize H.new 35 [i64 e.f, i64 e.t, i64 e.w] = H0 at *
  refine (cut_together_spec n0 hf ht).mono ?_
  rintro _ H1 ⟨rfl, n1, e1⟩
  simp (disch := (first | omega | (simp only [size_new, size_newm, size_wr, size_wrm] <;> omega) | fail)) only [go_sem, Nat.reduceBEq, Nat.reduceAdd, Nat.reduceMul, Nat.reduceLeDiff, ↓reduceIte, rd_new_lt, own_new_lt, mp_new_lt, rd_newm_lt, own_newm_lt, mp_newm_lt, rd_wr_ne, own_wr_ne, mp_wr_ne, rd_wrm_ne, own_wrm_ne, mp_wrm_ne, rd_new_eq, own_new_eq, mp_newm_eq]
  exact ⟨rfl, n1, ⟨Nat.le_trans f0.size e1.size, fun z hz hn => (e1.keep z (Nat.lt_of_lt_of_le hz f0.size) hn).trans (f0.keep z hz (fun h => h))⟩⟩

set_option maxHeartbeats 1000000 in
theorem cut_Spans_spec {H : Hp} {n : Int} {a a' : Option Addr} {c c' : Nat} {es : List Ed} {ks : List Int} (h : RdS H 3 (.slice a es.length c) es.length (flatE es)) (h' : RdS H 1 (.slice a' ks.length c') ks.length (ks.map i64))
    (hm : es.length ≤ 1000000000) (hl : ks.length ≤ 1000000) :
    CallH Try.prog n_cut_Spans [grV n (.slice a es.length c), .slice a' ks.length c'] H fun v H' => Post (Fresh H H' ∧ ∃ b, v = .bool b ∧ (b = true ↔ SpR n es ks)) := by
  refine c_cut_Spans ⟨rfl, ?_⟩
  have f0 : Fresh H (H.new 24 [i64 n, .slice a es.length c]) := (Ext.refl _ _).new _ _
  have b0 := own_new H 24 [i64 n, .slice a es.length c]
  simp (disch := (first | omega | (simp only [size_new, size_newm, size_wr, size_wrm] <;> omega) | fail)) only [go_sem, Nat.reduceBEq, Nat.reduceAdd, Nat.reduceMul, Nat.reduceLeDiff, ↓reduceIte, rd_new_lt, own_new_lt, mp_new_lt, rd_newm_lt, own_newm_lt, mp_newm_lt, rd_wr_ne, own_wr_ne, mp_wr_ne, rd_wrm_ne, own_wrm_ne, mp_wrm_ne, rd_new_eq, own_new_eq, mp_newm_eq, s_cut_Spans, grV]
  generalize H.new 24 [i64 n, .slice a es.length c] = H0 at *
  refine (graph_Check_spec (n := n) (h.fresh f0) hm).mono ?_
  rintro _ H1 ⟨rfl, f1⟩
  have b1 := f1.own b0 (fun h => h)
  have f01 := f0.trans f1
  by_cases hR : rightG n es = true
  rotate_left
  · rw [if_neg hR]
    simp (disch := (first | omega | (simp only [size_new, size_newm, size_wr, size_wrm] <;> omega) | fail)) only [go_sem, Nat.reduceBEq, Nat.reduceAdd, Nat.reduceMul, Nat.reduceLeDiff, ↓reduceIte, rd_new_lt, own_new_lt, mp_new_lt, rd_newm_lt, own_newm_lt, mp_newm_lt, rd_wr_ne, own_wr_ne, mp_wr_ne, rd_wrm_ne, own_wrm_ne, mp_wrm_ne, rd_new_eq, own_new_eq, mp_newm_eq]
    exact ⟨f01, false, rfl, iff_of_false (by simp) fun hs => hR hs.1⟩
  rw [if_pos hR]
  have hr := (rightG_iff n es).1 hR
  simp (disch := (first | omega | (simp only [size_new, size_newm, size_wr, size_wrm] <;> omega) | fail)) only [go_sem, Nat.reduceBEq, Nat.reduceAdd, Nat.reduceMul, Nat.reduceLeDiff, ↓reduceIte, rd_new_lt, own_new_lt, mp_new_lt, rd_newm_lt, own_newm_lt, mp_newm_lt, rd_wr_ne, own_wr_ne, mp_wr_ne, rd_wrm_ne, own_wrm_ne, mp_wrm_ne, rd_new_eq, own_new_eq, mp_newm_eq]
  refine Both.of_true (by simp) ?_
  simp (disch := (first | omega | (simp only [size_new, size_newm, size_wr, size_wrm] <;> omega) | fail)) only [go_sem, Nat.reduceBEq, Nat.reduceAdd, Nat.reduceMul, Nat.reduceLeDiff, ↓reduceIte, rd_new_lt, own_new_lt, mp_new_lt, rd_newm_lt, own_newm_lt, mp_newm_lt, rd_wr_ne, own_wr_ne, mp_wr_ne, rd_wrm_ne, own_wrm_ne, mp_wrm_ne, rd_new_eq, own_new_eq, mp_newm_eq, rd_of_own b1]
  refine (cut_parts_spec (h.fresh f01) (h'.fresh f01) hr hl).mono ?_
  rintro _ H2 ⟨f2, hres⟩
  have b2 := f2.own b1 (fun h => h)
  have f02 := f01.trans f2
  rcases hres with ⟨hno, rfl⟩ | ⟨⟨hin, hac⟩, b, s, rt, rfl, hb, hs, hN, hT⟩
  · have q2 := own_new H2 65 [.pointer none]
    simp (disch := (first | omega | (simp only [size_new, size_newm, size_wr, size_wrm] <;> omega) | fail)) only [go_sem, Nat.reduceBEq, Nat.reduceAdd, Nat.reduceMul, Nat.reduceLeDiff, ↓reduceIte, rd_new_lt, own_new_lt, mp_new_lt, rd_newm_lt, own_newm_lt, mp_newm_lt, rd_wr_ne, own_wr_ne, mp_wr_ne, rd_wrm_ne, own_wrm_ne, mp_wrm_ne, rd_new_eq, own_new_eq, mp_newm_eq, q2]
    have fw : Fresh H2 ((H2.new 65 [.pointer none]).wr H2.size [.pointer none]) := ((Ext.refl _ _).new _ _ : Fresh H2 _).then ((Ext.refl (fun z => z = H2.size) _).wr (fun _ => rfl) _) (fun z hz => by omega)
    exact ⟨f02.trans fw, false, rfl, iff_of_false (by simp) fun hs => hno ⟨hs.2.ins, hs.2.acyc⟩⟩
  · have q2 := own_new H2 65 [.pointer none]
    have q3 := own_wr_same (l := [ptr b]) q2
    have fw : Fresh H2 ((H2.new 65 [.pointer none]).wr H2.size [ptr b]) := ((Ext.refl _ _).new _ _ : Fresh H2 _).then ((Ext.refl (fun z => z = H2.size) _).wr (fun _ => rfl) _) (fun z hz => by omega)
    have b3 := fw.own b2 (fun h => h)
    have hzb := own_lt b2
    simp (disch := (first | omega | (simp only [size_new, size_newm, size_wr, size_wrm] <;> omega) | fail)) only [go_sem, Nat.reduceBEq, Nat.reduceAdd, Nat.reduceMul, Nat.reduceLeDiff, ↓reduceIte, rd_new_lt, own_new_lt, mp_new_lt, rd_newm_lt, own_newm_lt, mp_newm_lt, rd_wr_ne, own_wr_ne, mp_wr_ne, rd_wrm_ne, own_wrm_ne, mp_wrm_ne, rd_new_eq, own_new_eq, mp_newm_eq, q2, rd_of_own b3]
    have hN3 := hN.ext fw (fun h => h) (fun h => h)
    have hlt2 := hN.lt
    generalize (H2.new 65 [.pointer none]).wr H2.size [ptr b] = H3 at *
    have f03 := f02.trans fw
    have hz01 := f0.size
    have hz1 := f1.size
    refine (ContainsFuncE_spec (H := H3) n_cut_Spans_1 [ptr H2.size] (fun e => !decide (rt (e.f.toNat + 1) = rt (e.t.toNat + 1))) (fun H' => Fresh H H' ∧ NamesAt H' b s (n.toNat + 1) rt n ∧ H'.own H2.size = some [ptr b]) ⟨f03, hN3, q3⟩
      (fun H' hI => h.fresh hI.1) (by kernel_rfl) (fun H' e he hI => ?_) hm).mono ?_
    · obtain ⟨e0, e1, e2, e3⟩ := hr.ends e he
      refine (cut_Spans_1_spec e hI.2.2 hI.2.1 ⟨e0, by omega⟩ ⟨e2, by omega⟩).mono ?_
      rintro _ H'' ⟨rfl, hn, hx⟩
      exact ⟨rfl, hI.1.then hx (fun z hz => by omega), hn, hx.own hI.2.2 (fun h => by omega)⟩
    · rintro _ H4 ⟨rfl, f4, _, _⟩
      simp (disch := (first | omega | (simp only [size_new, size_newm, size_wr, size_wrm] <;> omega) | fail)) only [go_sem, Nat.reduceBEq, Nat.reduceAdd, Nat.reduceMul, Nat.reduceLeDiff, ↓reduceIte, rd_new_lt, own_new_lt, mp_new_lt, rd_newm_lt, own_newm_lt, mp_newm_lt, rd_wr_ne, own_wr_ne, mp_wr_ne, rd_wrm_ne, own_wrm_ne, mp_wrm_ne, rd_new_eq, own_new_eq, mp_newm_eq]
      refine ⟨f4, _, rfl, ?_⟩
      rw [Bool.not_eq_true', List.any_eq_false]
      constructor
      · intro hall
        refine ⟨hR, hin, hac, fun u v => hang_mono fun x hx => ?_⟩
        obtain ⟨i, hi, rfl⟩ := List.mem_map.1 hx
        obtain ⟨k, e, rfl, he, _⟩ := (all_in.1 hi).get
        have hmem := List.mem_of_getElem? he
        obtain ⟨e0, e1, e2, e3⟩ := hr.ends e hmem
        have := hall e hmem
        rw [fE_at he]
        exact (hT _ _ (by omega) (by omega)).1 (by simpa using this)
      · rintro ⟨_, hsp⟩ e hmem
        obtain ⟨k, he⟩ := List.getElem?_of_mem hmem
        obtain ⟨e0, e1, e2, e3⟩ := hr.ends e hmem
        have hk := (List.getElem?_eq_some_iff.1 he).1
        have hh := hsp.all _ _ (hang_mem (List.mem_map.2 ⟨(k : Int), all_in.2 ⟨by omega, by omega⟩, rfl⟩))
        rw [fE_at he] at hh
        have := (hT _ _ (by omega) (by omega)).2 hh
        simpa using this

end Go.Proofs.Ytbnaicgmnadkgaa
