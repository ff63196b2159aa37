/-
  The document's words of layer 25: spans, least.
-/
import Derived.Test.YtbnaicgmnadkgaaRef24b
set_option linter.unusedVariables false
set_option linter.unusedSimpArgs false
namespace Go.Proofs.Ytbnaicgmnadkgaa
open Go Go.Vc

def SpR (n : Int) (es : List Ed) (ks : List Int) : Prop := rightG n es = true ∧ SpanG n es ks

theorem ref25_Spans_spec {H : Hp} {n : Int} {a a' : Option Addr} {c c' : Nat} {es : List Ed} {ks : List Int} (h : RdS H 3 (.slice a es.length c) es.length (flatE es)) (h' : RdS H 1 (.slice a' ks.length c') ks.length (ks.map i64)) (hc' : ks.length ≤ c')
    (hm : es.length ≤ 1000000000) (hl : ks.length ≤ 1000000000) :
    CallH Try.prog n_ref25_Spans [grV n (.slice a es.length c), .slice a' ks.length c'] H fun v H' => Post (Fresh H H' ∧ ∃ b, v = .bool b ∧ (b = true ↔ SpR n es ks)) := by
  refine c_ref25_Spans ⟨rfl, ?_⟩
  have f0 : Fresh H (H.new 24 [i64 n, .slice a es.length c]) := (Ext.refl _ _).new _ _
  have b0 := own_new H 24 [i64 n, .slice a es.length c]
  simp (disch := (first | omega | (simp only [size_new, size_newm, size_wr, size_wrm] <;> omega) | fail)) only [go_sem, Nat.reduceBEq, Nat.reduceAdd, Nat.reduceMul, Nat.reduceLeDiff, ↓reduceIte, rd_new_lt, own_new_lt, mp_new_lt, rd_newm_lt, own_newm_lt, mp_newm_lt, rd_wr_ne, own_wr_ne, mp_wr_ne, rd_wrm_ne, own_wrm_ne, mp_wrm_ne, rd_new_eq, own_new_eq, mp_newm_eq, s_ref25_Spans, grV]
  generalize H.new 24 [i64 n, .slice a es.length c] = H0 at *
  have h0 := h.fresh f0
  refine (ref21_Right_spec (n := n) h0 hm).mono ?_
  rintro _ H1 ⟨rfl, f1⟩
  have b1 := f1.own b0 (fun h => h)
  have f01 := f0.trans f1
  simp (disch := (first | omega | (simp only [size_new, size_newm, size_wr, size_wrm] <;> omega) | fail)) only [go_sem, Nat.reduceBEq, Nat.reduceAdd, Nat.reduceMul, Nat.reduceLeDiff, ↓reduceIte, rd_new_lt, own_new_lt, mp_new_lt, rd_newm_lt, own_newm_lt, mp_newm_lt, rd_wr_ne, own_wr_ne, mp_wr_ne, rd_wrm_ne, own_wrm_ne, mp_wrm_ne, rd_new_eq, own_new_eq, mp_newm_eq]
  cases hR : rightG n es
  · simp (disch := (first | omega | (simp only [size_new, size_newm, size_wr, size_wrm] <;> omega) | fail)) only [go_sem, Nat.reduceBEq, Nat.reduceAdd, Nat.reduceMul, Nat.reduceLeDiff, ↓reduceIte, rd_new_lt, own_new_lt, mp_new_lt, rd_newm_lt, own_newm_lt, mp_newm_lt, rd_wr_ne, own_wr_ne, mp_wr_ne, rd_wrm_ne, own_wrm_ne, mp_wrm_ne, rd_new_eq, own_new_eq, mp_newm_eq]
    exact ⟨f01, false, rfl, iff_of_false (by simp) fun hs => by rw [hs.1] at hR; cases hR⟩
  · simp (disch := (first | omega | (simp only [size_new, size_newm, size_wr, size_wrm] <;> omega) | fail)) only [go_sem, Nat.reduceBEq, Nat.reduceAdd, Nat.reduceMul, Nat.reduceLeDiff, ↓reduceIte, rd_new_lt, own_new_lt, mp_new_lt, rd_newm_lt, own_newm_lt, mp_newm_lt, rd_wr_ne, own_wr_ne, mp_wr_ne, rd_wrm_ne, own_wrm_ne, mp_wrm_ne, rd_new_eq, own_new_eq, mp_newm_eq, rd_of_own b1]
    refine (ref24_Forest_spec (h.fresh f01) (h'.fresh f01) hc' ((rightG_iff n es).1 hR) hl).mono ?_
    rintro _ H2 ⟨f2, b, rfl, hb⟩
    simp (disch := (first | omega | (simp only [size_new, size_newm, size_wr, size_wrm] <;> omega) | fail)) only [go_sem, Nat.reduceBEq, Nat.reduceAdd, Nat.reduceMul, Nat.reduceLeDiff, ↓reduceIte, rd_new_lt, own_new_lt, mp_new_lt, rd_newm_lt, own_newm_lt, mp_newm_lt, rd_wr_ne, own_wr_ne, mp_wr_ne, rd_wrm_ne, own_wrm_ne, mp_wrm_ne, rd_new_eq, own_new_eq, mp_newm_eq]
    exact ⟨f01.trans f2, b, rfl, hb.trans ⟨fun h => ⟨hR, h⟩, fun h => h.2⟩⟩

theorem sumV_eqVs (a b a' b' : Int) : eqVs [(0, (none, .int)), (1, (none, .int))] [i64 a, u64 b] [i64 a', u64 b'] = some (decide (a = a') && decide (b = b')) := by
  by_cases h1 : a = a' <;> by_cases h2 : b = b' <;> simp [eqVs, Vc.partL, eqV, simpleEq, h1, h2]

set_option maxHeartbeats 2000000 in
theorem ref25_Least_spec {H : Hp} {n : Int} {a a' : Option Addr} {c c' : Nat} {es : List Ed} {ks : List Int} (h : RdS H 3 (.slice a es.length c) es.length (flatE es)) (h' : RdS H 1 (.slice a' ks.length c') ks.length (ks.map i64)) (hc' : ks.length ≤ c')
    (hm : es.length ≤ 1000000000) (hl : ks.length ≤ 1000000) (hw : ∀ e ∈ es, -9223372036854775808 ≤ e.w ∧ e.w ≤ 9223372036854775807) :
    CallH Try.prog n_ref25_Least [grV n (.slice a es.length c), .slice a' ks.length c'] H fun v H' => Post (Fresh H H' ∧ ∃ b, v = .bool b ∧ (b = true ↔ SpR n es ks ∧ LocG es ks)) := by
  refine c_ref25_Least ⟨rfl, ?_⟩
  have f0 : Fresh H (H.new 24 [i64 n, .slice a es.length c]) := (Ext.refl _ _).new _ _
  have b0 := own_new H 24 [i64 n, .slice a es.length c]
  simp (disch := (first | omega | (simp only [size_new, size_newm, size_wr, size_wrm] <;> omega) | fail)) only [go_sem, Nat.reduceBEq, Nat.reduceAdd, Nat.reduceMul, Nat.reduceLeDiff, ↓reduceIte, rd_new_lt, own_new_lt, mp_new_lt, rd_newm_lt, own_newm_lt, mp_newm_lt, rd_wr_ne, own_wr_ne, mp_wr_ne, rd_wrm_ne, own_wrm_ne, mp_wrm_ne, rd_new_eq, own_new_eq, mp_newm_eq, s_ref25_Least, grV]
  generalize H.new 24 [i64 n, .slice a es.length c] = H0 at *
  have h0 := h.fresh f0
  refine InvV.intro (fun H' => H'.own H.size = some [i64 n, .slice a es.length c]) b0 ?_
  simp (disch := (first | omega | (simp only [size_new, size_newm, size_wr, size_wrm] <;> omega) | fail)) only [go_sem, Nat.reduceBEq, Nat.reduceAdd, Nat.reduceMul, Nat.reduceLeDiff, ↓reduceIte, rd_new_lt, own_new_lt, mp_new_lt, rd_newm_lt, own_newm_lt, mp_newm_lt, rd_wr_ne, own_wr_ne, mp_wr_ne, rd_wrm_ne, own_wrm_ne, mp_wrm_ne, rd_new_eq, own_new_eq, mp_newm_eq, rd_of_own b0]
  refine And.intro b0 ?_
  simp (disch := (first | omega | (simp only [size_new, size_newm, size_wr, size_wrm] <;> omega) | fail)) only [go_sem, Nat.reduceBEq, Nat.reduceAdd, Nat.reduceMul, Nat.reduceLeDiff, ↓reduceIte, rd_new_lt, own_new_lt, mp_new_lt, rd_newm_lt, own_newm_lt, mp_newm_lt, rd_wr_ne, own_wr_ne, mp_wr_ne, rd_wrm_ne, own_wrm_ne, mp_wrm_ne, rd_new_eq, own_new_eq, mp_newm_eq]
  refine (ref25_Spans_spec h0 (h'.fresh f0) hc' hm (by omega)).mono ?_
  rintro _ H1 ⟨f1, b, rfl, hb⟩
  have b1 := f1.own b0 (fun h => h)
  have f01 := f0.trans f1
  refine And.intro b1 ?_
  simp (disch := (first | omega | (simp only [size_new, size_newm, size_wr, size_wrm] <;> omega) | fail)) only [go_sem, Nat.reduceBEq, Nat.reduceAdd, Nat.reduceMul, Nat.reduceLeDiff, ↓reduceIte, rd_new_lt, own_new_lt, mp_new_lt, rd_newm_lt, own_newm_lt, mp_newm_lt, rd_wr_ne, own_wr_ne, mp_wr_ne, rd_wrm_ne, own_wrm_ne, mp_wrm_ne, rd_new_eq, own_new_eq, mp_newm_eq]
  cases b
  · simp (disch := (first | omega | (simp only [size_new, size_newm, size_wr, size_wrm] <;> omega) | fail)) only [go_sem, Nat.reduceBEq, Nat.reduceAdd, Nat.reduceMul, Nat.reduceLeDiff, ↓reduceIte, rd_new_lt, own_new_lt, mp_new_lt, rd_newm_lt, own_newm_lt, mp_newm_lt, rd_wr_ne, own_wr_ne, mp_wr_ne, rd_wrm_ne, own_wrm_ne, mp_wrm_ne, rd_new_eq, own_new_eq, mp_newm_eq]
    exact ⟨f01, false, rfl, iff_of_false (by simp) fun hs => by have := hb.2 hs.1; cases this⟩
  have hsp := hb.1 rfl
  have hr := (rightG_iff n es).1 hsp.1
  have h1 := h.fresh f01
  simp (disch := (first | omega | (simp only [size_new, size_newm, size_wr, size_wrm] <;> omega) | fail)) only [go_sem, Nat.reduceBEq, Nat.reduceAdd, Nat.reduceMul, Nat.reduceLeDiff, ↓reduceIte, rd_new_lt, own_new_lt, mp_new_lt, rd_newm_lt, own_newm_lt, mp_newm_lt, rd_wr_ne, own_wr_ne, mp_wr_ne, rd_wrm_ne, own_wrm_ne, mp_wrm_ne, rd_new_eq, own_new_eq, mp_newm_eq]
  refine StbV.intro (grV n (.slice a es.length c)) (fun H' hI => by simp (disch := (first | omega | (simp only [size_new, size_newm, size_wr, size_wrm] <;> omega) | fail)) only [go_sem, Nat.reduceBEq, Nat.reduceAdd, Nat.reduceMul, Nat.reduceLeDiff, ↓reduceIte, rd_new_lt, own_new_lt, mp_new_lt, rd_newm_lt, own_newm_lt, mp_newm_lt, rd_wr_ne, own_wr_ne, mp_wr_ne, rd_wrm_ne, own_wrm_ne, mp_wrm_ne, rd_new_eq, own_new_eq, mp_newm_eq, rd_of_own hI]; exact ⟨rfl, trivial⟩) ?_
  simp (disch := (first | omega | (simp only [size_new, size_newm, size_wr, size_wrm] <;> omega) | fail)) only [go_sem, Nat.reduceBEq, Nat.reduceAdd, Nat.reduceMul, Nat.reduceLeDiff, ↓reduceIte, rd_new_lt, own_new_lt, mp_new_lt, rd_newm_lt, own_newm_lt, mp_newm_lt, rd_wr_ne, own_wr_ne, mp_wr_ne, rd_wrm_ne, own_wrm_ne, mp_wrm_ne, rd_new_eq, own_new_eq, mp_newm_eq]
  refine StbV.intro (grV n (.slice a es.length c)) (fun H' hI => by simp (disch := (first | omega | (simp only [size_new, size_newm, size_wr, size_wrm] <;> omega) | fail)) only [go_sem, Nat.reduceBEq, Nat.reduceAdd, Nat.reduceMul, Nat.reduceLeDiff, ↓reduceIte, rd_new_lt, own_new_lt, mp_new_lt, rd_newm_lt, own_newm_lt, mp_newm_lt, rd_wr_ne, own_wr_ne, mp_wr_ne, rd_wrm_ne, own_wrm_ne, mp_wrm_ne, rd_new_eq, own_new_eq, mp_newm_eq, rd_of_own hI]; exact ⟨rfl, trivial⟩) ?_
  simp (disch := (first | omega | (simp only [size_new, size_newm, size_wr, size_wrm] <;> omega) | fail)) only [go_sem, Nat.reduceBEq, Nat.reduceAdd, Nat.reduceMul, Nat.reduceLeDiff, ↓reduceIte, rd_new_lt, own_new_lt, mp_new_lt, rd_newm_lt, own_newm_lt, mp_newm_lt, rd_wr_ne, own_wr_ne, mp_wr_ne, rd_wrm_ne, own_wrm_ne, mp_wrm_ne, rd_new_eq, own_new_eq, mp_newm_eq, rd_of_own b1]
  refine And.intro b1 ?_
  simp (disch := (first | omega | (simp only [size_new, size_newm, size_wr, size_wrm] <;> omega) | fail)) only [go_sem, Nat.reduceBEq, Nat.reduceAdd, Nat.reduceMul, Nat.reduceLeDiff, ↓reduceIte, rd_new_lt, own_new_lt, mp_new_lt, rd_newm_lt, own_newm_lt, mp_newm_lt, rd_wr_ne, own_wr_ne, mp_wr_ne, rd_wrm_ne, own_wrm_ne, mp_wrm_ne, rd_new_eq, own_new_eq, mp_newm_eq]
  refine (ref24_Weight_spec (n := n) h1 (h'.fresh f01) hsp.2.ins hl hw hm).mono ?_
  rintro _ H2 ⟨rfl, f2⟩
  have b2 := f2.own b1 (fun h => h)
  refine And.intro b2 ?_
  simp (disch := (first | omega | (simp only [size_new, size_newm, size_wr, size_wrm] <;> omega) | fail)) only [go_sem, Nat.reduceBEq, Nat.reduceAdd, Nat.reduceMul, Nat.reduceLeDiff, ↓reduceIte, rd_new_lt, own_new_lt, mp_new_lt, rd_newm_lt, own_newm_lt, mp_newm_lt, rd_wr_ne, own_wr_ne, mp_wr_ne, rd_wrm_ne, own_wrm_ne, mp_wrm_ne, rd_new_eq, own_new_eq, mp_newm_eq]
  refine (ref24_Least_spec (h1.fresh f2) hr).mono ?_
  rintro u H3 ⟨f3, L, bl, hperm, hpw, hbl, sL⟩
  have b3 := f3.own b2 (fun h => h)
  obtain ⟨la, lc, rfl, _⟩ := slv_val sL
  refine And.intro b3 ?_
  simp (disch := (first | omega | (simp only [size_new, size_newm, size_wr, size_wrm] <;> omega) | fail)) only [go_sem, Nat.reduceBEq, Nat.reduceAdd, Nat.reduceMul, Nat.reduceLeDiff, ↓reduceIte, rd_new_lt, own_new_lt, mp_new_lt, rd_newm_lt, own_newm_lt, mp_newm_lt, rd_wr_ne, own_wr_ne, mp_wr_ne, rd_wrm_ne, own_wrm_ne, mp_wrm_ne, rd_new_eq, own_new_eq, mp_newm_eq]
  obtain ⟨g1, g2, g3⟩ := greedy_ok (e := fE es) L
  have gin : ∀ i ∈ greedy (fE es) L, InE es i := fun i hi => all_in.1 (hperm.mem_iff.1 (g2 i hi))
  have hgl : (greedy (fE es) L).length ≤ 65536 := by
    have := greedy_len (e := fE es) L
    have h2 := hperm.length_eq
    rw [allI_len] at h2
    have := hr.len
    omega
  refine (ref24_Weight_spec (n := n) ((h1.fresh f2).fresh f3) sL.rd gin (by omega) hw hm).mono ?_
  rintro _ H4 ⟨rfl, f4⟩
  refine And.intro (f4.own b3 (fun h => h)) ?_
  have hli := least_iff hr hsp.2 hperm hpw
  simp (disch := (first | omega | (simp only [size_new, size_newm, size_wr, size_wrm] <;> omega) | fail)) only [go_sem, Nat.reduceBEq, Nat.reduceAdd, Nat.reduceMul, Nat.reduceLeDiff, ↓reduceIte, rd_new_lt, own_new_lt, mp_new_lt, rd_newm_lt, own_newm_lt, mp_newm_lt, rd_wr_ne, own_wr_ne, mp_wr_ne, rd_wrm_ne, own_wrm_ne, mp_wrm_ne, rd_new_eq, own_new_eq, mp_newm_eq, sumV, sumV_eqVs, Option.map_some]
  refine ⟨f01.trans (f2.trans (f3.trans f4)), _, rfl, ?_⟩
  rw [Bool.and_eq_true, decide_eq_true_eq, decide_eq_true_eq]
  constructor
  · rintro ⟨e1, e2⟩
    exact ⟨hsp, hli.1 (valS_inj (Prod.ext e1 (by omega)))⟩
  · rintro ⟨_, hloc⟩
    rw [hli.2 hloc]
    exact ⟨rfl, rfl⟩

end Go.Proofs.Ytbnaicgmnadkgaa
