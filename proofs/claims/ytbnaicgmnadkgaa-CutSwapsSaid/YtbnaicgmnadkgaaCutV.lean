/-
  A step up in a tree.
-/
import Derived.Test.YtbnaicgmnadkgaaCutT
import Derived.Test.YtbnaicgmnadkgaaRef25r
set_option linter.unusedVariables false
set_option linter.unusedSimpArgs false
namespace Go.Proofs.Ytbnaicgmnadkgaa
open Go Go.Vc

set_option maxHeartbeats 2000000 in
theorem cut_tree_above_spec {H : Hp} {B t bu bd bp n : Nat} {N : Int} {a : Option Addr} {c : Nat} {es : List Ed} {up deep part : Nat → Int} (T : TreeAt H B t bu bd bp n N (.slice a es.length c) up deep part) (h : RdS H 3 (.slice a es.length c) es.length (flatE es))
    {v : Nat} (hv : v < n) (hn : n ≤ 4096) (hin : InE es (up v)) (hb : ∀ e ∈ es, 0 ≤ e.f ∧ e.f < 4096 ∧ 0 ≤ e.t ∧ e.t < 4096) (htu : Touch (fE es (up v)) v) :
    CallH Try.prog n_cut_tree_above [ptr t, i64 v] H fun w H' => Post (w = i64 ((other (fE es (up v)) v : Nat) : Int) ∧ Fresh H H') := by
  refine c_cut_tree_above ⟨rfl, ?_⟩
  obtain ⟨ik, e, hup, he, hik⟩ := hin.get
  obtain ⟨ef0, ef1, et0, et1⟩ := hb e (List.mem_of_getElem? he)
  have hfE := fE_at he
  have hwv : e.f + e.t - (v : Int) = ((other (fE es (up v)) v : Nat) : Int) := by
    rw [hup, hfE] at htu ⊢
    unfold other
    rcases htu with h1 | h1
    · have h1 : e.f.toNat = v := h1
      show e.f + e.t - (v : Int) = ((e.f.toNat + e.t.toNat - v : Nat) : Int)
      omega
    · have h1 : e.t.toNat = v := h1
      show e.f + e.t - (v : Int) = ((e.f.toNat + e.t.toNat - v : Nat) : Int)
      omega
  simp (disch := (first | omega | (simp only [size_new, size_newm, size_wr, size_wrm] <;> omega) | fail)) only [go_sem, Nat.reduceBEq, Nat.reduceAdd, Nat.reduceMul, Nat.reduceLeDiff, ↓reduceIte, rd_new_lt, own_new_lt, mp_new_lt, rd_newm_lt, own_newm_lt, mp_newm_lt, rd_wr_ne, own_wr_ne, mp_wr_ne, rd_wrm_ne, own_wrm_ne, mp_wrm_ne, rd_new_eq, own_new_eq, mp_newm_eq, s_cut_tree_above]
  refine InvV.intro (fun H' => TreeAt H' B t bu bd bp n N (.slice a es.length c) up deep part ∧ RdS H' 3 (.slice a es.length c) es.length (flatE es)) ⟨T, h⟩ ?_
  simp (disch := (first | omega | (simp only [size_new, size_newm, size_wr, size_wrm] <;> omega) | fail)) only [go_sem, Nat.reduceBEq, Nat.reduceAdd, Nat.reduceMul, Nat.reduceLeDiff, ↓reduceIte, rd_new_lt, own_new_lt, mp_new_lt, rd_newm_lt, own_newm_lt, mp_newm_lt, rd_wr_ne, own_wr_ne, mp_wr_ne, rd_wrm_ne, own_wrm_ne, mp_wrm_ne, rd_new_eq, own_new_eq, mp_newm_eq]
  refine StbV.intro (.slice a es.length c) (fun H' hI => by simp (disch := (first | omega | (simp only [size_new, size_newm, size_wr, size_wrm] <;> omega) | fail)) only [go_sem, Nat.reduceBEq, Nat.reduceAdd, Nat.reduceMul, Nat.reduceLeDiff, ↓reduceIte, rd_new_lt, own_new_lt, mp_new_lt, rd_newm_lt, own_newm_lt, mp_newm_lt, rd_wr_ne, own_wr_ne, mp_wr_ne, rd_wrm_ne, own_wrm_ne, mp_wrm_ne, rd_new_eq, own_new_eq, mp_newm_eq, rd_of_own hI.1.box]; trivial) ?_
  simp (disch := (first | omega | (simp only [size_new, size_newm, size_wr, size_wrm] <;> omega) | fail)) only [go_sem, Nat.reduceBEq, Nat.reduceAdd, Nat.reduceMul, Nat.reduceLeDiff, ↓reduceIte, rd_new_lt, own_new_lt, mp_new_lt, rd_newm_lt, own_newm_lt, mp_newm_lt, rd_wr_ne, own_wr_ne, mp_wr_ne, rd_wrm_ne, own_wrm_ne, mp_wrm_ne, rd_new_eq, own_new_eq, mp_newm_eq]
  refine StbV.intro (.slice (some ⟨bu, 0, none⟩) n n) (fun H' hI => by simp (disch := (first | omega | (simp only [size_new, size_newm, size_wr, size_wrm] <;> omega) | fail)) only [go_sem, Nat.reduceBEq, Nat.reduceAdd, Nat.reduceMul, Nat.reduceLeDiff, ↓reduceIte, rd_new_lt, own_new_lt, mp_new_lt, rd_newm_lt, own_newm_lt, mp_newm_lt, rd_wr_ne, own_wr_ne, mp_wr_ne, rd_wrm_ne, own_wrm_ne, mp_wrm_ne, rd_new_eq, own_new_eq, mp_newm_eq, rd_of_own hI.1.box]; trivial) ?_
  simp (disch := (first | omega | (simp only [size_new, size_newm, size_wr, size_wrm] <;> omega) | fail)) only [go_sem, Nat.reduceBEq, Nat.reduceAdd, Nat.reduceMul, Nat.reduceLeDiff, ↓reduceIte, rd_new_lt, own_new_lt, mp_new_lt, rd_newm_lt, own_newm_lt, mp_newm_lt, rd_wr_ne, own_wr_ne, mp_wr_ne, rd_wrm_ne, own_wrm_ne, mp_wrm_ne, rd_new_eq, own_new_eq, mp_newm_eq]
  refine ⟨⟨by omega, by omega⟩, ?_⟩
  simp (disch := (first | omega | (simp only [size_new, size_newm, size_wr, size_wrm] <;> omega) | fail)) only [go_sem, Nat.reduceBEq, Nat.reduceAdd, Nat.reduceMul, Nat.reduceLeDiff, ↓reduceIte, rd_new_lt, own_new_lt, mp_new_lt, rd_newm_lt, own_newm_lt, mp_newm_lt, rd_wr_ne, own_wr_ne, mp_wr_ne, rd_wrm_ne, own_wrm_ne, mp_wrm_ne, rd_new_eq, own_new_eq, mp_newm_eq]
  refine StbV.intro (i64 ik) (fun H' hI => by simp (disch := (first | omega | (simp only [size_new, size_newm, size_wr, size_wrm] <;> omega) | fail)) only [go_sem, Nat.reduceBEq, Nat.reduceAdd, Nat.reduceMul, Nat.reduceLeDiff, ↓reduceIte, rd_new_lt, own_new_lt, mp_new_lt, rd_newm_lt, own_newm_lt, mp_newm_lt, rd_wr_ne, own_wr_ne, mp_wr_ne, rd_wrm_ne, own_wrm_ne, mp_wrm_ne, rd_new_eq, own_new_eq, mp_newm_eq, rd_of_own hI.1.ups, Int.toNat_natCast, Nat.mul_one, Nat.zero_add, ofF_cell up hv, hup]; trivial) ?_
  obtain ⟨_, be, oe, le, rfl, hrde, hle, hcells, hc0, hc1, hc2⟩ := RdS.edgeAt h he
  simp (disch := (first | omega | (simp only [size_new, size_newm, size_wr, size_wrm] <;> omega) | fail)) only [go_sem, Nat.reduceBEq, Nat.reduceAdd, Nat.reduceMul, Nat.reduceLeDiff, ↓reduceIte, rd_new_lt, own_new_lt, mp_new_lt, rd_newm_lt, own_newm_lt, mp_newm_lt, rd_wr_ne, own_wr_ne, mp_wr_ne, rd_wrm_ne, own_wrm_ne, mp_wrm_ne, rd_new_eq, own_new_eq, mp_newm_eq]
  refine ⟨⟨by omega, by omega⟩, ?_⟩
  simp (disch := (first | omega | (simp only [size_new, size_newm, size_wr, size_wrm] <;> omega) | fail)) only [go_sem, Nat.reduceBEq, Nat.reduceAdd, Nat.reduceMul, Nat.reduceLeDiff, ↓reduceIte, rd_new_lt, own_new_lt, mp_new_lt, rd_newm_lt, own_newm_lt, mp_newm_lt, rd_wr_ne, own_wr_ne, mp_wr_ne, rd_wrm_ne, own_wrm_ne, mp_wrm_ne, rd_new_eq, own_new_eq, mp_newm_eq]
  refine StbV.intro (.agg #[i64 e.f, i64 e.t, i64 e.w]) (fun H' hI => ?_) ?_
  · obtain ⟨_, be', oe', le', hae, hrde', hle', hcells'⟩ := RdS.edge hI.2 he
    injection hae with hae
    injection hae with hae hoe
    subst hae; subst hoe
    simp (disch := (first | omega | (simp only [size_new, size_newm, size_wr, size_wrm] <;> omega) | fail)) only [go_sem, Nat.reduceBEq, Nat.reduceAdd, Nat.reduceMul, Nat.reduceLeDiff, ↓reduceIte, rd_new_lt, own_new_lt, mp_new_lt, rd_newm_lt, own_newm_lt, mp_newm_lt, rd_wr_ne, own_wr_ne, mp_wr_ne, rd_wrm_ne, own_wrm_ne, mp_wrm_ne, rd_new_eq, own_new_eq, mp_newm_eq, hrde', Int.toNat_natCast]
    refine ⟨by omega, ?_⟩
    simp (disch := (first | omega | (simp only [size_new, size_newm, size_wr, size_wrm] <;> omega) | fail)) only [go_sem, Nat.reduceBEq, Nat.reduceAdd, Nat.reduceMul, Nat.reduceLeDiff, ↓reduceIte, rd_new_lt, own_new_lt, mp_new_lt, rd_newm_lt, own_newm_lt, mp_newm_lt, rd_wr_ne, own_wr_ne, mp_wr_ne, rd_wrm_ne, own_wrm_ne, mp_wrm_ne, rd_new_eq, own_new_eq, mp_newm_eq, hcells', cellsE]
    trivial
  have fz : Fresh H (H.new 35 [i64 0, i64 0, i64 0]) := (Ext.refl _ _).new _ _
  have q1 := own_new H 35 [i64 0, i64 0, i64 0]
  simp (disch := (first | omega | (simp only [size_new, size_newm, size_wr, size_wrm] <;> omega) | fail)) only [go_sem, Nat.reduceBEq, Nat.reduceAdd, Nat.reduceMul, Nat.reduceLeDiff, ↓reduceIte, rd_new_lt, own_new_lt, mp_new_lt, rd_newm_lt, own_newm_lt, mp_newm_lt, rd_wr_ne, own_wr_ne, mp_wr_ne, rd_wrm_ne, own_wrm_ne, mp_wrm_ne, rd_new_eq, own_new_eq, mp_newm_eq]
  refine And.intro ⟨T.fresh fz, h.fresh fz⟩ ?_
  have f1 : Fresh H ((H.new 35 [i64 0, i64 0, i64 0]).wr H.size [i64 e.f, i64 e.t, i64 e.w]) := fz.then ((Ext.refl (fun z => z = H.size) _).wr (fun _ => rfl) _) (fun z hz => by omega)
  have q2 := own_wr_same (l := [i64 e.f, i64 e.t, i64 e.w]) q1
  simp (disch := (first | omega | (simp only [size_new, size_newm, size_wr, size_wrm] <;> omega) | fail)) only [go_sem, Nat.reduceBEq, Nat.reduceAdd, Nat.reduceMul, Nat.reduceLeDiff, ↓reduceIte, rd_new_lt, own_new_lt, mp_new_lt, rd_newm_lt, own_newm_lt, mp_newm_lt, rd_wr_ne, own_wr_ne, mp_wr_ne, rd_wrm_ne, own_wrm_ne, mp_wrm_ne, rd_new_eq, own_new_eq, mp_newm_eq]
  refine And.intro ⟨T.fresh f1, h.fresh f1⟩ ?_
  simp (disch := (first | omega | (simp only [size_new, size_newm, size_wr, size_wrm] <;> omega) | fail)) only [go_sem, Nat.reduceBEq, Nat.reduceAdd, Nat.reduceMul, Nat.reduceLeDiff, ↓reduceIte, rd_new_lt, own_new_lt, mp_new_lt, rd_newm_lt, own_newm_lt, mp_newm_lt, rd_wr_ne, own_wr_ne, mp_wr_ne, rd_wrm_ne, own_wrm_ne, mp_wrm_ne, rd_new_eq, own_new_eq, mp_newm_eq, rd_of_own q2]
  rw [wrap64 (n := e.f + e.t) (by omega) (by omega), wrap64 (n := e.f + e.t - v) (by omega) (by omega), hwv]
  exact ⟨rfl, f1⟩

/-- Turned about, the first j and the last j. -/
def revN (l : List Int) (j : Nat) : List Int := (l.drop (l.length - j)).reverse ++ (l.drop j).take (l.length - 2 * j) ++ (l.take j).reverse

theorem revN_at {l : List Int} {j : Nat} (hj : 2 * j ≤ l.length) (k : Nat) (hk : k < l.length) : (revN l j)[k]? = if k < j ∨ l.length - j ≤ k then l[l.length - 1 - k]? else l[k]? := by
  unfold revN
  rw [List.append_assoc, List.getElem?_append, List.length_reverse, List.length_drop]
  by_cases h1 : k < j
  · rw [if_pos (by omega), if_pos (.inl h1), List.getElem?_reverse (by rw [List.length_drop]; omega), List.length_drop, List.getElem?_drop]
    congr 1
    omega
  · rw [if_neg (by omega), List.getElem?_append, List.length_take, List.length_drop]
    by_cases h2 : l.length - j ≤ k
    · rw [if_neg (by omega), if_pos (.inr h2), List.getElem?_reverse (by rw [List.length_take]; omega), List.length_take, List.getElem?_take, if_pos (by omega)]
      congr 1
      omega
    · rw [if_pos (by omega), if_neg (by omega), List.getElem?_take, if_pos (by omega), List.getElem?_drop]
      congr 1
      omega

theorem revN_len {l : List Int} {j : Nat} (hj : 2 * j ≤ l.length) : (revN l j).length = l.length := by
  unfold revN
  simp only [List.length_append, List.length_reverse, List.length_drop, List.length_take]
  omega

theorem revN_step {l : List Int} {j : Nat} (hj : j < l.length - 1 - j) : ((revN l j).set j (l.getD (l.length - 1 - j) 0)).set (l.length - 1 - j) (l.getD j 0) = revN l (j + 1) := by
  apply List.ext_getElem?
  intro k
  have e1 := revN_len (l := l) (j := j) (by omega)
  by_cases hk : k < l.length
  · rw [revN_at (by omega) k hk]
    have ej : l[l.length - 1 - j]? = some (l.getD (l.length - 1 - j) 0) := by rw [List.getD_eq_getElem?_getD, List.getElem?_eq_getElem (by omega)]; rfl
    have ek : l[j]? = some (l.getD j 0) := by rw [List.getD_eq_getElem?_getD, List.getElem?_eq_getElem (by omega)]; rfl
    by_cases h1 : k = l.length - 1 - j
    · subst h1
      rw [List.getElem?_set_self (by rw [List.length_set, e1]; omega), if_pos (.inr (by omega)), show l.length - 1 - (l.length - 1 - j) = j by omega, ek]
    · rw [List.getElem?_set_ne (Ne.symm h1)]
      by_cases h2 : k = j
      · subst h2
        rw [List.getElem?_set_self (by rw [e1]; omega), if_pos (.inl (by omega)), ej]
      · rw [List.getElem?_set_ne (Ne.symm h2), revN_at (by omega) k hk]
        by_cases h3 : k < j ∨ l.length - j ≤ k
        · rw [if_pos h3, if_pos (by omega)]
        · rw [if_neg h3, if_neg (by omega)]
  · rw [List.getElem?_eq_none (by simp only [List.length_set]; omega), List.getElem?_eq_none (by rw [revN_len (by omega)]; omega)]

theorem revN_zero (l : List Int) : revN l 0 = l := by unfold revN; simp
theorem revN_end {l : List Int} {j : Nat} (h1 : l.length - 1 - j ≤ j) (h2 : 2 * j ≤ l.length) : revN l j = l.reverse := by
  apply List.ext_getElem?
  intro k
  by_cases hk : k < l.length
  · rw [revN_at h2 k hk, List.getElem?_reverse hk]
    by_cases h3 : k < j ∨ l.length - j ≤ k
    · rw [if_pos h3]
    · rw [if_neg h3]
      congr 1
      omega
  · rw [List.getElem?_eq_none (by rw [revN_len h2]; omega), List.getElem?_eq_none (by rw [List.length_reverse]; omega)]

/-- Of a slice of its own at most its own block is changed; the value stays. -/
theorem slices_ReverseI_spec {H : Hp} {a : Option Addr} {c : Nat} {xs : List Int} {fp : Option Nat} (h : Sl H 1 (.slice a xs.length c) xs.length (xs.map i64) fp) (hl : xs.length ≤ 1000000000) :
    CallH Try.prog n_slices_Reverse_int_int [.slice a xs.length c] H fun v H' => Post (v = .tuple [].toArray ∧ Sl H' 1 (.slice a xs.length c) xs.reverse.length (xs.reverse.map i64) fp ∧ Ext (fun z => fp = some z) H H') := by
  refine c_slices_Reverse_int_int ⟨rfl, ?_⟩
  simp (disch := (first | omega | (simp only [size_new, size_newm, size_wr, size_wrm] <;> omega) | fail)) only [go_sem, Nat.reduceBEq, Nat.reduceAdd, Nat.reduceMul, Nat.reduceLeDiff, ↓reduceIte, rd_new_lt, own_new_lt, mp_new_lt, rd_newm_lt, own_newm_lt, mp_newm_lt, rd_wr_ne, own_wr_ne, mp_wr_ne, rd_wrm_ne, own_wrm_ne, mp_wrm_ne, rd_new_eq, own_new_eq, mp_newm_eq, s_slices_Reverse_int_int]
  rw [wrap64 (n := ((xs.length : Nat) : Int) - 1) (by omega) (by omega)]
  refine LoopV.intro (fun m env H' => ∃ j : Nat, m = xs.length - j ∧ 2 * j ≤ xs.length ∧ Sl H' 1 (.slice a xs.length c) xs.length ((revN xs j).map i64) fp ∧ Ext (fun z => fp = some z) H H' ∧
    env = [(0, .slice a xs.length c), (2, i64 j), (3, i64 ((xs.length : Int) - 1 - j))]) xs.length ⟨0, by omega, by omega, by rw [revN_zero]; exact h, Ext.refl _ _, by simp⟩ ?_
  rintro m env H1 ⟨j, hm, hj, s1, e1, rfl⟩
  simp (disch := (first | omega | (simp only [size_new, size_newm, size_wr, size_wrm] <;> omega) | fail)) only [go_sem, Nat.reduceBEq, Nat.reduceAdd, Nat.reduceMul, Nat.reduceLeDiff, ↓reduceIte, rd_new_lt, own_new_lt, mp_new_lt, rd_newm_lt, own_newm_lt, mp_newm_lt, rd_wr_ne, own_wr_ne, mp_wr_ne, rd_wrm_ne, own_wrm_ne, mp_wrm_ne, rd_new_eq, own_new_eq, mp_newm_eq]
  refine Both.dec (fun hlt => ?_) (fun hlt => ?_) <;> simp (disch := (first | omega | (simp only [size_new, size_newm, size_wr, size_wrm] <;> omega) | fail)) only [go_sem, Nat.reduceBEq, Nat.reduceAdd, Nat.reduceMul, Nat.reduceLeDiff, ↓reduceIte, rd_new_lt, own_new_lt, mp_new_lt, rd_newm_lt, own_newm_lt, mp_newm_lt, rd_wr_ne, own_wr_ne, mp_wr_ne, rd_wrm_ne, own_wrm_ne, mp_wrm_ne, rd_new_eq, own_new_eq, mp_newm_eq]
  · cases fp with
    | none => obtain ⟨_, h0, _⟩ := h; omega
    | some b =>
      have hj2 : j < xs.length - 1 - j := by omega
      have ej : (revN xs j)[j]? = some (xs.getD j 0) := by rw [revN_at hj j (by omega), if_neg (by omega), List.getD_eq_getElem?_getD, List.getElem?_eq_getElem (by omega)]; rfl
      have ek : (revN xs j)[xs.length - 1 - j]? = some (xs.getD (xs.length - 1 - j) 0) := by rw [revN_at hj _ (by omega), if_neg (by omega), List.getD_eq_getElem?_getD, List.getElem?_eq_getElem (by omega)]; rfl
      obtain ⟨_, rfl, lb, ho, hc1⟩ := Sl.num s1 ej
      obtain ⟨_, _, lb', ho', hc2⟩ := Sl.num s1 ek
      rw [ho] at ho'
      injection ho' with ho'
      subst ho'
      have hll : xs.length ≤ lb.length := by
        obtain ⟨_, l, c2, _, h2, h3, h4, _⟩ := s1
        rw [ho] at h2; injection h2 with h2; subst h2; omega
      rw [show (xs.length : Int) - 1 - j = ((xs.length - 1 - j : Nat) : Int) by omega]
      refine ⟨⟨by omega, by omega⟩, ?_⟩
      simp (disch := (first | omega | (simp only [size_new, size_newm, size_wr, size_wrm] <;> omega) | fail)) only [go_sem, Nat.reduceBEq, Nat.reduceAdd, Nat.reduceMul, Nat.reduceLeDiff, ↓reduceIte, rd_new_lt, own_new_lt, mp_new_lt, rd_newm_lt, own_newm_lt, mp_newm_lt, rd_wr_ne, own_wr_ne, mp_wr_ne, rd_wrm_ne, own_wrm_ne, mp_wrm_ne, rd_new_eq, own_new_eq, mp_newm_eq, rd_of_own ho, Int.toNat_natCast, Nat.mul_one, Nat.zero_add, hc2]
      refine ⟨⟨by omega, by omega⟩, ?_⟩
      simp (disch := (first | omega | (simp only [size_new, size_newm, size_wr, size_wrm] <;> omega) | fail)) only [go_sem, Nat.reduceBEq, Nat.reduceAdd, Nat.reduceMul, Nat.reduceLeDiff, ↓reduceIte, rd_new_lt, own_new_lt, mp_new_lt, rd_newm_lt, own_newm_lt, mp_newm_lt, rd_wr_ne, own_wr_ne, mp_wr_ne, rd_wrm_ne, own_wrm_ne, mp_wrm_ne, rd_new_eq, own_new_eq, mp_newm_eq, rd_of_own ho, Int.toNat_natCast, Nat.mul_one, Nat.zero_add, hc1]
      refine ⟨⟨by omega, by omega⟩, ?_⟩
      simp (disch := (first | omega | (simp only [size_new, size_newm, size_wr, size_wrm] <;> omega) | fail)) only [go_sem, Nat.reduceBEq, Nat.reduceAdd, Nat.reduceMul, Nat.reduceLeDiff, ↓reduceIte, rd_new_lt, own_new_lt, mp_new_lt, rd_newm_lt, own_newm_lt, mp_newm_lt, rd_wr_ne, own_wr_ne, mp_wr_ne, rd_wrm_ne, own_wrm_ne, mp_wrm_ne, rd_new_eq, own_new_eq, mp_newm_eq, ho, Int.toNat_natCast, Nat.mul_one, Nat.zero_add]
      refine ⟨by omega, ?_⟩
      have s2 := s1.set1 ho j (i64 (xs.getD (xs.length - 1 - j) 0))
      have o2 := own_wr_same (l := lb.set j (i64 (xs.getD (xs.length - 1 - j) 0))) ho
      have e2 : Ext (fun z => some b = some z) H (H1.wr b (lb.set j (i64 (xs.getD (xs.length - 1 - j) 0)))) := e1.trans ((Ext.refl (fun z => some b = some z) _).wr (fun _ => rfl) _)
      simp (disch := (first | omega | (simp only [size_new, size_newm, size_wr, size_wrm] <;> omega) | fail)) only [go_sem, Nat.reduceBEq, Nat.reduceAdd, Nat.reduceMul, Nat.reduceLeDiff, ↓reduceIte, rd_new_lt, own_new_lt, mp_new_lt, rd_newm_lt, own_newm_lt, mp_newm_lt, rd_wr_ne, own_wr_ne, mp_wr_ne, rd_wrm_ne, own_wrm_ne, mp_wrm_ne, rd_new_eq, own_new_eq, mp_newm_eq]
      generalize H1.wr b (lb.set j (i64 (xs.getD (xs.length - 1 - j) 0))) = H2 at *
      refine ⟨⟨by omega, by omega⟩, ?_⟩
      simp (disch := (first | omega | (simp only [size_new, size_newm, size_wr, size_wrm] <;> omega) | fail)) only [go_sem, Nat.reduceBEq, Nat.reduceAdd, Nat.reduceMul, Nat.reduceLeDiff, ↓reduceIte, rd_new_lt, own_new_lt, mp_new_lt, rd_newm_lt, own_newm_lt, mp_newm_lt, rd_wr_ne, own_wr_ne, mp_wr_ne, rd_wrm_ne, own_wrm_ne, mp_wrm_ne, rd_new_eq, own_new_eq, mp_newm_eq, o2, Int.toNat_natCast, Nat.mul_one, Nat.zero_add]
      refine ⟨by rw [List.length_set]; omega, ?_⟩
      have s3 := s2.set1 o2 (xs.length - 1 - j) (i64 (xs.getD j 0))
      have e3 := e2.trans ((Ext.refl (fun z => some b = some z) H2).wr (fun _ => rfl) ((lb.set j (i64 (xs.getD (xs.length - 1 - j) 0))).set (xs.length - 1 - j) (i64 (xs.getD j 0))))
      rw [← List.map_set, ← List.map_set, revN_step hj2] at s3
      simp (disch := (first | omega | (simp only [size_new, size_newm, size_wr, size_wrm] <;> omega) | fail)) only [go_sem, Nat.reduceBEq, Nat.reduceAdd, Nat.reduceMul, Nat.reduceLeDiff, ↓reduceIte, rd_new_lt, own_new_lt, mp_new_lt, rd_newm_lt, own_newm_lt, mp_newm_lt, rd_wr_ne, own_wr_ne, mp_wr_ne, rd_wrm_ne, own_wrm_ne, mp_wrm_ne, rd_new_eq, own_new_eq, mp_newm_eq]
      rw [wrap64 (n := (j : Int) + 1) (by omega) (by omega), wrap64 (n := ((xs.length - 1 - j : Nat) : Int) - 1) (by omega) (by omega)]
      refine ⟨xs.length - (j + 1), by omega, j + 1, rfl, by omega, s3, e3, ?_⟩
      rw [show (xs.length : Int) - 1 - ((j + 1 : Nat) : Int) = ((xs.length - 1 - j : Nat) : Int) - 1 by omega]
      rfl
  · have hr : revN xs j = xs.reverse := revN_end (by omega) hj
    rw [hr] at s1
    refine ⟨rfl, ?_, e1⟩
    rw [List.length_reverse]
    exact s1

/-- A number more: just its own block may have changed, or it has a new one. -/
theorem pushF {H : Hp} {T : Nat} {w : Value} {xs : List Int} {fp : Option Nat} {K : Value → Hp → Prop} (s : Sl H 1 w xs.length (xs.map i64) fp) (x : Int) (hl : xs.length ≤ 1000000000000)
    (hk : ∀ w' H' fp', (fp' = fp ∨ ∃ b', fp' = some b' ∧ H.size ≤ b') → Sl H' 1 w' (xs ++ [x]).length ((xs ++ [x]).map i64) fp' → Ext (fun z => fp = some z) H H' → K w' H') :
    AppendV T 1 8 [i64 0] w (.slice (some ⟨H.size, 0, none⟩) 1 1) (H.new T [i64 x]) K := by
  have fl : Fresh H (H.new T [i64 x]) := (Ext.refl _ _).new _ _
  refine Sl.append (s.ext fl (fun _ _ h => h)) (Sl.lit_at (size := 1) (n := 1) (xs := [i64 x]) rfl rfl).rd rfl (ones_is [x]) (by omega) ?_
  intro v' H' fp' s' e' hf'
  refine hk v' H' fp' ?_ (by rw [List.length_append, List.map_append]; exact s') ⟨Nat.le_trans fl.size e'.size, fun z hz hn => by rw [e'.keep z (Nat.lt_of_lt_of_le hz fl.size) hn, fl.keep z hz (fun h => h)]⟩
  rcases hf' with h | ⟨b', h, h1, _⟩
  · exact .inl h
  · rw [size_new] at h1
    exact .inr ⟨b', h, by omega⟩

set_option maxHeartbeats 4000000 in
theorem cut_tree_row_spec {H : Hp} {B t bu bd bp n : Nat} {N : Int} {a : Option Addr} {c : Nat} {es : List Ed} {ks : List Int} {up : Nat → Int} {deep part : Nat → Nat} (T : TreeAt H B t bu bd bp n N (.slice a es.length c) up (fun v => ((deep v : Nat) : Int)) (fun v => ((part v : Nat) : Int))) (h : RdS H 3 (.slice a es.length c) es.length (flatE es))
    (R : Rooted n (fE es) ks up deep part) (hin : ∀ i ∈ ks, InE es i) (hd : ∀ v, v < n → deep v ≤ n) (hn : n ≤ 4096) (hb : ∀ e ∈ es, 0 ≤ e.f ∧ e.f < 4096 ∧ 0 ≤ e.t ∧ e.t < 4096) {x y : Nat} (hx : x < n) (hy : y < n) (hp : part x = part y) :
    CallH Try.prog n_cut_tree_row [ptr t, i64 x, i64 y] H fun v H' => Post (Fresh H H' ∧ ∃ l fp, RowG es ks x y l ∧ Sl H' 1 v l.length (l.map i64) fp ∧ ∀ b, fp = some b → H.size ≤ b) := by
  refine c_cut_tree_row ⟨rfl, ?_⟩
  simp (disch := (first | omega | (simp only [size_new, size_newm, size_wr, size_wrm] <;> omega) | fail)) only [go_sem, Nat.reduceBEq, Nat.reduceAdd, Nat.reduceMul, Nat.reduceLeDiff, ↓reduceIte, rd_new_lt, own_new_lt, mp_new_lt, rd_newm_lt, own_newm_lt, mp_newm_lt, rd_wr_ne, own_wr_ne, mp_wr_ne, rd_wrm_ne, own_wrm_ne, mp_wrm_ne, rd_new_eq, own_new_eq, mp_newm_eq, s_cut_tree_row]
  refine LoopV.intro (fun m env H' => Fresh H H' ∧ ∃ (u v : Nat) (fv bv : List Nat) (sa sb : Option Addr) (ca cb : Nat) (fa fb : Option Nat), m = deep u + deep v ∧ Climb n (fE es) ks up deep part x y u v fv bv ∧
    Sl H' 1 (.slice sa (fv.map up).length ca) (fv.map up).length ((fv.map up).map i64) fa ∧ Sl H' 1 (.slice sb (bv.map up).length cb) (bv.map up).length ((bv.map up).map i64) fb ∧ (∀ z, fa = some z → H.size ≤ z) ∧ (∀ z, fb = some z → H.size ≤ z) ∧ (∀ z, fa = some z → fb ≠ some z) ∧
    fv.length + deep u ≤ n ∧ bv.length + deep v ≤ n ∧
    env = [(0, ptr t), (1, i64 u), (2, i64 v), (7, .slice sa (fv.map up).length ca), (8, .slice sb (bv.map up).length cb)]) _ ⟨Ext.refl _ _, x, y, [], [], none, none, 0, 0, none, none, rfl, Climb.start hx hy hp, Sl.nil _ _, Sl.nil _ _, (by intro z h; cases h), (by intro z h; cases h), (by intro z h; cases h), by have := hd x hx; simpa using this, by have := hd y hy; simpa using this, rfl⟩ ?_
  rintro m env H1 ⟨f1, u, v, fv, bv, sa, sb, ca, cb, fa, fb, hm, cl, s1, s2, la, lb, hne, hfl, hbl, rfl⟩
  have T1 := T.fresh f1
  have h1 := h.fresh f1
  have hu := cl.an
  have hv := cl.bn
  have hdu := hd u hu
  have hdv := hd v hv
  simp (disch := (first | omega | (simp only [size_new, size_newm, size_wr, size_wrm] <;> omega) | fail)) only [go_sem, Nat.reduceBEq, Nat.reduceAdd, Nat.reduceMul, Nat.reduceLeDiff, ↓reduceIte, rd_new_lt, own_new_lt, mp_new_lt, rd_newm_lt, own_newm_lt, mp_newm_lt, rd_wr_ne, own_wr_ne, mp_wr_ne, rd_wrm_ne, own_wrm_ne, mp_wrm_ne, rd_new_eq, own_new_eq, mp_newm_eq]
  refine Both.dec (fun huv => ?_) (fun huv => ?_) <;> simp (disch := (first | omega | (simp only [size_new, size_newm, size_wr, size_wrm] <;> omega) | fail)) only [go_sem, Nat.reduceBEq, Nat.reduceAdd, Nat.reduceMul, Nat.reduceLeDiff, ↓reduceIte, rd_new_lt, own_new_lt, mp_new_lt, rd_newm_lt, own_newm_lt, mp_newm_lt, rd_wr_ne, own_wr_ne, mp_wr_ne, rd_wrm_ne, own_wrm_ne, mp_wrm_ne, rd_new_eq, own_new_eq, mp_newm_eq, rd_of_own T1.box]
  · have huv' : u = v := by omega
    subst huv'
    refine (slices_ReverseI_spec s2 (by rw [List.length_map]; omega)).mono ?_
    rintro _ H2 ⟨rfl, s3, e3⟩
    have s1' := s1.ext e3 (fun z hz h => hne z hz h)
    obtain ⟨r1, r2, r3⟩ := cl.meet R
    have f2 : Fresh H H2 := f1.then e3 (fun z hz => lb z hz)
    simp (disch := (first | omega | (simp only [size_new, size_newm, size_wr, size_wrm] <;> omega) | fail)) only [go_sem, Nat.reduceBEq, Nat.reduceAdd, Nat.reduceMul, Nat.reduceLeDiff, ↓reduceIte, rd_new_lt, own_new_lt, mp_new_lt, rd_newm_lt, own_newm_lt, mp_newm_lt, rd_wr_ne, own_wr_ne, mp_wr_ne, rd_wrm_ne, own_wrm_ne, mp_wrm_ne, rd_new_eq, own_new_eq, mp_newm_eq]
    refine pushL (B := H.size) la f2.size s1' (ys := (bv.map up).reverse) ?_ (by rw [List.length_reverse, List.length_map, List.length_map]; omega) fun w' H3 fp' hfp s4 e4 => ?_
    · have := s3.rd
      rwa [List.length_reverse] at this ⊢
    · simp (disch := (first | omega | (simp only [size_new, size_newm, size_wr, size_wrm] <;> omega) | fail)) only [go_sem, Nat.reduceBEq, Nat.reduceAdd, Nat.reduceMul, Nat.reduceLeDiff, ↓reduceIte, rd_new_lt, own_new_lt, mp_new_lt, rd_newm_lt, own_newm_lt, mp_newm_lt, rd_wr_ne, own_wr_ne, mp_wr_ne, rd_wrm_ne, own_wrm_ne, mp_wrm_ne, rd_new_eq, own_new_eq, mp_newm_eq]
      exact ⟨f2.then e4 (fun z hz => hz), _, fp', ⟨r1, r2, r3⟩, s4, hfp⟩
  · have huv' : u ≠ v := by omega
    refine ⟨⟨by omega, by omega⟩, ?_⟩
    simp (disch := (first | omega | (simp only [size_new, size_newm, size_wr, size_wrm] <;> omega) | fail)) only [go_sem, Nat.reduceBEq, Nat.reduceAdd, Nat.reduceMul, Nat.reduceLeDiff, ↓reduceIte, rd_new_lt, own_new_lt, mp_new_lt, rd_newm_lt, own_newm_lt, mp_newm_lt, rd_wr_ne, own_wr_ne, mp_wr_ne, rd_wrm_ne, own_wrm_ne, mp_wrm_ne, rd_new_eq, own_new_eq, mp_newm_eq, rd_of_own T1.deeps, rd_of_own T1.box, Int.toNat_natCast, Nat.mul_one, Nat.zero_add, ofF_cell (fun v => ((deep v : Nat) : Int)) hu]
    refine ⟨⟨by omega, by omega⟩, ?_⟩
    simp (disch := (first | omega | (simp only [size_new, size_newm, size_wr, size_wrm] <;> omega) | fail)) only [go_sem, Nat.reduceBEq, Nat.reduceAdd, Nat.reduceMul, Nat.reduceLeDiff, ↓reduceIte, rd_new_lt, own_new_lt, mp_new_lt, rd_newm_lt, own_newm_lt, mp_newm_lt, rd_wr_ne, own_wr_ne, mp_wr_ne, rd_wrm_ne, own_wrm_ne, mp_wrm_ne, rd_new_eq, own_new_eq, mp_newm_eq, rd_of_own T1.deeps, Int.toNat_natCast, Nat.mul_one, Nat.zero_add, ofF_cell (fun v => ((deep v : Nat) : Int)) hv]
    refine Both.dec (fun hge => ?_) (fun hge => ?_) <;> simp (disch := (first | omega | (simp only [size_new, size_newm, size_wr, size_wrm] <;> omega) | fail)) only [go_sem, Nat.reduceBEq, Nat.reduceAdd, Nat.reduceMul, Nat.reduceLeDiff, ↓reduceIte, rd_new_lt, own_new_lt, mp_new_lt, rd_newm_lt, own_newm_lt, mp_newm_lt, rd_wr_ne, own_wr_ne, mp_wr_ne, rd_wrm_ne, own_wrm_ne, mp_wrm_ne, rd_new_eq, own_new_eq, mp_newm_eq, rd_of_own T1.box]
    · have hge' : deep v ≤ deep u := by omega
      obtain ⟨hk, htu, hdec, cl2⟩ := cl.left R huv' hge'
      obtain ⟨iv, e, hup, he, hik⟩ := (hin _ hk).get
      refine ⟨⟨by omega, by omega⟩, ?_⟩
      simp (disch := (first | omega | (simp only [size_new, size_newm, size_wr, size_wrm] <;> omega) | fail)) only [go_sem, Nat.reduceBEq, Nat.reduceAdd, Nat.reduceMul, Nat.reduceLeDiff, ↓reduceIte, rd_new_lt, own_new_lt, mp_new_lt, rd_newm_lt, own_newm_lt, mp_newm_lt, rd_wr_ne, own_wr_ne, mp_wr_ne, rd_wrm_ne, own_wrm_ne, mp_wrm_ne, rd_new_eq, own_new_eq, mp_newm_eq, rd_of_own T1.ups, Int.toNat_natCast, Nat.mul_one, Nat.zero_add, ofF_cell up hu]
      refine pushF s1 (up u) (by rw [List.length_map]; omega) fun w' H2 fp' hfp s3 e3 => ?_
      obtain ⟨wa, wc, rfl, _⟩ := slv_val s3
      have s2' := s2.ext e3 (fun z hz h => hne z h hz)
      have f2 : Fresh H H2 := f1.then e3 (fun z hz => la z hz)
      simp (disch := (first | omega | (simp only [size_new, size_newm, size_wr, size_wrm] <;> omega) | fail)) only [go_sem, Nat.reduceBEq, Nat.reduceAdd, Nat.reduceMul, Nat.reduceLeDiff, ↓reduceIte, rd_new_lt, own_new_lt, mp_new_lt, rd_newm_lt, own_newm_lt, mp_newm_lt, rd_wr_ne, own_wr_ne, mp_wr_ne, rd_wrm_ne, own_wrm_ne, mp_wrm_ne, rd_new_eq, own_new_eq, mp_newm_eq]
      refine (cut_tree_above_spec (T.fresh f2) (h.fresh f2) hu hn (hin _ hk) hb htu).mono ?_
      rintro _ H3 ⟨rfl, f23⟩
      have f3 := f2.trans f23
      simp (disch := (first | omega | (simp only [size_new, size_newm, size_wr, size_wrm] <;> omega) | fail)) only [go_sem, Nat.reduceBEq, Nat.reduceAdd, Nat.reduceMul, Nat.reduceLeDiff, ↓reduceIte, rd_new_lt, own_new_lt, mp_new_lt, rd_newm_lt, own_newm_lt, mp_newm_lt, rd_wr_ne, own_wr_ne, mp_wr_ne, rd_wrm_ne, own_wrm_ne, mp_wrm_ne, rd_new_eq, own_new_eq, mp_newm_eq]
      have s2' := s2'.ext f23 (fun _ _ h => h)
      have s3' := s3.ext f23 (fun _ _ h => h)
      rw [show ((fv.map up) ++ [up u]) = (fv ++ [u]).map up by rw [List.map_append]; rfl] at s3'
      have ltfb : ∀ z, fb = some z → z < H1.size := fun z hz => by rw [hz] at s2; exact Sl.lt s2
      have lown : ∀ z, fp' = some z → H.size ≤ z ∧ fb ≠ some z := fun z hz => by
        rcases hfp with hh | ⟨b', hh, hb'⟩
        · rw [hh] at hz; exact ⟨la z hz, fun h => hne z hz h⟩
        · rw [hh] at hz; injection hz with hz; subst hz; have := f1.size; exact ⟨by omega, fun h => by have := ltfb _ h; omega⟩
      refine ⟨deep (other (fE es (up u)) u) + deep v, by omega, f3, _, v, fv ++ [u], bv, wa, sb, wc, cb, fp', fb, rfl, cl2, s3', s2', fun z hz => (lown z hz).1, lb, fun z hz h => (lown z hz).2 h, by rw [List.length_append, List.length_singleton]; omega, hbl, ?_⟩
      simp only [List.map_append, List.map_cons, List.map_nil]
    · have hge' : deep u < deep v := by omega
      obtain ⟨hk, htu, hdec, cl2⟩ := cl.right R hge'
      obtain ⟨iv, e, hup, he, hik⟩ := (hin _ hk).get
      refine ⟨⟨by omega, by omega⟩, ?_⟩
      simp (disch := (first | omega | (simp only [size_new, size_newm, size_wr, size_wrm] <;> omega) | fail)) only [go_sem, Nat.reduceBEq, Nat.reduceAdd, Nat.reduceMul, Nat.reduceLeDiff, ↓reduceIte, rd_new_lt, own_new_lt, mp_new_lt, rd_newm_lt, own_newm_lt, mp_newm_lt, rd_wr_ne, own_wr_ne, mp_wr_ne, rd_wrm_ne, own_wrm_ne, mp_wrm_ne, rd_new_eq, own_new_eq, mp_newm_eq, rd_of_own T1.ups, Int.toNat_natCast, Nat.mul_one, Nat.zero_add, ofF_cell up hv]
      refine pushF s2 (up v) (by rw [List.length_map]; omega) fun w' H2 fp' hfp s3 e3 => ?_
      obtain ⟨wa, wc, rfl, _⟩ := slv_val s3
      have s1' := s1.ext e3 (fun z hz h => hne z hz h)
      have f2 : Fresh H H2 := f1.then e3 (fun z hz => lb z hz)
      simp (disch := (first | omega | (simp only [size_new, size_newm, size_wr, size_wrm] <;> omega) | fail)) only [go_sem, Nat.reduceBEq, Nat.reduceAdd, Nat.reduceMul, Nat.reduceLeDiff, ↓reduceIte, rd_new_lt, own_new_lt, mp_new_lt, rd_newm_lt, own_newm_lt, mp_newm_lt, rd_wr_ne, own_wr_ne, mp_wr_ne, rd_wrm_ne, own_wrm_ne, mp_wrm_ne, rd_new_eq, own_new_eq, mp_newm_eq]
      refine (cut_tree_above_spec (T.fresh f2) (h.fresh f2) hv hn (hin _ hk) hb htu).mono ?_
      rintro _ H3 ⟨rfl, f23⟩
      have f3 := f2.trans f23
      simp (disch := (first | omega | (simp only [size_new, size_newm, size_wr, size_wrm] <;> omega) | fail)) only [go_sem, Nat.reduceBEq, Nat.reduceAdd, Nat.reduceMul, Nat.reduceLeDiff, ↓reduceIte, rd_new_lt, own_new_lt, mp_new_lt, rd_newm_lt, own_newm_lt, mp_newm_lt, rd_wr_ne, own_wr_ne, mp_wr_ne, rd_wrm_ne, own_wrm_ne, mp_wrm_ne, rd_new_eq, own_new_eq, mp_newm_eq]
      have s1' := s1'.ext f23 (fun _ _ h => h)
      have s3' := s3.ext f23 (fun _ _ h => h)
      rw [show ((bv.map up) ++ [up v]) = (bv ++ [v]).map up by rw [List.map_append]; rfl] at s3'
      have ltfa : ∀ z, fa = some z → z < H1.size := fun z hz => by rw [hz] at s1; exact Sl.lt s1
      have lown : ∀ z, fp' = some z → H.size ≤ z ∧ fa ≠ some z := fun z hz => by
        rcases hfp with hh | ⟨b', hh, hb'⟩
        · rw [hh] at hz; exact ⟨lb z hz, fun h => hne z h hz⟩
        · rw [hh] at hz; injection hz with hz; subst hz; have := f1.size; exact ⟨by omega, fun h => by have := ltfa _ h; omega⟩
      refine ⟨deep u + deep (other (fE es (up v)) v), by omega, f3, u, _, fv, bv ++ [v], sa, wa, ca, wc, fa, fp', rfl, cl2, s1', s3', la, fun z hz => (lown z hz).1, fun z hz h => (lown z h).2 hz, hfl, by rw [List.length_append, List.length_singleton]; omega, ?_⟩
      simp only [List.map_append, List.map_cons, List.map_nil]

end Go.Proofs.Ytbnaicgmnadkgaa
