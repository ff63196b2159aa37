/-
  The packages cmp (of Go's library) and entry: the order of entries.
-/
import Derived.Test.YtkcpoiploighiaaDoorBase
set_option linter.unusedVariables false
set_option linter.unusedSimpArgs false
namespace Go.Proofs.YtkcpoiploighiaaDoor
open Go Go.Vc

def cmpI (a b : Int) : Int := if a < b then -1 else if b < a then 1 else 0

theorem cmp_isNaN_int64_spec (a : Int) (H : Hp) : CallH Tryd.prog n_cmp_isNaN_int64 [i64 a] H fun v H' => Post (v = .bool false ∧ H = H') := by
  refine c_cmp_isNaN_int64 ⟨rfl, ?_⟩
  simp (disch := (first | omega | (simp only [size_new, size_newm, size_wr, size_wrm] <;> omega) | fail)) only [go_sem, Nat.reduceBEq, Nat.reduceAdd, Nat.reduceMul, Nat.reduceLeDiff, ↓reduceIte, rd_new_lt, own_new_lt, mp_new_lt, rd_newm_lt, own_newm_lt, mp_newm_lt, rd_wr_ne, own_wr_ne, mp_wr_ne, rd_wrm_ne, own_wrm_ne, mp_wrm_ne, rd_new_eq, own_new_eq, mp_newm_eq, s_cmp_isNaN_int64, decide_true]
  exact ⟨rfl, rfl⟩
theorem cmp_isNaN_uint64_spec (a : Int) (H : Hp) : CallH Tryd.prog n_cmp_isNaN_uint64 [u64 a] H fun v H' => Post (v = .bool false ∧ H = H') := by
  refine c_cmp_isNaN_uint64 ⟨rfl, ?_⟩
  simp (disch := (first | omega | (simp only [size_new, size_newm, size_wr, size_wrm] <;> omega) | fail)) only [go_sem, Nat.reduceBEq, Nat.reduceAdd, Nat.reduceMul, Nat.reduceLeDiff, ↓reduceIte, rd_new_lt, own_new_lt, mp_new_lt, rd_newm_lt, own_newm_lt, mp_newm_lt, rd_wr_ne, own_wr_ne, mp_wr_ne, rd_wrm_ne, own_wrm_ne, mp_wrm_ne, rd_new_eq, own_new_eq, mp_newm_eq, s_cmp_isNaN_uint64, decide_true]
  exact ⟨rfl, rfl⟩

theorem cmp_Compare_int64_spec (a b : Int) (H : Hp) : CallH Tryd.prog n_cmp_Compare_int64 [i64 a, i64 b] H fun v H' => Post (v = i64 (cmpI a b) ∧ H = H') := by
  refine c_cmp_Compare_int64 ⟨rfl, ?_⟩
  simp (disch := (first | omega | (simp only [size_new, size_newm, size_wr, size_wrm] <;> omega) | fail)) only [go_sem, Nat.reduceBEq, Nat.reduceAdd, Nat.reduceMul, Nat.reduceLeDiff, ↓reduceIte, rd_new_lt, own_new_lt, mp_new_lt, rd_newm_lt, own_newm_lt, mp_newm_lt, rd_wr_ne, own_wr_ne, mp_wr_ne, rd_wrm_ne, own_wrm_ne, mp_wrm_ne, rd_new_eq, own_new_eq, mp_newm_eq, s_cmp_Compare_int64]
  refine (cmp_isNaN_int64_spec a H).mono ?_
  rintro _ _ ⟨rfl, rfl⟩
  simp (disch := (first | omega | (simp only [size_new, size_newm, size_wr, size_wrm] <;> omega) | fail)) only [go_sem, Nat.reduceBEq, Nat.reduceAdd, Nat.reduceMul, Nat.reduceLeDiff, ↓reduceIte, rd_new_lt, own_new_lt, mp_new_lt, rd_newm_lt, own_newm_lt, mp_newm_lt, rd_wr_ne, own_wr_ne, mp_wr_ne, rd_wrm_ne, own_wrm_ne, mp_wrm_ne, rd_new_eq, own_new_eq, mp_newm_eq]
  refine (cmp_isNaN_int64_spec b H).mono ?_
  rintro _ _ ⟨rfl, rfl⟩
  simp (disch := (first | omega | (simp only [size_new, size_newm, size_wr, size_wrm] <;> omega) | fail)) only [go_sem, Nat.reduceBEq, Nat.reduceAdd, Nat.reduceMul, Nat.reduceLeDiff, ↓reduceIte, rd_new_lt, own_new_lt, mp_new_lt, rd_newm_lt, own_newm_lt, mp_newm_lt, rd_wr_ne, own_wr_ne, mp_wr_ne, rd_wrm_ne, own_wrm_ne, mp_wrm_ne, rd_new_eq, own_new_eq, mp_newm_eq]
  refine Both.dec (fun h => ?_) (fun h => ?_) <;> simp (disch := (first | omega | (simp only [size_new, size_newm, size_wr, size_wrm] <;> omega) | fail)) only [go_sem, Nat.reduceBEq, Nat.reduceAdd, Nat.reduceMul, Nat.reduceLeDiff, ↓reduceIte, rd_new_lt, own_new_lt, mp_new_lt, rd_newm_lt, own_newm_lt, mp_newm_lt, rd_wr_ne, own_wr_ne, mp_wr_ne, rd_wrm_ne, own_wrm_ne, mp_wrm_ne, rd_new_eq, own_new_eq, mp_newm_eq]
  · exact ⟨congrArg i64 (by simp [cmpI, h]), rfl⟩
  · refine Both.dec (fun h2 => ?_) (fun h2 => ?_) <;> simp (disch := (first | omega | (simp only [size_new, size_newm, size_wr, size_wrm] <;> omega) | fail)) only [go_sem, Nat.reduceBEq, Nat.reduceAdd, Nat.reduceMul, Nat.reduceLeDiff, ↓reduceIte, rd_new_lt, own_new_lt, mp_new_lt, rd_newm_lt, own_newm_lt, mp_newm_lt, rd_wr_ne, own_wr_ne, mp_wr_ne, rd_wrm_ne, own_wrm_ne, mp_wrm_ne, rd_new_eq, own_new_eq, mp_newm_eq]
    · exact ⟨congrArg i64 (by simp [cmpI, h, show b < a from h2]), rfl⟩
    · exact ⟨congrArg i64 (by simp [cmpI, h, show ¬ b < a from h2]), rfl⟩
theorem cmp_Compare_uint64_spec (a b : Int) (H : Hp) : CallH Tryd.prog n_cmp_Compare_uint64 [u64 a, u64 b] H fun v H' => Post (v = i64 (cmpI a b) ∧ H = H') := by
  refine c_cmp_Compare_uint64 ⟨rfl, ?_⟩
  simp (disch := (first | omega | (simp only [size_new, size_newm, size_wr, size_wrm] <;> omega) | fail)) only [go_sem, Nat.reduceBEq, Nat.reduceAdd, Nat.reduceMul, Nat.reduceLeDiff, ↓reduceIte, rd_new_lt, own_new_lt, mp_new_lt, rd_newm_lt, own_newm_lt, mp_newm_lt, rd_wr_ne, own_wr_ne, mp_wr_ne, rd_wrm_ne, own_wrm_ne, mp_wrm_ne, rd_new_eq, own_new_eq, mp_newm_eq, s_cmp_Compare_uint64]
  refine (cmp_isNaN_uint64_spec a H).mono ?_
  rintro _ _ ⟨rfl, rfl⟩
  simp (disch := (first | omega | (simp only [size_new, size_newm, size_wr, size_wrm] <;> omega) | fail)) only [go_sem, Nat.reduceBEq, Nat.reduceAdd, Nat.reduceMul, Nat.reduceLeDiff, ↓reduceIte, rd_new_lt, own_new_lt, mp_new_lt, rd_newm_lt, own_newm_lt, mp_newm_lt, rd_wr_ne, own_wr_ne, mp_wr_ne, rd_wrm_ne, own_wrm_ne, mp_wrm_ne, rd_new_eq, own_new_eq, mp_newm_eq]
  refine (cmp_isNaN_uint64_spec b H).mono ?_
  rintro _ _ ⟨rfl, rfl⟩
  simp (disch := (first | omega | (simp only [size_new, size_newm, size_wr, size_wrm] <;> omega) | fail)) only [go_sem, Nat.reduceBEq, Nat.reduceAdd, Nat.reduceMul, Nat.reduceLeDiff, ↓reduceIte, rd_new_lt, own_new_lt, mp_new_lt, rd_newm_lt, own_newm_lt, mp_newm_lt, rd_wr_ne, own_wr_ne, mp_wr_ne, rd_wrm_ne, own_wrm_ne, mp_wrm_ne, rd_new_eq, own_new_eq, mp_newm_eq]
  refine Both.dec (fun h => ?_) (fun h => ?_) <;> simp (disch := (first | omega | (simp only [size_new, size_newm, size_wr, size_wrm] <;> omega) | fail)) only [go_sem, Nat.reduceBEq, Nat.reduceAdd, Nat.reduceMul, Nat.reduceLeDiff, ↓reduceIte, rd_new_lt, own_new_lt, mp_new_lt, rd_newm_lt, own_newm_lt, mp_newm_lt, rd_wr_ne, own_wr_ne, mp_wr_ne, rd_wrm_ne, own_wrm_ne, mp_wrm_ne, rd_new_eq, own_new_eq, mp_newm_eq]
  · exact ⟨congrArg i64 (by simp [cmpI, h]), rfl⟩
  · refine Both.dec (fun h2 => ?_) (fun h2 => ?_) <;> simp (disch := (first | omega | (simp only [size_new, size_newm, size_wr, size_wrm] <;> omega) | fail)) only [go_sem, Nat.reduceBEq, Nat.reduceAdd, Nat.reduceMul, Nat.reduceLeDiff, ↓reduceIte, rd_new_lt, own_new_lt, mp_new_lt, rd_newm_lt, own_newm_lt, mp_newm_lt, rd_wr_ne, own_wr_ne, mp_wr_ne, rd_wrm_ne, own_wrm_ne, mp_wrm_ne, rd_new_eq, own_new_eq, mp_newm_eq]
    · exact ⟨congrArg i64 (by simp [cmpI, h, show b < a from h2]), rfl⟩
    · exact ⟨congrArg i64 (by simp [cmpI, h, show ¬ b < a from h2]), rfl⟩

def orI (xs : List Int) : Int := (xs.find? fun x => x ≠ 0).getD 0

theorem RdS.get {H : Hp} {size n : Nat} {v : Value} {xs : List Value} (h : RdS H size v n xs) {i j : Nat} {x : Value} (hj : j < size) (hx : xs[i * size + j]? = some x) :
    ∃ b o c l, v = .slice (some ⟨b, o, none⟩) n c ∧ H.rd b = some l ∧ i < n ∧ l[o + i * size + j]? = some x := by
  obtain ⟨hl, ⟨rfl, a, c, rfl⟩ | ⟨b, o, c, l, rfl, h2, h3, h4⟩⟩ := h
  · rw [List.getElem?_eq_none (by omega)] at hx; cases hx
  · have hlt : i * size + j < n * size := by
      have := (List.getElem?_eq_some_iff.1 hx).1; omega
    refine ⟨b, o, c, l, rfl, h2, ?_, ?_⟩
    · rcases Nat.lt_or_ge i n with h | h
      · exact h
      · have := Nat.mul_le_mul_right size h; omega
    · rw [← h4, List.getElem?_take_of_lt hlt, List.getElem?_drop] at hx
      rw [← hx]; congr 1; omega

theorem cmp_Or_int_spec {H : Hp} {v : Value} {n : Nat} {xs : List Int} (h : RdS H 1 v n (xs.map i64)) (hn : n ≤ 1000000) (hs : ∃ a c, v = .slice a n c) :
    CallH Tryd.prog n_cmp_Or_int [v] H fun r H' => Post (r = i64 (orI xs) ∧ H = H') := by
  obtain ⟨a, c, rfl⟩ := hs
  have hlen : xs.length = n := by have := h.1; simpa using this
  refine c_cmp_Or_int ⟨rfl, ?_⟩
  simp (disch := (first | omega | (simp only [size_new, size_newm, size_wr, size_wrm] <;> omega) | fail)) only [go_sem, Nat.reduceBEq, Nat.reduceAdd, Nat.reduceMul, Nat.reduceLeDiff, ↓reduceIte, rd_new_lt, own_new_lt, mp_new_lt, rd_newm_lt, own_newm_lt, mp_newm_lt, rd_wr_ne, own_wr_ne, mp_wr_ne, rd_wrm_ne, own_wrm_ne, mp_wrm_ne, rd_new_eq, own_new_eq, mp_newm_eq, s_cmp_Or_int]
  refine LoopV.intro (fun m env H1 => ∃ k : Nat, env = [(3, i64 0), (6, .slice a n c), (7, i64 n), (8, i64 k)] ∧ H1 = H ∧ k ≤ n ∧ m = n - k ∧ ∀ j, j < k → xs[j]? = some 0) n ⟨0, rfl, rfl, by omega, by omega, fun j hj => by omega⟩ ?_
  rintro m env H1 ⟨k, rfl, rfl, hk, rfl, hz⟩
  simp (disch := (first | omega | (simp only [size_new, size_newm, size_wr, size_wrm] <;> omega) | fail)) only [go_sem, Nat.reduceBEq, Nat.reduceAdd, Nat.reduceMul, Nat.reduceLeDiff, ↓reduceIte, rd_new_lt, own_new_lt, mp_new_lt, rd_newm_lt, own_newm_lt, mp_newm_lt, rd_wr_ne, own_wr_ne, mp_wr_ne, rd_wrm_ne, own_wrm_ne, mp_wrm_ne, rd_new_eq, own_new_eq, mp_newm_eq]
  refine Both.dec (fun hlt => ?_) (fun hlt => ?_) <;> simp (disch := (first | omega | (simp only [size_new, size_newm, size_wr, size_wrm] <;> omega) | fail)) only [go_sem, Nat.reduceBEq, Nat.reduceAdd, Nat.reduceMul, Nat.reduceLeDiff, ↓reduceIte, rd_new_lt, own_new_lt, mp_new_lt, rd_newm_lt, own_newm_lt, mp_newm_lt, rd_wr_ne, own_wr_ne, mp_wr_ne, rd_wrm_ne, own_wrm_ne, mp_wrm_ne, rd_new_eq, own_new_eq, mp_newm_eq]
  · have hkn : k < xs.length := by omega
    obtain ⟨b, o, c', l, hv, hr, _, hg⟩ := RdS.get h (i := k) (j := 0) (x := i64 xs[k]) (by omega) (by simp [hkn])
    injection hv with e1 e2 e3
    subst e1
    refine ⟨by omega, ?_⟩
    simp only [Nat.mul_one, Nat.add_zero] at hg
    simp (disch := (first | omega | (simp only [size_new, size_newm, size_wr, size_wrm] <;> omega) | fail)) only [go_sem, Nat.reduceBEq, Nat.reduceAdd, Nat.reduceMul, Nat.reduceLeDiff, ↓reduceIte, rd_new_lt, own_new_lt, mp_new_lt, rd_newm_lt, own_newm_lt, mp_newm_lt, rd_wr_ne, own_wr_ne, mp_wr_ne, rd_wrm_ne, own_wrm_ne, mp_wrm_ne, rd_new_eq, own_new_eq, mp_newm_eq, hr, Int.toNat_natCast, Nat.mul_one, hg]
    refine Both.dec (fun h0 => ?_) (fun h0 => ?_) <;> simp (disch := (first | omega | (simp only [size_new, size_newm, size_wr, size_wrm] <;> omega) | fail)) only [go_sem, Nat.reduceBEq, Nat.reduceAdd, Nat.reduceMul, Nat.reduceLeDiff, ↓reduceIte, rd_new_lt, own_new_lt, mp_new_lt, rd_newm_lt, own_newm_lt, mp_newm_lt, rd_wr_ne, own_wr_ne, mp_wr_ne, rd_wrm_ne, own_wrm_ne, mp_wrm_ne, rd_new_eq, own_new_eq, mp_newm_eq]
    · rw [wrap64 (by omega) (by omega)]
      refine ⟨n - (k + 1), by omega, k + 1, rfl, trivial, by omega, rfl, fun j hj => ?_⟩
      by_cases e : j = k
      · subst e; rw [List.getElem?_eq_getElem hkn, h0]
      · exact hz j (by omega)
    · refine ⟨congrArg i64 ?_, rfl⟩
      unfold orI
      have : xs.find? (fun x => x ≠ 0) = some xs[k] := by
        rw [List.find?_eq_some_iff_getElem]
        refine ⟨by simpa using h0, k, hkn, rfl, fun j hj => ?_⟩
        have := hz j hj
        rw [List.getElem?_eq_getElem (by omega)] at this
        injection this with this
        simp [this]
      rw [this]; rfl
  · refine ⟨congrArg i64 ?_, rfl⟩
    unfold orI
    have : xs.find? (fun x => x ≠ 0) = none := by
      rw [List.find?_eq_none]
      intro x hx
      obtain ⟨j, hj, rfl⟩ := List.mem_iff_getElem.1 hx
      have := hz j (by omega)
      rw [List.getElem?_eq_getElem hj] at this
      injection this with this
      simp [this]
    rw [this]; rfl

/-- Which of two entries goes ahead. -/
def cmpE (k s k' s' : Int) : Int := orI [cmpI k k', cmpI s s']
def lessE (k s k' s' : Int) : Prop := k < k' ∨ k = k' ∧ s < s'
instance (k s k' s' : Int) : Decidable (lessE k s k' s') := by unfold lessE; infer_instance

theorem cmpE_neg (k s k' s' : Int) : cmpE k s k' s' < 0 ↔ lessE k s k' s' := by
  unfold cmpE lessE orI cmpI
  by_cases h1 : k < k'
  · simp [h1]
  · by_cases h2 : k' < k
    · simp [h1, h2]; omega
    · by_cases h3 : s < s'
      · simp [h1, h2, h3]; omega
      · by_cases h4 : s' < s
        · simp [h1, h2, h3, h4]
        · simp [h1, h2, h3, h4]
theorem cmpE_zero (k s k' s' : Int) : cmpE k s k' s' = 0 ↔ k = k' ∧ s = s' := by
  unfold cmpE orI cmpI
  by_cases h1 : k < k'
  · simp [h1]; omega
  · by_cases h2 : k' < k
    · simp [h1, h2]; omega
    · by_cases h3 : s < s'
      · simp [h1, h2, h3]; omega
      · by_cases h4 : s' < s
        · simp [h1, h2, h3, h4]; omega
        · simp [h1, h2, h3, h4]; omega

end Go.Proofs.YtkcpoiploighiaaDoor
