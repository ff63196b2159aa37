/-
  Each call of a nest takes no more steps than there may be.
-/
import Derived.Test.YteicchpglnamcaaRunS
import Derived.Test.YteicchpglnamcaaBits
set_option linter.unusedVariables false
set_option linter.unusedSimpArgs false
namespace Go.Proofs.Yteicchpglnamcaa
open Go Go.Vc

/-- A kind of heaps that bounds each call: binary, d-ary, or the library's. -/
def KindC (kd dd : Int) : Prop := (kd = 2 ∧ FineD dd) ∨ (kd = 8 ∧ dd = 0)

/-- How many steps a call may take. -/
def limC (kd dd m : Int) : Int := (if kd = 2 then dd else 4) * (2 + (bitsN m.toNat : Nat))

theorem bitsN_le (n : Nat) : bitsN n ≤ n := by
  induction n using Nat.strongRecOn with
  | _ n ih =>
    rcases Nat.eq_zero_or_pos n with h | h
    · subst h; exact Nat.le_refl _
    · rw [bitsN_step h]
      have := ih (n / 2) (by omega)
      omega

theorem limC_nonneg {kd dd : Int} (hc : KindC kd dd) (m : Int) : 0 ≤ limC kd dd m := by
  unfold limC
  rcases hc with ⟨rfl, hd⟩ | ⟨rfl, rfl⟩
  · rw [if_pos rfl]; exact Int.mul_nonneg (by have := hd.1; omega) (by omega)
  · rw [if_neg (by omega)]; omega

theorem limC_le {kd dd : Int} (hc : KindC kd dd) {m : Int} (hm : m ≤ 2001) : limC kd dd m ≤ 32048 := by
  unfold limC
  have h1 := bitsN_le m.toNat
  rcases hc with ⟨rfl, hd⟩ | ⟨rfl, rfl⟩
  · rw [if_pos rfl]
    have h2 : dd * (2 + ((bitsN m.toNat : Nat) : Int)) ≤ 16 * (2 + (bitsN m.toNat : Nat)) := Int.mul_le_mul_of_nonneg_right hd.2 (by omega)
    omega
  · rw [if_neg (by omega)]; omega

theorem ref02_near_spec {m : Int} (hm : 0 ≤ m ∧ m ≤ 1099511627776) (H : Hp) : CallH Try.prog n_ref02_near [i64 m] H fun v H' => Post (v = i64 m ∧ H = H') := by
  refine c_ref02_near ⟨rfl, ?_⟩
  simp (disch := (first | omega | (simp only [size_new, size_newm, size_wr, size_wrm] <;> omega) | fail)) only [go_sem, Nat.reduceBEq, Nat.reduceAdd, Nat.reduceMul, Nat.reduceLeDiff, ↓reduceIte, rd_new_lt, own_new_lt, mp_new_lt, rd_newm_lt, own_newm_lt, mp_newm_lt, rd_wr_ne, own_wr_ne, mp_wr_ne, rd_wrm_ne, own_wrm_ne, mp_wrm_ne, rd_new_eq, own_new_eq, mp_newm_eq, s_ref02_near]
  refine Both.of_false (decide_eq_false (by omega)) ?_
  simp (disch := (first | omega | (simp only [size_new, size_newm, size_wr, size_wrm] <;> omega) | fail)) only [go_sem, Nat.reduceBEq, Nat.reduceAdd, Nat.reduceMul, Nat.reduceLeDiff, ↓reduceIte, rd_new_lt, own_new_lt, mp_new_lt, rd_newm_lt, own_newm_lt, mp_newm_lt, rd_wr_ne, own_wr_ne, mp_wr_ne, rd_wrm_ne, own_wrm_ne, mp_wrm_ne, rd_new_eq, own_new_eq, mp_newm_eq]
  refine Both.of_false (decide_eq_false (by omega)) ?_
  simp (disch := (first | omega | (simp only [size_new, size_newm, size_wr, size_wrm] <;> omega) | fail)) only [go_sem, Nat.reduceBEq, Nat.reduceAdd, Nat.reduceMul, Nat.reduceLeDiff, ↓reduceIte, rd_new_lt, own_new_lt, mp_new_lt, rd_newm_lt, own_newm_lt, mp_newm_lt, rd_wr_ne, own_wr_ne, mp_wr_ne, rd_wrm_ne, own_wrm_ne, mp_wrm_ne, rd_new_eq, own_new_eq, mp_newm_eq]
  exact ⟨rfl, rfl⟩

theorem ref02_Bits_spec {m : Int} (hm : 0 ≤ m ∧ m ≤ 1099511627776) (H : Hp) : CallH Try.prog n_ref02_Bits [i64 m] H fun v H' => Post (v = i64 (bitsN m.toNat : Nat) ∧ H = H') := by
  refine c_ref02_Bits ⟨rfl, ?_⟩
  simp (disch := (first | omega | (simp only [size_new, size_newm, size_wr, size_wrm] <;> omega) | fail)) only [go_sem, Nat.reduceBEq, Nat.reduceAdd, Nat.reduceMul, Nat.reduceLeDiff, ↓reduceIte, rd_new_lt, own_new_lt, mp_new_lt, rd_newm_lt, own_newm_lt, mp_newm_lt, rd_wr_ne, own_wr_ne, mp_wr_ne, rd_wrm_ne, own_wrm_ne, mp_wrm_ne, rd_new_eq, own_new_eq, mp_newm_eq, s_ref02_Bits]
  refine LoopV.intro (fun k env H' => ∃ (n : Int) (b : Nat), env = [(0, i64 n), (3, i64 b)] ∧ k = n.toNat ∧ 0 ≤ n ∧ n ≤ m ∧ H' = H ∧ b + bitsN n.toNat = bitsN m.toNat) m.toNat ⟨m, 0, rfl, rfl, hm.1, Int.le_refl _, rfl, by omega⟩ ?_
  rintro k env H' ⟨n, b, rfl, rfl, hn0, hn1, rfl, hb⟩
  simp (disch := (first | omega | (simp only [size_new, size_newm, size_wr, size_wrm] <;> omega) | fail)) only [go_sem, Nat.reduceBEq, Nat.reduceAdd, Nat.reduceMul, Nat.reduceLeDiff, ↓reduceIte, rd_new_lt, own_new_lt, mp_new_lt, rd_newm_lt, own_newm_lt, mp_newm_lt, rd_wr_ne, own_wr_ne, mp_wr_ne, rd_wrm_ne, own_wrm_ne, mp_wrm_ne, rd_new_eq, own_new_eq, mp_newm_eq]
  refine Both.dec (fun hp => ?_) (fun hp => ?_) <;> simp (disch := (first | omega | (simp only [size_new, size_newm, size_wr, size_wrm] <;> omega) | fail)) only [go_sem, Nat.reduceBEq, Nat.reduceAdd, Nat.reduceMul, Nat.reduceLeDiff, ↓reduceIte, rd_new_lt, own_new_lt, mp_new_lt, rd_newm_lt, own_newm_lt, mp_newm_lt, rd_wr_ne, own_wr_ne, mp_wr_ne, rd_wrm_ne, own_wrm_ne, mp_wrm_ne, rd_new_eq, own_new_eq, mp_newm_eq]
  · have hbl := bitsN_le m.toNat
    have hq : n.tdiv 2 = n / 2 := Int.tdiv_eq_ediv_of_nonneg hn0
    simp (disch := (first | omega | (simp only [size_new, size_newm, size_wr, size_wrm] <;> omega) | fail)) only [go_sem, Nat.reduceBEq, Nat.reduceAdd, Nat.reduceMul, Nat.reduceLeDiff, ↓reduceIte, rd_new_lt, own_new_lt, mp_new_lt, rd_newm_lt, own_newm_lt, mp_newm_lt, rd_wr_ne, own_wr_ne, mp_wr_ne, rd_wrm_ne, own_wrm_ne, mp_wrm_ne, rd_new_eq, own_new_eq, mp_newm_eq, hq, if_neg (show ¬ ((2 : Int) = 0) by decide)]
    rw [wrap64 (n := n / 2) (by omega) (by omega), wrap64 (n := (b : Int) + 1) (by omega) (by omega)]
    have hs := bitsN_step (n := n.toNat) (by omega)
    rw [show n.toNat / 2 = (n / 2).toNat by omega] at hs
    exact ⟨(n / 2).toNat, by omega, n / 2, b + 1, rfl, rfl, by omega, by omega, trivial, by omega⟩
  · have h0 : n = 0 := by omega
    subst h0
    have : bitsN (0 : Int).toNat = 0 := rfl
    rw [show b = bitsN m.toNat by omega]
    exact ⟨rfl, rfl⟩

abbrev cfg (kd dd : Int) : Value := .agg [i64 kd, i64 dd].toArray

theorem ref02_Check_spec {kd dd : Int} (hc : KindC kd dd) (H : Hp) : CallH Try.prog n_ref02_Check [cfg kd dd] H fun v H' => Post (v = i64 0 ∧ Fresh H H') := by
  refine c_ref02_Check ⟨rfl, ?_⟩
  simp (disch := (first | omega | (simp only [size_new, size_newm, size_wr, size_wrm] <;> omega) | fail)) only [go_sem, Nat.reduceBEq, Nat.reduceAdd, Nat.reduceMul, Nat.reduceLeDiff, ↓reduceIte, rd_new_lt, own_new_lt, mp_new_lt, rd_newm_lt, own_newm_lt, mp_newm_lt, rd_wr_ne, own_wr_ne, mp_wr_ne, rd_wrm_ne, own_wrm_ne, mp_wrm_ne, rd_new_eq, own_new_eq, mp_newm_eq, s_ref02_Check]
  have f0 : Fresh H (H.new 54 [i64 kd, i64 dd]) := (Ext.refl _ _).new _ _
  rcases hc with ⟨rfl, hd⟩ | ⟨rfl, rfl⟩
  · have h1 := hd.1
    have h2 := hd.2
    refine Both.of_false (by decide) ?_
    simp (disch := (first | omega | (simp only [size_new, size_newm, size_wr, size_wrm] <;> omega) | fail)) only [go_sem, Nat.reduceBEq, Nat.reduceAdd, Nat.reduceMul, Nat.reduceLeDiff, ↓reduceIte, rd_new_lt, own_new_lt, mp_new_lt, rd_newm_lt, own_newm_lt, mp_newm_lt, rd_wr_ne, own_wr_ne, mp_wr_ne, rd_wrm_ne, own_wrm_ne, mp_wrm_ne, rd_new_eq, own_new_eq, mp_newm_eq]
    refine Both.of_false (by decide) ?_
    simp (disch := (first | omega | (simp only [size_new, size_newm, size_wr, size_wrm] <;> omega) | fail)) only [go_sem, Nat.reduceBEq, Nat.reduceAdd, Nat.reduceMul, Nat.reduceLeDiff, ↓reduceIte, rd_new_lt, own_new_lt, mp_new_lt, rd_newm_lt, own_newm_lt, mp_newm_lt, rd_wr_ne, own_wr_ne, mp_wr_ne, rd_wrm_ne, own_wrm_ne, mp_wrm_ne, rd_new_eq, own_new_eq, mp_newm_eq]
    refine Both.of_true (by decide) ?_
    simp (disch := (first | omega | (simp only [size_new, size_newm, size_wr, size_wrm] <;> omega) | fail)) only [go_sem, Nat.reduceBEq, Nat.reduceAdd, Nat.reduceMul, Nat.reduceLeDiff, ↓reduceIte, rd_new_lt, own_new_lt, mp_new_lt, rd_newm_lt, own_newm_lt, mp_newm_lt, rd_wr_ne, own_wr_ne, mp_wr_ne, rd_wrm_ne, own_wrm_ne, mp_wrm_ne, rd_new_eq, own_new_eq, mp_newm_eq]
    refine Both.of_true (decide_eq_true (by omega)) ?_
    simp (disch := (first | omega | (simp only [size_new, size_newm, size_wr, size_wrm] <;> omega) | fail)) only [go_sem, Nat.reduceBEq, Nat.reduceAdd, Nat.reduceMul, Nat.reduceLeDiff, ↓reduceIte, rd_new_lt, own_new_lt, mp_new_lt, rd_newm_lt, own_newm_lt, mp_newm_lt, rd_wr_ne, own_wr_ne, mp_wr_ne, rd_wrm_ne, own_wrm_ne, mp_wrm_ne, rd_new_eq, own_new_eq, mp_newm_eq]
    refine Both.of_true (decide_eq_true (by omega)) ?_
    simp (disch := (first | omega | (simp only [size_new, size_newm, size_wr, size_wrm] <;> omega) | fail)) only [go_sem, Nat.reduceBEq, Nat.reduceAdd, Nat.reduceMul, Nat.reduceLeDiff, ↓reduceIte, rd_new_lt, own_new_lt, mp_new_lt, rd_newm_lt, own_newm_lt, mp_newm_lt, rd_wr_ne, own_wr_ne, mp_wr_ne, rd_wrm_ne, own_wrm_ne, mp_wrm_ne, rd_new_eq, own_new_eq, mp_newm_eq]
    exact ⟨rfl, f0⟩
  · refine Both.of_false (by decide) ?_
    simp (disch := (first | omega | (simp only [size_new, size_newm, size_wr, size_wrm] <;> omega) | fail)) only [go_sem, Nat.reduceBEq, Nat.reduceAdd, Nat.reduceMul, Nat.reduceLeDiff, ↓reduceIte, rd_new_lt, own_new_lt, mp_new_lt, rd_newm_lt, own_newm_lt, mp_newm_lt, rd_wr_ne, own_wr_ne, mp_wr_ne, rd_wrm_ne, own_wrm_ne, mp_wrm_ne, rd_new_eq, own_new_eq, mp_newm_eq]
    refine Both.of_false (by decide) ?_
    simp (disch := (first | omega | (simp only [size_new, size_newm, size_wr, size_wrm] <;> omega) | fail)) only [go_sem, Nat.reduceBEq, Nat.reduceAdd, Nat.reduceMul, Nat.reduceLeDiff, ↓reduceIte, rd_new_lt, own_new_lt, mp_new_lt, rd_newm_lt, own_newm_lt, mp_newm_lt, rd_wr_ne, own_wr_ne, mp_wr_ne, rd_wrm_ne, own_wrm_ne, mp_wrm_ne, rd_new_eq, own_new_eq, mp_newm_eq]
    refine Both.of_false (by decide) ?_
    simp (disch := (first | omega | (simp only [size_new, size_newm, size_wr, size_wrm] <;> omega) | fail)) only [go_sem, Nat.reduceBEq, Nat.reduceAdd, Nat.reduceMul, Nat.reduceLeDiff, ↓reduceIte, rd_new_lt, own_new_lt, mp_new_lt, rd_newm_lt, own_newm_lt, mp_newm_lt, rd_wr_ne, own_wr_ne, mp_wr_ne, rd_wrm_ne, own_wrm_ne, mp_wrm_ne, rd_new_eq, own_new_eq, mp_newm_eq]
    refine Both.of_false (by decide) ?_
    simp (disch := (first | omega | (simp only [size_new, size_newm, size_wr, size_wrm] <;> omega) | fail)) only [go_sem, Nat.reduceBEq, Nat.reduceAdd, Nat.reduceMul, Nat.reduceLeDiff, ↓reduceIte, rd_new_lt, own_new_lt, mp_new_lt, rd_newm_lt, own_newm_lt, mp_newm_lt, rd_wr_ne, own_wr_ne, mp_wr_ne, rd_wrm_ne, own_wrm_ne, mp_wrm_ne, rd_new_eq, own_new_eq, mp_newm_eq]
    first | exact ⟨rfl, f0⟩ | (refine Both.of_true (by decide) ?_; simp (disch := (first | omega | (simp only [size_new, size_newm, size_wr, size_wrm] <;> omega) | fail)) only [go_sem, Nat.reduceBEq, Nat.reduceAdd, Nat.reduceMul, Nat.reduceLeDiff, ↓reduceIte, rd_new_lt, own_new_lt, mp_new_lt, rd_newm_lt, own_newm_lt, mp_newm_lt, rd_wr_ne, own_wr_ne, mp_wr_ne, rd_wrm_ne, own_wrm_ne, mp_wrm_ne, rd_new_eq, own_new_eq, mp_newm_eq]; exact ⟨rfl, f0⟩)

theorem ref02_Arity_spec {dd : Int} (hd : FineD dd) (H : Hp) : CallH Try.prog n_ref02_Arity [cfg 2 dd] H fun v H' => Post (v = i64 dd ∧ Fresh H H') := by
  refine c_ref02_Arity ⟨rfl, ?_⟩
  simp (disch := (first | omega | (simp only [size_new, size_newm, size_wr, size_wrm] <;> omega) | fail)) only [go_sem, Nat.reduceBEq, Nat.reduceAdd, Nat.reduceMul, Nat.reduceLeDiff, ↓reduceIte, rd_new_lt, own_new_lt, mp_new_lt, rd_newm_lt, own_newm_lt, mp_newm_lt, rd_wr_ne, own_wr_ne, mp_wr_ne, rd_wrm_ne, own_wrm_ne, mp_wrm_ne, rd_new_eq, own_new_eq, mp_newm_eq, s_ref02_Arity]
  have f0 : Fresh H (H.new 54 [i64 2, i64 dd]) := (Ext.refl _ _).new _ _
  have o0 : (H.new 54 [i64 2, i64 dd]).own H.size = some [i64 2, i64 dd] := own_new _ _ _
  generalize H.new 54 [i64 2, i64 dd] = H0 at *
  refine (ref02_Check_spec (.inl ⟨rfl, hd⟩) H0).mono ?_
  rintro _ H1 ⟨rfl, f1⟩
  have o1 := f1.own o0 (fun h => h)
  simp (disch := (first | omega | (simp only [size_new, size_newm, size_wr, size_wrm] <;> omega) | fail)) only [go_sem, Nat.reduceBEq, Nat.reduceAdd, Nat.reduceMul, Nat.reduceLeDiff, ↓reduceIte, rd_new_lt, own_new_lt, mp_new_lt, rd_newm_lt, own_newm_lt, mp_newm_lt, rd_wr_ne, own_wr_ne, mp_wr_ne, rd_wrm_ne, own_wrm_ne, mp_wrm_ne, rd_new_eq, own_new_eq, mp_newm_eq, rd_of_own o1, decide_true]
  refine Both.of_false (by decide) ?_
  simp (disch := (first | omega | (simp only [size_new, size_newm, size_wr, size_wrm] <;> omega) | fail)) only [go_sem, Nat.reduceBEq, Nat.reduceAdd, Nat.reduceMul, Nat.reduceLeDiff, ↓reduceIte, rd_new_lt, own_new_lt, mp_new_lt, rd_newm_lt, own_newm_lt, mp_newm_lt, rd_wr_ne, own_wr_ne, mp_wr_ne, rd_wrm_ne, own_wrm_ne, mp_wrm_ne, rd_new_eq, own_new_eq, mp_newm_eq, rd_of_own o1, decide_true]
  refine (ref02_Check_spec (.inl ⟨rfl, hd⟩) H1).mono ?_
  rintro _ H2 ⟨rfl, f2⟩
  have o2 := f2.own o1 (fun h => h)
  simp (disch := (first | omega | (simp only [size_new, size_newm, size_wr, size_wrm] <;> omega) | fail)) only [go_sem, Nat.reduceBEq, Nat.reduceAdd, Nat.reduceMul, Nat.reduceLeDiff, ↓reduceIte, rd_new_lt, own_new_lt, mp_new_lt, rd_newm_lt, own_newm_lt, mp_newm_lt, rd_wr_ne, own_wr_ne, mp_wr_ne, rd_wrm_ne, own_wrm_ne, mp_wrm_ne, rd_new_eq, own_new_eq, mp_newm_eq, rd_of_own o2, decide_true]
  exact ⟨rfl, (f0.trans f1).trans f2⟩

theorem ref02_Limit_spec {kd dd : Int} (hc : KindC kd dd) {m : Int} (hm : 0 ≤ m ∧ m ≤ 2001) (H : Hp) : CallH Try.prog n_ref02_Limit [cfg kd dd, i64 m] H fun v H' => Post (v = i64 (limC kd dd m) ∧ Fresh H H') := by
  have hle := limC_le hc hm.2
  have hge := limC_nonneg hc m
  have hb := bitsN_le m.toNat
  refine c_ref02_Limit ⟨rfl, ?_⟩
  simp (disch := (first | omega | (simp only [size_new, size_newm, size_wr, size_wrm] <;> omega) | fail)) only [go_sem, Nat.reduceBEq, Nat.reduceAdd, Nat.reduceMul, Nat.reduceLeDiff, ↓reduceIte, rd_new_lt, own_new_lt, mp_new_lt, rd_newm_lt, own_newm_lt, mp_newm_lt, rd_wr_ne, own_wr_ne, mp_wr_ne, rd_wrm_ne, own_wrm_ne, mp_wrm_ne, rd_new_eq, own_new_eq, mp_newm_eq, s_ref02_Limit]
  have f0 : Fresh H (H.new 54 [i64 kd, i64 dd]) := (Ext.refl _ _).new _ _
  have o0 : (H.new 54 [i64 kd, i64 dd]).own H.size = some [i64 kd, i64 dd] := own_new _ _ _
  generalize H.new 54 [i64 kd, i64 dd] = H0 at *
  refine (ref02_near_spec ⟨hm.1, by omega⟩ H0).mono ?_
  rintro _ _ ⟨rfl, rfl⟩
  simp (disch := (first | omega | (simp only [size_new, size_newm, size_wr, size_wrm] <;> omega) | fail)) only [go_sem, Nat.reduceBEq, Nat.reduceAdd, Nat.reduceMul, Nat.reduceLeDiff, ↓reduceIte, rd_new_lt, own_new_lt, mp_new_lt, rd_newm_lt, own_newm_lt, mp_newm_lt, rd_wr_ne, own_wr_ne, mp_wr_ne, rd_wrm_ne, own_wrm_ne, mp_wrm_ne, rd_new_eq, own_new_eq, mp_newm_eq]
  refine (ref02_Bits_spec ⟨hm.1, by omega⟩ H0).mono ?_
  rintro _ _ ⟨rfl, rfl⟩
  simp (disch := (first | omega | (simp only [size_new, size_newm, size_wr, size_wrm] <;> omega) | fail)) only [go_sem, Nat.reduceBEq, Nat.reduceAdd, Nat.reduceMul, Nat.reduceLeDiff, ↓reduceIte, rd_new_lt, own_new_lt, mp_new_lt, rd_newm_lt, own_newm_lt, mp_newm_lt, rd_wr_ne, own_wr_ne, mp_wr_ne, rd_wrm_ne, own_wrm_ne, mp_wrm_ne, rd_new_eq, own_new_eq, mp_newm_eq, rd_of_own o0]
  rw [wrap64 (n := 2 + ((bitsN m.toNat : Nat) : Int)) (by omega) (by omega)]
  refine (ref02_Check_spec hc H0).mono ?_
  rintro _ H1 ⟨rfl, f1⟩
  have o1 := f1.own o0 (fun h => h)
  simp (disch := (first | omega | (simp only [size_new, size_newm, size_wr, size_wrm] <;> omega) | fail)) only [go_sem, Nat.reduceBEq, Nat.reduceAdd, Nat.reduceMul, Nat.reduceLeDiff, ↓reduceIte, rd_new_lt, own_new_lt, mp_new_lt, rd_newm_lt, own_newm_lt, mp_newm_lt, rd_wr_ne, own_wr_ne, mp_wr_ne, rd_wrm_ne, own_wrm_ne, mp_wrm_ne, rd_new_eq, own_new_eq, mp_newm_eq, rd_of_own o1, decide_true]
  rcases hc with ⟨rfl, hd⟩ | ⟨rfl, rfl⟩
  · refine Both.of_true (by decide) ?_
    simp (disch := (first | omega | (simp only [size_new, size_newm, size_wr, size_wrm] <;> omega) | fail)) only [go_sem, Nat.reduceBEq, Nat.reduceAdd, Nat.reduceMul, Nat.reduceLeDiff, ↓reduceIte, rd_new_lt, own_new_lt, mp_new_lt, rd_newm_lt, own_newm_lt, mp_newm_lt, rd_wr_ne, own_wr_ne, mp_wr_ne, rd_wrm_ne, own_wrm_ne, mp_wrm_ne, rd_new_eq, own_new_eq, mp_newm_eq, rd_of_own o1]
    refine (ref02_Arity_spec hd H1).mono ?_
    rintro _ H2 ⟨rfl, f2⟩
    simp (disch := (first | omega | (simp only [size_new, size_newm, size_wr, size_wrm] <;> omega) | fail)) only [go_sem, Nat.reduceBEq, Nat.reduceAdd, Nat.reduceMul, Nat.reduceLeDiff, ↓reduceIte, rd_new_lt, own_new_lt, mp_new_lt, rd_newm_lt, own_newm_lt, mp_newm_lt, rd_wr_ne, own_wr_ne, mp_wr_ne, rd_wrm_ne, own_wrm_ne, mp_wrm_ne, rd_new_eq, own_new_eq, mp_newm_eq]
    have e : limC 2 dd m = dd * (2 + (bitsN m.toNat : Nat)) := by unfold limC; rw [if_pos rfl]
    rw [e] at hle hge
    rw [wrap64 (by omega) (by omega)]
    exact ⟨congrArg i64 e.symm, (f0.trans f1).trans f2⟩
  · refine Both.of_false (by decide) ?_
    simp (disch := (first | omega | (simp only [size_new, size_newm, size_wr, size_wrm] <;> omega) | fail)) only [go_sem, Nat.reduceBEq, Nat.reduceAdd, Nat.reduceMul, Nat.reduceLeDiff, ↓reduceIte, rd_new_lt, own_new_lt, mp_new_lt, rd_newm_lt, own_newm_lt, mp_newm_lt, rd_wr_ne, own_wr_ne, mp_wr_ne, rd_wrm_ne, own_wrm_ne, mp_wrm_ne, rd_new_eq, own_new_eq, mp_newm_eq, rd_of_own o1]
    refine Both.of_false (by decide) ?_
    simp (disch := (first | omega | (simp only [size_new, size_newm, size_wr, size_wrm] <;> omega) | fail)) only [go_sem, Nat.reduceBEq, Nat.reduceAdd, Nat.reduceMul, Nat.reduceLeDiff, ↓reduceIte, rd_new_lt, own_new_lt, mp_new_lt, rd_newm_lt, own_newm_lt, mp_newm_lt, rd_wr_ne, own_wr_ne, mp_wr_ne, rd_wrm_ne, own_wrm_ne, mp_wrm_ne, rd_new_eq, own_new_eq, mp_newm_eq, rd_of_own o1]
    refine Both.of_false (by decide) ?_
    simp (disch := (first | omega | (simp only [size_new, size_newm, size_wr, size_wrm] <;> omega) | fail)) only [go_sem, Nat.reduceBEq, Nat.reduceAdd, Nat.reduceMul, Nat.reduceLeDiff, ↓reduceIte, rd_new_lt, own_new_lt, mp_new_lt, rd_newm_lt, own_newm_lt, mp_newm_lt, rd_wr_ne, own_wr_ne, mp_wr_ne, rd_wrm_ne, own_wrm_ne, mp_wrm_ne, rd_new_eq, own_new_eq, mp_newm_eq, rd_of_own o1]
    refine Both.of_true (by decide) ?_
    simp (disch := (first | omega | (simp only [size_new, size_newm, size_wr, size_wrm] <;> omega) | fail)) only [go_sem, Nat.reduceBEq, Nat.reduceAdd, Nat.reduceMul, Nat.reduceLeDiff, ↓reduceIte, rd_new_lt, own_new_lt, mp_new_lt, rd_newm_lt, own_newm_lt, mp_newm_lt, rd_wr_ne, own_wr_ne, mp_wr_ne, rd_wrm_ne, own_wrm_ne, mp_wrm_ne, rd_new_eq, own_new_eq, mp_newm_eq]
    have e : limC 8 0 m = 4 * (2 + (bitsN m.toNat : Nat)) := by unfold limC; rw [if_neg (by omega)]
    rw [e] at hle hge
    rw [wrap64 (by omega) (by omega)]
    exact ⟨congrArg i64 e.symm, f0.trans f1⟩

/-! the program's own -/

set_option maxRecDepth 100000 in
theorem len64_9 (H : Hp) : CallH Try.prog n_math_bits_Len64 [.int .u64 9] H fun v H' => Post (v = i64 4 ∧ H = H') := by
  refine c_math_bits_Len64 ⟨rfl, ?_⟩
  simp (disch := (first | omega | (simp only [size_new, size_newm, size_wr, size_wrm] <;> omega) | fail)) only [go_sem, Nat.reduceBEq, Nat.reduceAdd, Nat.reduceMul, Nat.reduceLeDiff, ↓reduceIte, rd_new_lt, own_new_lt, mp_new_lt, rd_newm_lt, own_newm_lt, mp_newm_lt, rd_wr_ne, own_wr_ne, mp_wr_ne, rd_wrm_ne, own_wrm_ne, mp_wrm_ne, rd_new_eq, own_new_eq, mp_newm_eq, s_math_bits_Len64]
  refine Both.of_false (by decide) ?_
  simp (disch := (first | omega | (simp only [size_new, size_newm, size_wr, size_wrm] <;> omega) | fail)) only [go_sem, Nat.reduceBEq, Nat.reduceAdd, Nat.reduceMul, Nat.reduceLeDiff, ↓reduceIte, rd_new_lt, own_new_lt, mp_new_lt, rd_newm_lt, own_newm_lt, mp_newm_lt, rd_wr_ne, own_wr_ne, mp_wr_ne, rd_wrm_ne, own_wrm_ne, mp_wrm_ne, rd_new_eq, own_new_eq, mp_newm_eq]
  refine Both.of_false (by decide) ?_
  simp (disch := (first | omega | (simp only [size_new, size_newm, size_wr, size_wrm] <;> omega) | fail)) only [go_sem, Nat.reduceBEq, Nat.reduceAdd, Nat.reduceMul, Nat.reduceLeDiff, ↓reduceIte, rd_new_lt, own_new_lt, mp_new_lt, rd_newm_lt, own_newm_lt, mp_newm_lt, rd_wr_ne, own_wr_ne, mp_wr_ne, rd_wrm_ne, own_wrm_ne, mp_wrm_ne, rd_new_eq, own_new_eq, mp_newm_eq]
  refine Both.of_false (by decide) ?_
  simp (disch := (first | omega | (simp only [size_new, size_newm, size_wr, size_wrm] <;> omega) | fail)) only [go_sem, Nat.reduceBEq, Nat.reduceAdd, Nat.reduceMul, Nat.reduceLeDiff, ↓reduceIte, rd_new_lt, own_new_lt, mp_new_lt, rd_newm_lt, own_newm_lt, mp_newm_lt, rd_wr_ne, own_wr_ne, mp_wr_ne, rd_wrm_ne, own_wrm_ne, mp_wrm_ne, rd_new_eq, own_new_eq, mp_newm_eq]
  rw [show IntKind.u8.wrap 9 = 9 from rfl]
  refine ⟨by omega, ?_⟩
  refine withO_mk (v := 4) rfl ?_
  simp (disch := (first | omega | (simp only [size_new, size_newm, size_wr, size_wrm] <;> omega) | fail)) only [go_sem, Nat.reduceBEq, Nat.reduceAdd, Nat.reduceMul, Nat.reduceLeDiff, ↓reduceIte, rd_new_lt, own_new_lt, mp_new_lt, rd_newm_lt, own_newm_lt, mp_newm_lt, rd_wr_ne, own_wr_ne, mp_wr_ne, rd_wrm_ne, own_wrm_ne, mp_wrm_ne, rd_new_eq, own_new_eq, mp_newm_eq]
  exact ⟨rfl, rfl⟩

theorem gauge_near_9 (H : Hp) : CallH Try.prog n_gauge_near [i64 9] H fun v H' => Post (v = i64 9 ∧ H = H') := by
  refine c_gauge_near ⟨rfl, ?_⟩
  simp (disch := (first | omega | (simp only [size_new, size_newm, size_wr, size_wrm] <;> omega) | fail)) only [go_sem, Nat.reduceBEq, Nat.reduceAdd, Nat.reduceMul, Nat.reduceLeDiff, ↓reduceIte, rd_new_lt, own_new_lt, mp_new_lt, rd_newm_lt, own_newm_lt, mp_newm_lt, rd_wr_ne, own_wr_ne, mp_wr_ne, rd_wrm_ne, own_wrm_ne, mp_wrm_ne, rd_new_eq, own_new_eq, mp_newm_eq, s_gauge_near]
  exact ⟨rfl, rfl⟩

theorem gauge_Bits_9 (H : Hp) : CallH Try.prog n_gauge_Bits [i64 9] H fun v H' => Post (v = i64 4 ∧ H = H') := by
  refine c_gauge_Bits ⟨rfl, ?_⟩
  simp (disch := (first | omega | (simp only [size_new, size_newm, size_wr, size_wrm] <;> omega) | fail)) only [go_sem, Nat.reduceBEq, Nat.reduceAdd, Nat.reduceMul, Nat.reduceLeDiff, ↓reduceIte, rd_new_lt, own_new_lt, mp_new_lt, rd_newm_lt, own_newm_lt, mp_newm_lt, rd_wr_ne, own_wr_ne, mp_wr_ne, rd_wrm_ne, own_wrm_ne, mp_wrm_ne, rd_new_eq, own_new_eq, mp_newm_eq, s_gauge_Bits]
  rw [show IntKind.u64.wrap (if (0 : Int) > 9 then 0 else 9) = 9 from rfl]
  refine (len64_9 H).mono ?_
  rintro _ _ ⟨rfl, rfl⟩
  simp (disch := (first | omega | (simp only [size_new, size_newm, size_wr, size_wrm] <;> omega) | fail)) only [go_sem, Nat.reduceBEq, Nat.reduceAdd, Nat.reduceMul, Nat.reduceLeDiff, ↓reduceIte, rd_new_lt, own_new_lt, mp_new_lt, rd_newm_lt, own_newm_lt, mp_newm_lt, rd_wr_ne, own_wr_ne, mp_wr_ne, rd_wrm_ne, own_wrm_ne, mp_wrm_ne, rd_new_eq, own_new_eq, mp_newm_eq]
  exact ⟨rfl, rfl⟩

theorem gauge_Check_spec {kd dd : Int} (hc : KindC kd dd) (H : Hp) : CallH Try.prog n_gauge_Check [cfg kd dd] H fun v H' => Post (v = i64 0 ∧ Fresh H H') := by
  refine c_gauge_Check ⟨rfl, ?_⟩
  simp (disch := (first | omega | (simp only [size_new, size_newm, size_wr, size_wrm] <;> omega) | fail)) only [go_sem, Nat.reduceBEq, Nat.reduceAdd, Nat.reduceMul, Nat.reduceLeDiff, ↓reduceIte, rd_new_lt, own_new_lt, mp_new_lt, rd_newm_lt, own_newm_lt, mp_newm_lt, rd_wr_ne, own_wr_ne, mp_wr_ne, rd_wrm_ne, own_wrm_ne, mp_wrm_ne, rd_new_eq, own_new_eq, mp_newm_eq, s_gauge_Check]
  have f0 : Fresh H (H.new 54 [i64 kd, i64 dd]) := (Ext.refl _ _).new _ _
  rcases hc with ⟨rfl, hd⟩ | ⟨rfl, rfl⟩
  · have h1 := hd.1
    have h2 := hd.2
    refine Both.of_false (by decide) ?_
    simp (disch := (first | omega | (simp only [size_new, size_newm, size_wr, size_wrm] <;> omega) | fail)) only [go_sem, Nat.reduceBEq, Nat.reduceAdd, Nat.reduceMul, Nat.reduceLeDiff, ↓reduceIte, rd_new_lt, own_new_lt, mp_new_lt, rd_newm_lt, own_newm_lt, mp_newm_lt, rd_wr_ne, own_wr_ne, mp_wr_ne, rd_wrm_ne, own_wrm_ne, mp_wrm_ne, rd_new_eq, own_new_eq, mp_newm_eq]
    refine Both.of_false (by decide) ?_
    simp (disch := (first | omega | (simp only [size_new, size_newm, size_wr, size_wrm] <;> omega) | fail)) only [go_sem, Nat.reduceBEq, Nat.reduceAdd, Nat.reduceMul, Nat.reduceLeDiff, ↓reduceIte, rd_new_lt, own_new_lt, mp_new_lt, rd_newm_lt, own_newm_lt, mp_newm_lt, rd_wr_ne, own_wr_ne, mp_wr_ne, rd_wrm_ne, own_wrm_ne, mp_wrm_ne, rd_new_eq, own_new_eq, mp_newm_eq]
    refine Both.of_true (by decide) ?_
    simp (disch := (first | omega | (simp only [size_new, size_newm, size_wr, size_wrm] <;> omega) | fail)) only [go_sem, Nat.reduceBEq, Nat.reduceAdd, Nat.reduceMul, Nat.reduceLeDiff, ↓reduceIte, rd_new_lt, own_new_lt, mp_new_lt, rd_newm_lt, own_newm_lt, mp_newm_lt, rd_wr_ne, own_wr_ne, mp_wr_ne, rd_wrm_ne, own_wrm_ne, mp_wrm_ne, rd_new_eq, own_new_eq, mp_newm_eq]
    refine Both.of_false (decide_eq_false (by omega)) ?_
    simp (disch := (first | omega | (simp only [size_new, size_newm, size_wr, size_wrm] <;> omega) | fail)) only [go_sem, Nat.reduceBEq, Nat.reduceAdd, Nat.reduceMul, Nat.reduceLeDiff, ↓reduceIte, rd_new_lt, own_new_lt, mp_new_lt, rd_newm_lt, own_newm_lt, mp_newm_lt, rd_wr_ne, own_wr_ne, mp_wr_ne, rd_wrm_ne, own_wrm_ne, mp_wrm_ne, rd_new_eq, own_new_eq, mp_newm_eq]
    refine Both.of_false (decide_eq_false (by omega)) ?_
    simp (disch := (first | omega | (simp only [size_new, size_newm, size_wr, size_wrm] <;> omega) | fail)) only [go_sem, Nat.reduceBEq, Nat.reduceAdd, Nat.reduceMul, Nat.reduceLeDiff, ↓reduceIte, rd_new_lt, own_new_lt, mp_new_lt, rd_newm_lt, own_newm_lt, mp_newm_lt, rd_wr_ne, own_wr_ne, mp_wr_ne, rd_wrm_ne, own_wrm_ne, mp_wrm_ne, rd_new_eq, own_new_eq, mp_newm_eq]
    refine Both.of_true (by decide) ?_
    simp (disch := (first | omega | (simp only [size_new, size_newm, size_wr, size_wrm] <;> omega) | fail)) only [go_sem, Nat.reduceBEq, Nat.reduceAdd, Nat.reduceMul, Nat.reduceLeDiff, ↓reduceIte, rd_new_lt, own_new_lt, mp_new_lt, rd_newm_lt, own_newm_lt, mp_newm_lt, rd_wr_ne, own_wr_ne, mp_wr_ne, rd_wrm_ne, own_wrm_ne, mp_wrm_ne, rd_new_eq, own_new_eq, mp_newm_eq]
    exact ⟨rfl, f0⟩
  · refine Both.of_false (by decide) ?_
    simp (disch := (first | omega | (simp only [size_new, size_newm, size_wr, size_wrm] <;> omega) | fail)) only [go_sem, Nat.reduceBEq, Nat.reduceAdd, Nat.reduceMul, Nat.reduceLeDiff, ↓reduceIte, rd_new_lt, own_new_lt, mp_new_lt, rd_newm_lt, own_newm_lt, mp_newm_lt, rd_wr_ne, own_wr_ne, mp_wr_ne, rd_wrm_ne, own_wrm_ne, mp_wrm_ne, rd_new_eq, own_new_eq, mp_newm_eq]
    refine Both.of_false (by decide) ?_
    simp (disch := (first | omega | (simp only [size_new, size_newm, size_wr, size_wrm] <;> omega) | fail)) only [go_sem, Nat.reduceBEq, Nat.reduceAdd, Nat.reduceMul, Nat.reduceLeDiff, ↓reduceIte, rd_new_lt, own_new_lt, mp_new_lt, rd_newm_lt, own_newm_lt, mp_newm_lt, rd_wr_ne, own_wr_ne, mp_wr_ne, rd_wrm_ne, own_wrm_ne, mp_wrm_ne, rd_new_eq, own_new_eq, mp_newm_eq]
    refine Both.of_false (by decide) ?_
    simp (disch := (first | omega | (simp only [size_new, size_newm, size_wr, size_wrm] <;> omega) | fail)) only [go_sem, Nat.reduceBEq, Nat.reduceAdd, Nat.reduceMul, Nat.reduceLeDiff, ↓reduceIte, rd_new_lt, own_new_lt, mp_new_lt, rd_newm_lt, own_newm_lt, mp_newm_lt, rd_wr_ne, own_wr_ne, mp_wr_ne, rd_wrm_ne, own_wrm_ne, mp_wrm_ne, rd_new_eq, own_new_eq, mp_newm_eq]
    refine Both.of_false (by decide) ?_
    simp (disch := (first | omega | (simp only [size_new, size_newm, size_wr, size_wrm] <;> omega) | fail)) only [go_sem, Nat.reduceBEq, Nat.reduceAdd, Nat.reduceMul, Nat.reduceLeDiff, ↓reduceIte, rd_new_lt, own_new_lt, mp_new_lt, rd_newm_lt, own_newm_lt, mp_newm_lt, rd_wr_ne, own_wr_ne, mp_wr_ne, rd_wrm_ne, own_wrm_ne, mp_wrm_ne, rd_new_eq, own_new_eq, mp_newm_eq, decide_true]
    first | exact ⟨rfl, f0⟩ | (refine Both.of_true (by decide) ?_; simp (disch := (first | omega | (simp only [size_new, size_newm, size_wr, size_wrm] <;> omega) | fail)) only [go_sem, Nat.reduceBEq, Nat.reduceAdd, Nat.reduceMul, Nat.reduceLeDiff, ↓reduceIte, rd_new_lt, own_new_lt, mp_new_lt, rd_newm_lt, own_newm_lt, mp_newm_lt, rd_wr_ne, own_wr_ne, mp_wr_ne, rd_wrm_ne, own_wrm_ne, mp_wrm_ne, rd_new_eq, own_new_eq, mp_newm_eq]; exact ⟨rfl, f0⟩)

theorem gauge_Arity_spec {dd : Int} (hd : FineD dd) (H : Hp) : CallH Try.prog n_gauge_Arity [cfg 2 dd] H fun v H' => Post (v = i64 dd ∧ Fresh H H') := by
  refine c_gauge_Arity ⟨rfl, ?_⟩
  simp (disch := (first | omega | (simp only [size_new, size_newm, size_wr, size_wrm] <;> omega) | fail)) only [go_sem, Nat.reduceBEq, Nat.reduceAdd, Nat.reduceMul, Nat.reduceLeDiff, ↓reduceIte, rd_new_lt, own_new_lt, mp_new_lt, rd_newm_lt, own_newm_lt, mp_newm_lt, rd_wr_ne, own_wr_ne, mp_wr_ne, rd_wrm_ne, own_wrm_ne, mp_wrm_ne, rd_new_eq, own_new_eq, mp_newm_eq, s_gauge_Arity]
  have f0 : Fresh H (H.new 54 [i64 2, i64 dd]) := (Ext.refl _ _).new _ _
  have o0 : (H.new 54 [i64 2, i64 dd]).own H.size = some [i64 2, i64 dd] := own_new _ _ _
  generalize H.new 54 [i64 2, i64 dd] = H0 at *
  refine (gauge_Check_spec (.inl ⟨rfl, hd⟩) H0).mono ?_
  rintro _ H1 ⟨rfl, f1⟩
  have o1 := f1.own o0 (fun h => h)
  simp (disch := (first | omega | (simp only [size_new, size_newm, size_wr, size_wrm] <;> omega) | fail)) only [go_sem, Nat.reduceBEq, Nat.reduceAdd, Nat.reduceMul, Nat.reduceLeDiff, ↓reduceIte, rd_new_lt, own_new_lt, mp_new_lt, rd_newm_lt, own_newm_lt, mp_newm_lt, rd_wr_ne, own_wr_ne, mp_wr_ne, rd_wrm_ne, own_wrm_ne, mp_wrm_ne, rd_new_eq, own_new_eq, mp_newm_eq, rd_of_own o1, decide_true]
  refine Both.of_false (by decide) ?_
  simp (disch := (first | omega | (simp only [size_new, size_newm, size_wr, size_wrm] <;> omega) | fail)) only [go_sem, Nat.reduceBEq, Nat.reduceAdd, Nat.reduceMul, Nat.reduceLeDiff, ↓reduceIte, rd_new_lt, own_new_lt, mp_new_lt, rd_newm_lt, own_newm_lt, mp_newm_lt, rd_wr_ne, own_wr_ne, mp_wr_ne, rd_wrm_ne, own_wrm_ne, mp_wrm_ne, rd_new_eq, own_new_eq, mp_newm_eq, rd_of_own o1, decide_true]
  exact ⟨rfl, f0.trans f1⟩

theorem gauge_Limit_9 {kd dd : Int} (hc : KindC kd dd) (H : Hp) : CallH Try.prog n_gauge_Limit [cfg kd dd, i64 9] H fun v H' => Post (v = i64 (limC kd dd 9) ∧ Fresh H H') := by
  have hle := limC_le hc (m := 9) (by omega)
  have hge := limC_nonneg hc 9
  have hb : bitsN (9 : Int).toNat = 4 := by decide
  refine c_gauge_Limit ⟨rfl, ?_⟩
  simp (disch := (first | omega | (simp only [size_new, size_newm, size_wr, size_wrm] <;> omega) | fail)) only [go_sem, Nat.reduceBEq, Nat.reduceAdd, Nat.reduceMul, Nat.reduceLeDiff, ↓reduceIte, rd_new_lt, own_new_lt, mp_new_lt, rd_newm_lt, own_newm_lt, mp_newm_lt, rd_wr_ne, own_wr_ne, mp_wr_ne, rd_wrm_ne, own_wrm_ne, mp_wrm_ne, rd_new_eq, own_new_eq, mp_newm_eq, s_gauge_Limit]
  have f0 : Fresh H (H.new 54 [i64 kd, i64 dd]) := (Ext.refl _ _).new _ _
  have o0 : (H.new 54 [i64 kd, i64 dd]).own H.size = some [i64 kd, i64 dd] := own_new _ _ _
  generalize H.new 54 [i64 kd, i64 dd] = H0 at *
  refine (gauge_near_9 H0).mono ?_
  rintro _ _ ⟨rfl, rfl⟩
  simp (disch := (first | omega | (simp only [size_new, size_newm, size_wr, size_wrm] <;> omega) | fail)) only [go_sem, Nat.reduceBEq, Nat.reduceAdd, Nat.reduceMul, Nat.reduceLeDiff, ↓reduceIte, rd_new_lt, own_new_lt, mp_new_lt, rd_newm_lt, own_newm_lt, mp_newm_lt, rd_wr_ne, own_wr_ne, mp_wr_ne, rd_wrm_ne, own_wrm_ne, mp_wrm_ne, rd_new_eq, own_new_eq, mp_newm_eq]
  refine (gauge_Bits_9 H0).mono ?_
  rintro _ _ ⟨rfl, rfl⟩
  simp (disch := (first | omega | (simp only [size_new, size_newm, size_wr, size_wrm] <;> omega) | fail)) only [go_sem, Nat.reduceBEq, Nat.reduceAdd, Nat.reduceMul, Nat.reduceLeDiff, ↓reduceIte, rd_new_lt, own_new_lt, mp_new_lt, rd_newm_lt, own_newm_lt, mp_newm_lt, rd_wr_ne, own_wr_ne, mp_wr_ne, rd_wrm_ne, own_wrm_ne, mp_wrm_ne, rd_new_eq, own_new_eq, mp_newm_eq, rd_of_own o0]
  rw [show IntKind.i64.wrap (2 + 4) = 6 from rfl]
  refine (gauge_Check_spec hc H0).mono ?_
  rintro _ H1 ⟨rfl, f1⟩
  have o1 := f1.own o0 (fun h => h)
  simp (disch := (first | omega | (simp only [size_new, size_newm, size_wr, size_wrm] <;> omega) | fail)) only [go_sem, Nat.reduceBEq, Nat.reduceAdd, Nat.reduceMul, Nat.reduceLeDiff, ↓reduceIte, rd_new_lt, own_new_lt, mp_new_lt, rd_newm_lt, own_newm_lt, mp_newm_lt, rd_wr_ne, own_wr_ne, mp_wr_ne, rd_wrm_ne, own_wrm_ne, mp_wrm_ne, rd_new_eq, own_new_eq, mp_newm_eq, rd_of_own o1, decide_true]
  rcases hc with ⟨rfl, hd⟩ | ⟨rfl, rfl⟩
  · refine Both.of_false (by decide) ?_
    simp (disch := (first | omega | (simp only [size_new, size_newm, size_wr, size_wrm] <;> omega) | fail)) only [go_sem, Nat.reduceBEq, Nat.reduceAdd, Nat.reduceMul, Nat.reduceLeDiff, ↓reduceIte, rd_new_lt, own_new_lt, mp_new_lt, rd_newm_lt, own_newm_lt, mp_newm_lt, rd_wr_ne, own_wr_ne, mp_wr_ne, rd_wrm_ne, own_wrm_ne, mp_wrm_ne, rd_new_eq, own_new_eq, mp_newm_eq, rd_of_own o1, decide_true]
    refine (gauge_Arity_spec hd H1).mono ?_
    rintro _ H2 ⟨rfl, f2⟩
    simp (disch := (first | omega | (simp only [size_new, size_newm, size_wr, size_wrm] <;> omega) | fail)) only [go_sem, Nat.reduceBEq, Nat.reduceAdd, Nat.reduceMul, Nat.reduceLeDiff, ↓reduceIte, rd_new_lt, own_new_lt, mp_new_lt, rd_newm_lt, own_newm_lt, mp_newm_lt, rd_wr_ne, own_wr_ne, mp_wr_ne, rd_wrm_ne, own_wrm_ne, mp_wrm_ne, rd_new_eq, own_new_eq, mp_newm_eq]
    have e : limC 2 dd 9 = dd * 6 := by unfold limC; rw [if_pos rfl, hb]; rfl
    rw [e] at hle hge
    rw [wrap64 (by omega) (by omega)]
    exact ⟨congrArg i64 e.symm, (f0.trans f1).trans f2⟩
  · refine Both.of_false (by decide) ?_
    simp (disch := (first | omega | (simp only [size_new, size_newm, size_wr, size_wrm] <;> omega) | fail)) only [go_sem, Nat.reduceBEq, Nat.reduceAdd, Nat.reduceMul, Nat.reduceLeDiff, ↓reduceIte, rd_new_lt, own_new_lt, mp_new_lt, rd_newm_lt, own_newm_lt, mp_newm_lt, rd_wr_ne, own_wr_ne, mp_wr_ne, rd_wrm_ne, own_wrm_ne, mp_wrm_ne, rd_new_eq, own_new_eq, mp_newm_eq, rd_of_own o1]
    refine Both.of_false (by decide) ?_
    simp (disch := (first | omega | (simp only [size_new, size_newm, size_wr, size_wrm] <;> omega) | fail)) only [go_sem, Nat.reduceBEq, Nat.reduceAdd, Nat.reduceMul, Nat.reduceLeDiff, ↓reduceIte, rd_new_lt, own_new_lt, mp_new_lt, rd_newm_lt, own_newm_lt, mp_newm_lt, rd_wr_ne, own_wr_ne, mp_wr_ne, rd_wrm_ne, own_wrm_ne, mp_wrm_ne, rd_new_eq, own_new_eq, mp_newm_eq, rd_of_own o1]
    refine Both.of_false (by decide) ?_
    simp (disch := (first | omega | (simp only [size_new, size_newm, size_wr, size_wrm] <;> omega) | fail)) only [go_sem, Nat.reduceBEq, Nat.reduceAdd, Nat.reduceMul, Nat.reduceLeDiff, ↓reduceIte, rd_new_lt, own_new_lt, mp_new_lt, rd_newm_lt, own_newm_lt, mp_newm_lt, rd_wr_ne, own_wr_ne, mp_wr_ne, rd_wrm_ne, own_wrm_ne, mp_wrm_ne, rd_new_eq, own_new_eq, mp_newm_eq, rd_of_own o1]
    refine Both.of_false (by decide) ?_
    simp (disch := (first | omega | (simp only [size_new, size_newm, size_wr, size_wrm] <;> omega) | fail)) only [go_sem, Nat.reduceBEq, Nat.reduceAdd, Nat.reduceMul, Nat.reduceLeDiff, ↓reduceIte, rd_new_lt, own_new_lt, mp_new_lt, rd_newm_lt, own_newm_lt, mp_newm_lt, rd_wr_ne, own_wr_ne, mp_wr_ne, rd_wrm_ne, own_wrm_ne, mp_wrm_ne, rd_new_eq, own_new_eq, mp_newm_eq, rd_of_own o1, decide_true]
    exact ⟨rfl, f0.trans f1⟩

theorem law05_size_spec {H : Hp} {wv : Value} {w : Nw} {A : Nat → Prop} (hn : NestR H wv w A) (kind h x k s : Int) : CallH Try.prog n_law05_size [wv, act kind h x k s] H fun v H' => Post (
    v = .tuple [i64 (if kind = 6 then w.len h else w.len (w.actHeap kind h x)), i64 (if kind = 6 then w.len x else 0)].toArray ∧ Fresh H H') := by
  obtain ⟨ha, hc, ca, cc, rfl, h1, h2, h3, h4, a1, a2⟩ := id hn
  refine c_law05_size ⟨rfl, ?_⟩
  simp (disch := (first | omega | (simp only [size_new, size_newm, size_wr, size_wrm] <;> omega) | fail)) only [go_sem, Nat.reduceBEq, Nat.reduceAdd, Nat.reduceMul, Nat.reduceLeDiff, ↓reduceIte, rd_new_lt, own_new_lt, mp_new_lt, rd_newm_lt, own_newm_lt, mp_newm_lt, rd_wr_ne, own_wr_ne, mp_wr_ne, rd_wrm_ne, own_wrm_ne, mp_wrm_ne, rd_new_eq, own_new_eq, mp_newm_eq, s_law05_size, act]
  have f0 : Fresh H ((H.new 108 [.slice ha w.hs.length hc, .slice ca w.cs.length cc]).new 72 [i64 kind, i64 h, i64 x, i64 k, u64 s]) := ((Ext.refl _ _).new _ _).new _ _
  have o2 : ((H.new 108 [.slice ha w.hs.length hc, .slice ca w.cs.length cc]).new 72 [i64 kind, i64 h, i64 x, i64 k, u64 s]).own H.size = some [.slice ha w.hs.length hc, .slice ca w.cs.length cc] := by rw [own_new_lt (by simp only [size_new]; omega), own_new]
  have o3 : ((H.new 108 [.slice ha w.hs.length hc, .slice ca w.cs.length cc]).new 72 [i64 kind, i64 h, i64 x, i64 k, u64 s]).own (H.size + 1) = some [i64 kind, i64 h, i64 x, i64 k, u64 s] := by rw [own_new_eq (by simp only [size_new])]
  generalize (H.new 108 [.slice ha w.hs.length hc, .slice ca w.cs.length cc]).new 72 [i64 kind, i64 h, i64 x, i64 k, u64 s] = H0 at *
  have n0 := hn.fresh f0
  -- the heap of a slot
  have slot : ∀ H1 : Hp, Fresh H0 H1 → InC w.cs x → ∃ b o l c0, ca = some ⟨b, o, none⟩ ∧ H1.rd b = some l ∧ (0 ≤ x ∧ x < (w.cs.length : Int)) ∧ l[o + x.toNat * 3]? = some (i64 c0.1) ∧ w.cs[x.toNat]? = some c0 := fun H1 f hin => by
    obtain ⟨hx0, c0, hc0, hp⟩ := id hin
    obtain ⟨b, o, l, hca, c1, c2, c3, c4, c5, c6, c7, c8⟩ := RdS.cell ((n0.fresh f).cells) hc0
    exact ⟨b, o, l, c0, hca, c1, ⟨hx0, by have := (List.getElem?_eq_some_iff.1 hc0).1; omega⟩, c4, hc0⟩
  by_cases h45 : kind = 4 ∨ kind = 5
  · have h6 : kind ≠ 6 := by omega
    rw [if_neg h6, if_neg h6]
    have go : ∀ (K : Value → Hp → Prop), True := fun _ => trivial
    by_cases h4' : kind = 4
    · refine Both.of_true (decide_eq_true h4') ?_
      simp (disch := (first | omega | (simp only [size_new, size_newm, size_wr, size_wrm] <;> omega) | fail)) only [go_sem, Nat.reduceBEq, Nat.reduceAdd, Nat.reduceMul, Nat.reduceLeDiff, ↓reduceIte, rd_new_lt, own_new_lt, mp_new_lt, rd_newm_lt, own_newm_lt, mp_newm_lt, rd_wr_ne, own_wr_ne, mp_wr_ne, rd_wrm_ne, own_wrm_ne, mp_wrm_ne, rd_new_eq, own_new_eq, mp_newm_eq, rd_of_own o2, rd_of_own o3]
      refine (ref05_In_spec n0 x).mono ?_
      rintro _ H1 ⟨rfl, f1⟩
      have q2 := f1.own o2 (fun h => h)
      have q3 := f1.own o3 (fun h => h)
      simp (disch := (first | omega | (simp only [size_new, size_newm, size_wr, size_wrm] <;> omega) | fail)) only [go_sem, Nat.reduceBEq, Nat.reduceAdd, Nat.reduceMul, Nat.reduceLeDiff, ↓reduceIte, rd_new_lt, own_new_lt, mp_new_lt, rd_newm_lt, own_newm_lt, mp_newm_lt, rd_wr_ne, own_wr_ne, mp_wr_ne, rd_wrm_ne, own_wrm_ne, mp_wrm_ne, rd_new_eq, own_new_eq, mp_newm_eq]
      refine Both.dec (fun hin => ?_) (fun hin => ?_)
      · obtain ⟨b, o, l, c0, rfl, s1, s2, s3, s4⟩ := slot H1 f1 hin
        simp (disch := (first | omega | (simp only [size_new, size_newm, size_wr, size_wrm] <;> omega) | fail)) only [go_sem, Nat.reduceBEq, Nat.reduceAdd, Nat.reduceMul, Nat.reduceLeDiff, ↓reduceIte, rd_new_lt, own_new_lt, mp_new_lt, rd_newm_lt, own_newm_lt, mp_newm_lt, rd_wr_ne, own_wr_ne, mp_wr_ne, rd_wrm_ne, own_wrm_ne, mp_wrm_ne, rd_new_eq, own_new_eq, mp_newm_eq, rd_of_own q2, rd_of_own q3]
        refine ⟨s2, ?_⟩
        simp (disch := (first | omega | (simp only [size_new, size_newm, size_wr, size_wrm] <;> omega) | fail)) only [go_sem, Nat.reduceBEq, Nat.reduceAdd, Nat.reduceMul, Nat.reduceLeDiff, ↓reduceIte, rd_new_lt, own_new_lt, mp_new_lt, rd_newm_lt, own_newm_lt, mp_newm_lt, rd_wr_ne, own_wr_ne, mp_wr_ne, rd_wrm_ne, own_wrm_ne, mp_wrm_ne, rd_new_eq, own_new_eq, mp_newm_eq, s1, s3, Nat.add_zero, rd_of_own q3]
        refine Both.of_false (decide_eq_false h6) ?_
        simp (disch := (first | omega | (simp only [size_new, size_newm, size_wr, size_wrm] <;> omega) | fail)) only [go_sem, Nat.reduceBEq, Nat.reduceAdd, Nat.reduceMul, Nat.reduceLeDiff, ↓reduceIte, rd_new_lt, own_new_lt, mp_new_lt, rd_newm_lt, own_newm_lt, mp_newm_lt, rd_wr_ne, own_wr_ne, mp_wr_ne, rd_wrm_ne, own_wrm_ne, mp_wrm_ne, rd_new_eq, own_new_eq, mp_newm_eq, rd_of_own q2]
        refine (ref05_Len_spec (n0.fresh f1) c0.1).mono ?_
        rintro _ H2 ⟨rfl, f2⟩
        simp (disch := (first | omega | (simp only [size_new, size_newm, size_wr, size_wrm] <;> omega) | fail)) only [go_sem, Nat.reduceBEq, Nat.reduceAdd, Nat.reduceMul, Nat.reduceLeDiff, ↓reduceIte, rd_new_lt, own_new_lt, mp_new_lt, rd_newm_lt, own_newm_lt, mp_newm_lt, rd_wr_ne, own_wr_ne, mp_wr_ne, rd_wrm_ne, own_wrm_ne, mp_wrm_ne, rd_new_eq, own_new_eq, mp_newm_eq]
        refine ⟨?_, (f0.trans f1).trans f2⟩
        rw [show w.actHeap kind h x = c0.1 by unfold Nw.actHeap; rw [if_pos ⟨h45, hin⟩, List.getD_eq_getElem?_getD, s4]; rfl]
        rfl
      · simp (disch := (first | omega | (simp only [size_new, size_newm, size_wr, size_wrm] <;> omega) | fail)) only [go_sem, Nat.reduceBEq, Nat.reduceAdd, Nat.reduceMul, Nat.reduceLeDiff, ↓reduceIte, rd_new_lt, own_new_lt, mp_new_lt, rd_newm_lt, own_newm_lt, mp_newm_lt, rd_wr_ne, own_wr_ne, mp_wr_ne, rd_wrm_ne, own_wrm_ne, mp_wrm_ne, rd_new_eq, own_new_eq, mp_newm_eq, rd_of_own q3]
        refine Both.of_false (decide_eq_false h6) ?_
        simp (disch := (first | omega | (simp only [size_new, size_newm, size_wr, size_wrm] <;> omega) | fail)) only [go_sem, Nat.reduceBEq, Nat.reduceAdd, Nat.reduceMul, Nat.reduceLeDiff, ↓reduceIte, rd_new_lt, own_new_lt, mp_new_lt, rd_newm_lt, own_newm_lt, mp_newm_lt, rd_wr_ne, own_wr_ne, mp_wr_ne, rd_wrm_ne, own_wrm_ne, mp_wrm_ne, rd_new_eq, own_new_eq, mp_newm_eq, rd_of_own q2]
        refine (ref05_Len_spec (n0.fresh f1) h).mono ?_
        rintro _ H2 ⟨rfl, f2⟩
        simp (disch := (first | omega | (simp only [size_new, size_newm, size_wr, size_wrm] <;> omega) | fail)) only [go_sem, Nat.reduceBEq, Nat.reduceAdd, Nat.reduceMul, Nat.reduceLeDiff, ↓reduceIte, rd_new_lt, own_new_lt, mp_new_lt, rd_newm_lt, own_newm_lt, mp_newm_lt, rd_wr_ne, own_wr_ne, mp_wr_ne, rd_wrm_ne, own_wrm_ne, mp_wrm_ne, rd_new_eq, own_new_eq, mp_newm_eq]
        refine ⟨?_, (f0.trans f1).trans f2⟩
        rw [show w.actHeap kind h x = h by unfold Nw.actHeap; rw [if_neg (fun hc => hin hc.2)]]
        rfl
    · have h5' : kind = 5 := by omega
      refine Both.of_false (decide_eq_false h4') ?_
      simp (disch := (first | omega | (simp only [size_new, size_newm, size_wr, size_wrm] <;> omega) | fail)) only [go_sem, Nat.reduceBEq, Nat.reduceAdd, Nat.reduceMul, Nat.reduceLeDiff, ↓reduceIte, rd_new_lt, own_new_lt, mp_new_lt, rd_newm_lt, own_newm_lt, mp_newm_lt, rd_wr_ne, own_wr_ne, mp_wr_ne, rd_wrm_ne, own_wrm_ne, mp_wrm_ne, rd_new_eq, own_new_eq, mp_newm_eq, rd_of_own o3]
      refine Both.of_true (decide_eq_true h5') ?_
      simp (disch := (first | omega | (simp only [size_new, size_newm, size_wr, size_wrm] <;> omega) | fail)) only [go_sem, Nat.reduceBEq, Nat.reduceAdd, Nat.reduceMul, Nat.reduceLeDiff, ↓reduceIte, rd_new_lt, own_new_lt, mp_new_lt, rd_newm_lt, own_newm_lt, mp_newm_lt, rd_wr_ne, own_wr_ne, mp_wr_ne, rd_wrm_ne, own_wrm_ne, mp_wrm_ne, rd_new_eq, own_new_eq, mp_newm_eq, rd_of_own o2, rd_of_own o3]
      refine (ref05_In_spec n0 x).mono ?_
      rintro _ H1 ⟨rfl, f1⟩
      have q2 := f1.own o2 (fun h => h)
      have q3 := f1.own o3 (fun h => h)
      simp (disch := (first | omega | (simp only [size_new, size_newm, size_wr, size_wrm] <;> omega) | fail)) only [go_sem, Nat.reduceBEq, Nat.reduceAdd, Nat.reduceMul, Nat.reduceLeDiff, ↓reduceIte, rd_new_lt, own_new_lt, mp_new_lt, rd_newm_lt, own_newm_lt, mp_newm_lt, rd_wr_ne, own_wr_ne, mp_wr_ne, rd_wrm_ne, own_wrm_ne, mp_wrm_ne, rd_new_eq, own_new_eq, mp_newm_eq]
      refine Both.dec (fun hin => ?_) (fun hin => ?_)
      · obtain ⟨b, o, l, c0, rfl, s1, s2, s3, s4⟩ := slot H1 f1 hin
        simp (disch := (first | omega | (simp only [size_new, size_newm, size_wr, size_wrm] <;> omega) | fail)) only [go_sem, Nat.reduceBEq, Nat.reduceAdd, Nat.reduceMul, Nat.reduceLeDiff, ↓reduceIte, rd_new_lt, own_new_lt, mp_new_lt, rd_newm_lt, own_newm_lt, mp_newm_lt, rd_wr_ne, own_wr_ne, mp_wr_ne, rd_wrm_ne, own_wrm_ne, mp_wrm_ne, rd_new_eq, own_new_eq, mp_newm_eq, rd_of_own q2, rd_of_own q3]
        refine ⟨s2, ?_⟩
        simp (disch := (first | omega | (simp only [size_new, size_newm, size_wr, size_wrm] <;> omega) | fail)) only [go_sem, Nat.reduceBEq, Nat.reduceAdd, Nat.reduceMul, Nat.reduceLeDiff, ↓reduceIte, rd_new_lt, own_new_lt, mp_new_lt, rd_newm_lt, own_newm_lt, mp_newm_lt, rd_wr_ne, own_wr_ne, mp_wr_ne, rd_wrm_ne, own_wrm_ne, mp_wrm_ne, rd_new_eq, own_new_eq, mp_newm_eq, s1, s3, Nat.add_zero, rd_of_own q3]
        refine Both.of_false (decide_eq_false h6) ?_
        simp (disch := (first | omega | (simp only [size_new, size_newm, size_wr, size_wrm] <;> omega) | fail)) only [go_sem, Nat.reduceBEq, Nat.reduceAdd, Nat.reduceMul, Nat.reduceLeDiff, ↓reduceIte, rd_new_lt, own_new_lt, mp_new_lt, rd_newm_lt, own_newm_lt, mp_newm_lt, rd_wr_ne, own_wr_ne, mp_wr_ne, rd_wrm_ne, own_wrm_ne, mp_wrm_ne, rd_new_eq, own_new_eq, mp_newm_eq, rd_of_own q2]
        refine (ref05_Len_spec (n0.fresh f1) c0.1).mono ?_
        rintro _ H2 ⟨rfl, f2⟩
        simp (disch := (first | omega | (simp only [size_new, size_newm, size_wr, size_wrm] <;> omega) | fail)) only [go_sem, Nat.reduceBEq, Nat.reduceAdd, Nat.reduceMul, Nat.reduceLeDiff, ↓reduceIte, rd_new_lt, own_new_lt, mp_new_lt, rd_newm_lt, own_newm_lt, mp_newm_lt, rd_wr_ne, own_wr_ne, mp_wr_ne, rd_wrm_ne, own_wrm_ne, mp_wrm_ne, rd_new_eq, own_new_eq, mp_newm_eq]
        refine ⟨?_, (f0.trans f1).trans f2⟩
        rw [show w.actHeap kind h x = c0.1 by unfold Nw.actHeap; rw [if_pos ⟨h45, hin⟩, List.getD_eq_getElem?_getD, s4]; rfl]
        rfl
      · simp (disch := (first | omega | (simp only [size_new, size_newm, size_wr, size_wrm] <;> omega) | fail)) only [go_sem, Nat.reduceBEq, Nat.reduceAdd, Nat.reduceMul, Nat.reduceLeDiff, ↓reduceIte, rd_new_lt, own_new_lt, mp_new_lt, rd_newm_lt, own_newm_lt, mp_newm_lt, rd_wr_ne, own_wr_ne, mp_wr_ne, rd_wrm_ne, own_wrm_ne, mp_wrm_ne, rd_new_eq, own_new_eq, mp_newm_eq, rd_of_own q3]
        refine Both.of_false (decide_eq_false h6) ?_
        simp (disch := (first | omega | (simp only [size_new, size_newm, size_wr, size_wrm] <;> omega) | fail)) only [go_sem, Nat.reduceBEq, Nat.reduceAdd, Nat.reduceMul, Nat.reduceLeDiff, ↓reduceIte, rd_new_lt, own_new_lt, mp_new_lt, rd_newm_lt, own_newm_lt, mp_newm_lt, rd_wr_ne, own_wr_ne, mp_wr_ne, rd_wrm_ne, own_wrm_ne, mp_wrm_ne, rd_new_eq, own_new_eq, mp_newm_eq, rd_of_own q2]
        refine (ref05_Len_spec (n0.fresh f1) h).mono ?_
        rintro _ H2 ⟨rfl, f2⟩
        simp (disch := (first | omega | (simp only [size_new, size_newm, size_wr, size_wrm] <;> omega) | fail)) only [go_sem, Nat.reduceBEq, Nat.reduceAdd, Nat.reduceMul, Nat.reduceLeDiff, ↓reduceIte, rd_new_lt, own_new_lt, mp_new_lt, rd_newm_lt, own_newm_lt, mp_newm_lt, rd_wr_ne, own_wr_ne, mp_wr_ne, rd_wrm_ne, own_wrm_ne, mp_wrm_ne, rd_new_eq, own_new_eq, mp_newm_eq]
        refine ⟨?_, (f0.trans f1).trans f2⟩
        rw [show w.actHeap kind h x = h by unfold Nw.actHeap; rw [if_neg (fun hc => hin hc.2)]]
        rfl
  · refine Both.of_false (decide_eq_false (fun h => h45 (.inl h))) ?_
    simp (disch := (first | omega | (simp only [size_new, size_newm, size_wr, size_wrm] <;> omega) | fail)) only [go_sem, Nat.reduceBEq, Nat.reduceAdd, Nat.reduceMul, Nat.reduceLeDiff, ↓reduceIte, rd_new_lt, own_new_lt, mp_new_lt, rd_newm_lt, own_newm_lt, mp_newm_lt, rd_wr_ne, own_wr_ne, mp_wr_ne, rd_wrm_ne, own_wrm_ne, mp_wrm_ne, rd_new_eq, own_new_eq, mp_newm_eq, rd_of_own o3]
    refine Both.of_false (decide_eq_false (fun h => h45 (.inr h))) ?_
    simp (disch := (first | omega | (simp only [size_new, size_newm, size_wr, size_wrm] <;> omega) | fail)) only [go_sem, Nat.reduceBEq, Nat.reduceAdd, Nat.reduceMul, Nat.reduceLeDiff, ↓reduceIte, rd_new_lt, own_new_lt, mp_new_lt, rd_newm_lt, own_newm_lt, mp_newm_lt, rd_wr_ne, own_wr_ne, mp_wr_ne, rd_wrm_ne, own_wrm_ne, mp_wrm_ne, rd_new_eq, own_new_eq, mp_newm_eq, rd_of_own o3]
    refine Both.dec (fun h6 => ?_) (fun h6 => ?_)
    · rw [if_pos h6, if_pos h6]
      simp (disch := (first | omega | (simp only [size_new, size_newm, size_wr, size_wrm] <;> omega) | fail)) only [go_sem, Nat.reduceBEq, Nat.reduceAdd, Nat.reduceMul, Nat.reduceLeDiff, ↓reduceIte, rd_new_lt, own_new_lt, mp_new_lt, rd_newm_lt, own_newm_lt, mp_newm_lt, rd_wr_ne, own_wr_ne, mp_wr_ne, rd_wrm_ne, own_wrm_ne, mp_wrm_ne, rd_new_eq, own_new_eq, mp_newm_eq]
      refine InvV.intro (fun H' => H'.own H.size = some [.slice ha w.hs.length hc, .slice ca w.cs.length cc] ∧ H'.own (H.size + 1) = some [i64 kind, i64 h, i64 x, i64 k, u64 s]) ⟨o2, o3⟩ ?_
      simp (disch := (first | omega | (simp only [size_new, size_newm, size_wr, size_wrm] <;> omega) | fail)) only [go_sem, Nat.reduceBEq, Nat.reduceAdd, Nat.reduceMul, Nat.reduceLeDiff, ↓reduceIte, rd_new_lt, own_new_lt, mp_new_lt, rd_newm_lt, own_newm_lt, mp_newm_lt, rd_wr_ne, own_wr_ne, mp_wr_ne, rd_wrm_ne, own_wrm_ne, mp_wrm_ne, rd_new_eq, own_new_eq, mp_newm_eq]
      refine StbV.intro (.agg [.slice ha w.hs.length hc, .slice ca w.cs.length cc].toArray) (fun H' hI => ?_) ?_
      · simp (disch := (first | omega | (simp only [size_new, size_newm, size_wr, size_wrm] <;> omega) | fail)) only [go_sem, Nat.reduceBEq, Nat.reduceAdd, Nat.reduceMul, Nat.reduceLeDiff, ↓reduceIte, rd_new_lt, own_new_lt, mp_new_lt, rd_newm_lt, own_newm_lt, mp_newm_lt, rd_wr_ne, own_wr_ne, mp_wr_ne, rd_wrm_ne, own_wrm_ne, mp_wrm_ne, rd_new_eq, own_new_eq, mp_newm_eq, rd_of_own hI.1]
        exact ⟨trivial, trivial⟩
      simp (disch := (first | omega | (simp only [size_new, size_newm, size_wr, size_wrm] <;> omega) | fail)) only [go_sem, Nat.reduceBEq, Nat.reduceAdd, Nat.reduceMul, Nat.reduceLeDiff, ↓reduceIte, rd_new_lt, own_new_lt, mp_new_lt, rd_newm_lt, own_newm_lt, mp_newm_lt, rd_wr_ne, own_wr_ne, mp_wr_ne, rd_wrm_ne, own_wrm_ne, mp_wrm_ne, rd_new_eq, own_new_eq, mp_newm_eq]
      refine StbV.intro (i64 h) (fun H' hI => ?_) ?_
      · simp (disch := (first | omega | (simp only [size_new, size_newm, size_wr, size_wrm] <;> omega) | fail)) only [go_sem, Nat.reduceBEq, Nat.reduceAdd, Nat.reduceMul, Nat.reduceLeDiff, ↓reduceIte, rd_new_lt, own_new_lt, mp_new_lt, rd_newm_lt, own_newm_lt, mp_newm_lt, rd_wr_ne, own_wr_ne, mp_wr_ne, rd_wrm_ne, own_wrm_ne, mp_wrm_ne, rd_new_eq, own_new_eq, mp_newm_eq, rd_of_own hI.2]
        exact ⟨trivial, trivial⟩
      simp (disch := (first | omega | (simp only [size_new, size_newm, size_wr, size_wrm] <;> omega) | fail)) only [go_sem, Nat.reduceBEq, Nat.reduceAdd, Nat.reduceMul, Nat.reduceLeDiff, ↓reduceIte, rd_new_lt, own_new_lt, mp_new_lt, rd_newm_lt, own_newm_lt, mp_newm_lt, rd_wr_ne, own_wr_ne, mp_wr_ne, rd_wrm_ne, own_wrm_ne, mp_wrm_ne, rd_new_eq, own_new_eq, mp_newm_eq]
      refine StbV.intro (.agg [.slice ha w.hs.length hc, .slice ca w.cs.length cc].toArray) (fun H' hI => ?_) ?_
      · simp (disch := (first | omega | (simp only [size_new, size_newm, size_wr, size_wrm] <;> omega) | fail)) only [go_sem, Nat.reduceBEq, Nat.reduceAdd, Nat.reduceMul, Nat.reduceLeDiff, ↓reduceIte, rd_new_lt, own_new_lt, mp_new_lt, rd_newm_lt, own_newm_lt, mp_newm_lt, rd_wr_ne, own_wr_ne, mp_wr_ne, rd_wrm_ne, own_wrm_ne, mp_wrm_ne, rd_new_eq, own_new_eq, mp_newm_eq, rd_of_own hI.1]
        exact ⟨trivial, trivial⟩
      simp (disch := (first | omega | (simp only [size_new, size_newm, size_wr, size_wrm] <;> omega) | fail)) only [go_sem, Nat.reduceBEq, Nat.reduceAdd, Nat.reduceMul, Nat.reduceLeDiff, ↓reduceIte, rd_new_lt, own_new_lt, mp_new_lt, rd_newm_lt, own_newm_lt, mp_newm_lt, rd_wr_ne, own_wr_ne, mp_wr_ne, rd_wrm_ne, own_wrm_ne, mp_wrm_ne, rd_new_eq, own_new_eq, mp_newm_eq]
      refine StbV.intro (i64 x) (fun H' hI => ?_) ?_
      · simp (disch := (first | omega | (simp only [size_new, size_newm, size_wr, size_wrm] <;> omega) | fail)) only [go_sem, Nat.reduceBEq, Nat.reduceAdd, Nat.reduceMul, Nat.reduceLeDiff, ↓reduceIte, rd_new_lt, own_new_lt, mp_new_lt, rd_newm_lt, own_newm_lt, mp_newm_lt, rd_wr_ne, own_wr_ne, mp_wr_ne, rd_wrm_ne, own_wrm_ne, mp_wrm_ne, rd_new_eq, own_new_eq, mp_newm_eq, rd_of_own hI.2]
        exact ⟨trivial, trivial⟩
      simp (disch := (first | omega | (simp only [size_new, size_newm, size_wr, size_wrm] <;> omega) | fail)) only [go_sem, Nat.reduceBEq, Nat.reduceAdd, Nat.reduceMul, Nat.reduceLeDiff, ↓reduceIte, rd_new_lt, own_new_lt, mp_new_lt, rd_newm_lt, own_newm_lt, mp_newm_lt, rd_wr_ne, own_wr_ne, mp_wr_ne, rd_wrm_ne, own_wrm_ne, mp_wrm_ne, rd_new_eq, own_new_eq, mp_newm_eq]
      refine (ref05_Len_spec n0 h).mono ?_
      rintro _ H1 ⟨rfl, f1⟩
      have q2 := f1.own o2 (fun h => h)
      have q3 := f1.own o3 (fun h => h)
      refine And.intro ⟨q2, q3⟩ ?_
      simp (disch := (first | omega | (simp only [size_new, size_newm, size_wr, size_wrm] <;> omega) | fail)) only [go_sem, Nat.reduceBEq, Nat.reduceAdd, Nat.reduceMul, Nat.reduceLeDiff, ↓reduceIte, rd_new_lt, own_new_lt, mp_new_lt, rd_newm_lt, own_newm_lt, mp_newm_lt, rd_wr_ne, own_wr_ne, mp_wr_ne, rd_wrm_ne, own_wrm_ne, mp_wrm_ne, rd_new_eq, own_new_eq, mp_newm_eq]
      refine (ref05_Len_spec (n0.fresh f1) x).mono ?_
      rintro _ H2 ⟨rfl, f2⟩
      refine And.intro ⟨f2.own q2 (fun h => h), f2.own q3 (fun h => h)⟩ ?_
      simp (disch := (first | omega | (simp only [size_new, size_newm, size_wr, size_wrm] <;> omega) | fail)) only [go_sem, Nat.reduceBEq, Nat.reduceAdd, Nat.reduceMul, Nat.reduceLeDiff, ↓reduceIte, rd_new_lt, own_new_lt, mp_new_lt, rd_newm_lt, own_newm_lt, mp_newm_lt, rd_wr_ne, own_wr_ne, mp_wr_ne, rd_wrm_ne, own_wrm_ne, mp_wrm_ne, rd_new_eq, own_new_eq, mp_newm_eq]
      exact ⟨rfl, (f0.trans f1).trans f2⟩
    · rw [if_neg h6, if_neg h6]
      simp (disch := (first | omega | (simp only [size_new, size_newm, size_wr, size_wrm] <;> omega) | fail)) only [go_sem, Nat.reduceBEq, Nat.reduceAdd, Nat.reduceMul, Nat.reduceLeDiff, ↓reduceIte, rd_new_lt, own_new_lt, mp_new_lt, rd_newm_lt, own_newm_lt, mp_newm_lt, rd_wr_ne, own_wr_ne, mp_wr_ne, rd_wrm_ne, own_wrm_ne, mp_wrm_ne, rd_new_eq, own_new_eq, mp_newm_eq, rd_of_own o2]
      refine (ref05_Len_spec n0 h).mono ?_
      rintro _ H1 ⟨rfl, f1⟩
      simp (disch := (first | omega | (simp only [size_new, size_newm, size_wr, size_wrm] <;> omega) | fail)) only [go_sem, Nat.reduceBEq, Nat.reduceAdd, Nat.reduceMul, Nat.reduceLeDiff, ↓reduceIte, rd_new_lt, own_new_lt, mp_new_lt, rd_newm_lt, own_newm_lt, mp_newm_lt, rd_wr_ne, own_wr_ne, mp_wr_ne, rd_wrm_ne, own_wrm_ne, mp_wrm_ne, rd_new_eq, own_new_eq, mp_newm_eq]
      refine ⟨?_, f0.trans f1⟩
      rw [show w.actHeap kind h x = h by unfold Nw.actHeap; rw [if_neg (fun hc => h45 hc.1)]]
      rfl

set_option maxHeartbeats 4000000 in
theorem law05_limits_spec {ov : Value} {I : Hp → (Nat → Prop) → Int → Nw → Prop} {kd dd : Int} (ho : NestS ov I (limC kd dd) true) (hkc : KindC kd dd) {Hh H : Hp} {k : Int} (hk : 0 ≤ k ∧ k ≤ 1000) {rs : List (List Value)} {av : Value} {n : Nat} (hrd : RdS Hh 5 av n rs.flatten) (hn : rs.length = n) (hmax : n ≤ 60000)
    (hrows : ∀ r ∈ rs, fitL fitK [.i .i64, .i .i64, .i .i64, .i .i64, .i .u64] r)
    (h : AtN I Hh H ⟨[false], List.replicate k.toNat (0, 0, 0)⟩) : CallH Try.prog n_law05_limits [ov, cfg kd dd, i64 k, .bool true, av] H fun v H' => Post (v = .bool true ∧ Fresh Hh H') := by
  have hrlen : ∀ r ∈ rs, r.length = 5 := fun r hr => fitL_length (hrows r hr)
  obtain ⟨a, c, rfl⟩ := RdS.val2 hrd
  refine c_law05_limits ⟨rfl, ?_⟩
  simp (disch := (first | omega | (simp only [size_new, size_newm, size_wr, size_wrm] <;> omega) | fail)) only [go_sem, Nat.reduceBEq, Nat.reduceAdd, Nat.reduceMul, Nat.reduceLeDiff, ↓reduceIte, rd_new_lt, own_new_lt, mp_new_lt, rd_newm_lt, own_newm_lt, mp_newm_lt, rd_wr_ne, own_wr_ne, mp_wr_ne, rd_wrm_ne, own_wrm_ne, mp_wrm_ne, rd_new_eq, own_new_eq, mp_newm_eq, s_law05_limits]
  have fc : Fresh H (H.new 54 [i64 kd, i64 dd]) := (Ext.refl _ _).new _ _
  have oc : (H.new 54 [i64 kd, i64 dd]).own H.size = some [i64 kd, i64 dd] := own_new _ _ _
  have zc : (H.new 54 [i64 kd, i64 dd]).size = H.size + 1 := by simp only [size_new]
  have hbc := h
  obtain ⟨Sb, stb, hIb, hfb, hsb⟩ := hbc
  have hultb := (ho.teller Sb stb _).ult H hIb
  have tc : AtN I Hh (H.new 54 [i64 kd, i64 dd]) _ := ⟨Sb, stb, (ho.teller Sb stb _).keep _ _ _ hIb fc (fun _ _ h => h), hfb.trans fc, hsb⟩
  clear h tc
  have hI1 := (ho.teller Sb stb _).keep _ _ _ hIb fc (fun _ _ h => h)
  have hf1 := hfb.trans fc
  have hcb : ¬ Sb H.size := fun h => by have := hultb _ h; omega
  have hult1 : ∀ z, Sb z → z < H.size := hultb
  have zfb := hfb.size
  generalize H.new 54 [i64 kd, i64 dd] = Hc at *
  generalize hcbk : H.size = cb at *
  clear hIb fc
  refine (ref05_New_spec k Hc ⟨hk.1, by omega⟩).mono ?_
  rintro wv H1 ⟨n1, f1⟩
  have hw0 : (⟨[false], List.replicate k.toNat (0, 0, 0)⟩ : Nw).cs.length = k := by simp; omega
  generalize (⟨[false], List.replicate k.toNat (0, 0, 0)⟩ : Nw) = w0 at *
  obtain ⟨ha, hc, ca, cc, rfl, g1, g2, g3, g4, a1, a2⟩ := id n1
  simp (disch := (first | omega | (simp only [size_new, size_newm, size_wr, size_wrm] <;> omega) | fail)) only [go_sem, Nat.reduceBEq, Nat.reduceAdd, Nat.reduceMul, Nat.reduceLeDiff, ↓reduceIte, rd_new_lt, own_new_lt, mp_new_lt, rd_newm_lt, own_newm_lt, mp_newm_lt, rd_wr_ne, own_wr_ne, mp_wr_ne, rd_wrm_ne, own_wrm_ne, mp_wrm_ne, rd_new_eq, own_new_eq, mp_newm_eq]
  have f2 : Fresh H1 ((H1.new 108 [.slice none 0 0, .slice none 0 0]).wr H1.size [.slice ha w0.hs.length hc, .slice ca w0.cs.length cc]) := ((Ext.refl _ _).new _ _).wr (fun h => absurd h (Nat.lt_irrefl _)) _
  have o2 : ((H1.new 108 [.slice none 0 0, .slice none 0 0]).wr H1.size [.slice ha w0.hs.length hc, .slice ca w0.cs.length cc]).own H1.size = some [.slice ha w0.hs.length hc, .slice ca w0.cs.length cc] := own_wr_same (own_new _ _ _)
  have oc2 := (f1.trans f2).own oc (fun h => h)
  have z1 := f1.size
  have z2 := f2.size
  have r2 : RunS I Hh ((H1.new 108 [.slice none 0 0, .slice none 0 0]).wr H1.size [.slice ha w0.hs.length hc, .slice ca w0.cs.length cc]) H1.size Sb (Grow (fun _ => False) Hc H1) stb (.slice ha w0.hs.length hc) (.slice ca w0.cs.length cc) w0 w0 := by
    refine ⟨(ho.teller Sb stb w0).keep _ _ _ hI1 (f1.trans f2) (fun _ _ h => h), o2, n1.fresh f2, (hf1.trans f1).trans f2, fun z hz => ⟨hsb z hz, by have := hult1 z hz; omega⟩, fun b hb => ?_, by omega⟩
    rcases hb with hb | hb
    · exact hb.elim
    · exact ⟨by omega, fun h => by have := hult1 b h; omega, by omega⟩
  have hcn : cb ≠ H1.size := by omega
  generalize (H1.new 108 [.slice none 0 0, .slice none 0 0]).wr H1.size [.slice ha w0.hs.length hc, .slice ca w0.cs.length cc] = H2 at *
  generalize H1.size = nb at *
  clear n1 o2
  refine LoopV.intro (fun m env H' => ∃ (i : Nat) (S A : Nat → Prop) (st : Int) (x0 x1 : Value) (w : Nw), env = [(0, ov), (3, .bool true), (6, ptr cb), (11, ptr nb), (22, .slice a n c), (23, i64 n), (24, i64 i)] ∧ m = n - i ∧ i ≤ n ∧ RunS I Hh H' nb S A st x0 x1 w w ∧ w.cs.length = k ∧ H'.own cb = some [i64 kd, i64 dd] ∧ ¬ S cb) n
    ⟨0, Sb, _, stb, _, _, w0, rfl, by omega, by omega, r2, hw0, oc2, hcb⟩ ?_
  clear r2 hult1 hultb hsb hI1 hcb oc2
  rintro m env H3 ⟨i, S, A, st, x0, x1, w, rfl, rfl, hi, r3, hcl, oc3, hcS⟩
  simp (disch := (first | omega | (simp only [size_new, size_newm, size_wr, size_wrm] <;> omega) | fail)) only [go_sem, Nat.reduceBEq, Nat.reduceAdd, Nat.reduceMul, Nat.reduceLeDiff, ↓reduceIte, rd_new_lt, own_new_lt, mp_new_lt, rd_newm_lt, own_newm_lt, mp_newm_lt, rd_wr_ne, own_wr_ne, mp_wr_ne, rd_wrm_ne, own_wrm_ne, mp_wrm_ne, rd_new_eq, own_new_eq, mp_newm_eq]
  refine Both.dec (fun hin => ?_) (fun hin => ?_) <;> simp (disch := (first | omega | (simp only [size_new, size_newm, size_wr, size_wrm] <;> omega) | fail)) only [go_sem, Nat.reduceBEq, Nat.reduceAdd, Nat.reduceMul, Nat.reduceLeDiff, ↓reduceIte, rd_new_lt, own_new_lt, mp_new_lt, rd_newm_lt, own_newm_lt, mp_newm_lt, rd_wr_ne, own_wr_ne, mp_wr_ne, rd_wrm_ne, own_wrm_ne, mp_wrm_ne, rd_new_eq, own_new_eq, mp_newm_eq]
  · obtain ⟨row, hrow⟩ : ∃ row, rs[i]? = some row := ⟨_, List.getElem?_eq_getElem (by omega)⟩
    obtain ⟨_, _, rfl, ⟨kind, rfl, hk1⟩, _, _, rfl, ⟨h, rfl, hh1⟩, _, _, rfl, ⟨x, rfl, hx1⟩, _, _, rfl, ⟨key, rfl, hkey1⟩, _, _, rfl, ⟨sq, rfl, hsq1⟩, rfl⟩ := hrows row (List.mem_of_getElem? hrow)
    obtain ⟨ab, ao, al, rfl, ar1, ar2, ar3, ar4⟩ := RdS.row (hrd.fresh r3.fr) (by omega) hrlen hrow
    refine ⟨by omega, ?_⟩
    simp (disch := (first | omega | (simp only [size_new, size_newm, size_wr, size_wrm] <;> omega) | fail)) only [go_sem, Nat.reduceBEq, Nat.reduceAdd, Nat.reduceMul, Nat.reduceLeDiff, ↓reduceIte, rd_new_lt, own_new_lt, mp_new_lt, rd_newm_lt, own_newm_lt, mp_newm_lt, rd_wr_ne, own_wr_ne, mp_wr_ne, rd_wrm_ne, own_wrm_ne, mp_wrm_ne, rd_new_eq, own_new_eq, mp_newm_eq, ar1, Int.toNat_natCast]
    refine ⟨by omega, ?_⟩
    simp (disch := (first | omega | (simp only [size_new, size_newm, size_wr, size_wrm] <;> omega) | fail)) only [go_sem, Nat.reduceBEq, Nat.reduceAdd, Nat.reduceMul, Nat.reduceLeDiff, ↓reduceIte, rd_new_lt, own_new_lt, mp_new_lt, rd_newm_lt, own_newm_lt, mp_newm_lt, rd_wr_ne, own_wr_ne, mp_wr_ne, rd_wrm_ne, own_wrm_ne, mp_wrm_ne, rd_new_eq, own_new_eq, mp_newm_eq, ar4]
    have e4 : Fresh H3 ((H3.new 72 [.int .i64 0, .int .i64 0, .int .i64 0, .int .i64 0, .int .u64 0]).wr H3.size [i64 kind, i64 h, i64 x, i64 key, u64 sq]) := ((Ext.refl _ _).new _ _).wr (fun h => absurd h (Nat.lt_irrefl _)) _
    have bx : ((H3.new 72 [.int .i64 0, .int .i64 0, .int .i64 0, .int .i64 0, .int .u64 0]).wr H3.size [i64 kind, i64 h, i64 x, i64 key, u64 sq]).own H3.size = some [i64 kind, i64 h, i64 x, i64 key, u64 sq] := own_wr_same (own_new _ _ _)
    have hS3 := r3.ult ho
    have hnb3 := own_lt r3.own
    have hcb3 := own_lt oc3
    have r4 := r3.fresh ho e4
    have oc4 := e4.own oc3 (fun h => h)
    generalize (H3.new 72 [.int .i64 0, .int .i64 0, .int .i64 0, .int .i64 0, .int .u64 0]).wr H3.size [i64 kind, i64 h, i64 x, i64 key, u64 sq] = H4 at *
    have hab3 : ¬ S H3.size := fun h => by have := hS3 _ h; omega
    have hne : H3.size ≠ nb := by omega
    generalize H3.size = ab1 at *
    simp (disch := (first | omega | (simp only [size_new, size_newm, size_wr, size_wrm] <;> omega) | fail)) only [go_sem, Nat.reduceBEq, Nat.reduceAdd, Nat.reduceMul, Nat.reduceLeDiff, ↓reduceIte, rd_new_lt, own_new_lt, mp_new_lt, rd_newm_lt, own_newm_lt, mp_newm_lt, rd_wr_ne, own_wr_ne, mp_wr_ne, rd_wrm_ne, own_wrm_ne, mp_wrm_ne, rd_new_eq, own_new_eq, mp_newm_eq, rd_of_own r4.own, rd_of_own bx]
    refine (law05_size_spec r4.ref kind h x key sq).mono ?_
    rintro _ H5 ⟨rfl, f5⟩
    have r5 := r4.fresh ho f5
    have b5 := f5.own bx (fun h => h)
    have oc5 := f5.own oc4 (fun h => h)
    simp (disch := (first | omega | (simp only [size_new, size_newm, size_wr, size_wrm] <;> omega) | fail)) only [go_sem, Nat.reduceBEq, Nat.reduceAdd, Nat.reduceMul, Nat.reduceLeDiff, ↓reduceIte, rd_new_lt, own_new_lt, mp_new_lt, rd_newm_lt, own_newm_lt, mp_newm_lt, rd_wr_ne, own_wr_ne, mp_wr_ne, rd_wrm_ne, own_wrm_ne, mp_wrm_ne, rd_new_eq, own_new_eq, mp_newm_eq, rd_of_own oc5]
    have l1 := w.len_le h
    have l2 := w.len_le x
    have l3 := w.len_le (w.actHeap kind h x)
    have hsum : IntKind.i64.wrap (IntKind.i64.wrap ((if kind = 6 then w.len h else w.len (w.actHeap kind h x)) + if kind = 6 then w.len x else 0) + 1) = if kind = 6 then w.len h + w.len x + 1 else w.len (w.actHeap kind h x) + 1 := by
      split
      · rw [wrap64 (n := w.len h + w.len x) (by omega) (by omega), wrap64 (by omega) (by omega)]
      · rw [wrap64 (n := w.len (w.actHeap kind h x) + 0) (by omega) (by omega), wrap64 (by omega) (by omega)]
        omega
    rw [hsum]
    refine (ref02_Limit_spec hkc (m := if kind = 6 then w.len h + w.len x + 1 else w.len (w.actHeap kind h x) + 1) (by split <;> omega) H5).mono ?_
    rintro _ H6 ⟨rfl, f6⟩
    have r6 := r5.fresh ho f6
    have b6 := f6.own b5 (fun h => h)
    have oc6 := f6.own oc5 (fun h => h)
    simp (disch := (first | omega | (simp only [size_new, size_newm, size_wr, size_wrm] <;> omega) | fail)) only [go_sem, Nat.reduceBEq, Nat.reduceAdd, Nat.reduceMul, Nat.reduceLeDiff, ↓reduceIte, rd_new_lt, own_new_lt, mp_new_lt, rd_newm_lt, own_newm_lt, mp_newm_lt, rd_wr_ne, own_wr_ne, mp_wr_ne, rd_wrm_ne, own_wrm_ne, mp_wrm_ne, rd_new_eq, own_new_eq, mp_newm_eq]
    refine vc_cut (fun e H' => H' = H6 ∧ e.find 0 = some ov ∧ e.find 3 = some (.bool true) ∧ e.find 6 = some (ptr cb) ∧ e.find 11 = some (ptr nb) ∧ e.find 13 = some (ptr ab1) ∧ e.find 16 = some (i64 (doCost (limC kd dd) true w kind h x)) ∧ e.find 22 = some (.slice (some ⟨ab, ao, none⟩) n c) ∧ e.find 23 = some (i64 n) ∧ e.find 24 = some (i64 i)) ?_ ?_
    · simp (disch := (first | omega | (simp only [size_new, size_newm, size_wr, size_wrm] <;> omega) | fail)) only [go_sem, Nat.reduceBEq, Nat.reduceAdd, Nat.reduceMul, Nat.reduceLeDiff, ↓reduceIte, rd_new_lt, own_new_lt, mp_new_lt, rd_newm_lt, own_newm_lt, mp_newm_lt, rd_wr_ne, own_wr_ne, mp_wr_ne, rd_wrm_ne, own_wrm_ne, mp_wrm_ne, rd_new_eq, own_new_eq, mp_newm_eq, rd_of_own b6]
      refine Both.dec (fun h6 => ?_) (fun h6 => ?_)
      · have hl1 := limC_le hkc (m := w.len h + w.len x + 1) (by omega)
        have hl0 := limC_nonneg hkc (w.len h + w.len x + 1)
        have hd : doCost (limC kd dd) true w kind h x = limC kd dd (w.len h + w.len x + 1) * (min (w.len h) (w.len x) + 1) := by
          unfold doCost; rw [if_pos h6]; rfl
        have hp : limC kd dd (w.len h + w.len x + 1) * (min (w.len h) (w.len x) + 1) ≤ 32048 * 1001 :=
          Int.le_trans (Int.mul_le_mul_of_nonneg_right hl1 (by omega)) (Int.mul_le_mul_of_nonneg_left (by omega) (by omega))
        have hp0 : 0 ≤ limC kd dd (w.len h + w.len x + 1) * (min (w.len h) (w.len x) + 1) := Int.mul_nonneg hl0 (by omega)
        simp (disch := (first | omega | (simp only [size_new, size_newm, size_wr, size_wrm] <;> omega) | fail)) only [go_sem, Nat.reduceBEq, Nat.reduceAdd, Nat.reduceMul, Nat.reduceLeDiff, ↓reduceIte, rd_new_lt, own_new_lt, mp_new_lt, rd_newm_lt, own_newm_lt, mp_newm_lt, rd_wr_ne, own_wr_ne, mp_wr_ne, rd_wrm_ne, own_wrm_ne, mp_wrm_ne, rd_new_eq, own_new_eq, mp_newm_eq]
        rw [hd]
        simp only [if_pos h6]
        rw [show (if w.len x < w.len h then w.len x else w.len h) = min (w.len h) (w.len x) by split <;> omega, wrap64 (n := min (w.len h) (w.len x) + 1) (by omega) (by omega), wrap64 (by omega) (by omega)]
        exact ⟨trivial, trivial, trivial, trivial, trivial, trivial, rfl, trivial, trivial, trivial⟩
      · have hd : doCost (limC kd dd) true w kind h x = limC kd dd (w.len (w.actHeap kind h x) + 1) := by
          unfold doCost; rw [if_neg h6]
        simp (disch := (first | omega | (simp only [size_new, size_newm, size_wr, size_wrm] <;> omega) | fail)) only [go_sem, Nat.reduceBEq, Nat.reduceAdd, Nat.reduceMul, Nat.reduceLeDiff, ↓reduceIte, rd_new_lt, own_new_lt, mp_new_lt, rd_newm_lt, own_newm_lt, mp_newm_lt, rd_wr_ne, own_wr_ne, mp_wr_ne, rd_wrm_ne, own_wrm_ne, mp_wrm_ne, rd_new_eq, own_new_eq, mp_newm_eq]
        rw [hd, if_neg h6]
        exact ⟨trivial, trivial, trivial, trivial, trivial, trivial, rfl, trivial, trivial, trivial⟩
    rintro e H6' ⟨hH, e0, e3, e6, e11, e13, e16, e22, e23, e24⟩
    obtain rfl := hH.symm
    have hst := (ho.cells r6.nest)
    obtain ⟨_, _, hst⟩ := hst
    have hst := hst.st
    simp (disch := (first | omega | (simp only [size_new, size_newm, size_wr, size_wrm] <;> omega) | fail)) only [go_sem, Nat.reduceBEq, Nat.reduceAdd, Nat.reduceMul, Nat.reduceLeDiff, ↓reduceIte, rd_new_lt, own_new_lt, mp_new_lt, rd_newm_lt, own_newm_lt, mp_newm_lt, rd_wr_ne, own_wr_ne, mp_wr_ne, rd_wrm_ne, own_wrm_ne, mp_wrm_ne, rd_new_eq, own_new_eq, mp_newm_eq, e0, e3, e6, e11, e13, e16, e22, e23, e24]
    refine InvH.mono (ho.steps r6.nest) ?_
    rintro _ _ ⟨rfl, rfl⟩
    simp (disch := (first | omega | (simp only [size_new, size_newm, size_wr, size_wrm] <;> omega) | fail)) only [go_sem, Nat.reduceBEq, Nat.reduceAdd, Nat.reduceMul, Nat.reduceLeDiff, ↓reduceIte, rd_new_lt, own_new_lt, mp_new_lt, rd_newm_lt, own_newm_lt, mp_newm_lt, rd_wr_ne, own_wr_ne, mp_wr_ne, rd_wrm_ne, own_wrm_ne, mp_wrm_ne, rd_new_eq, own_new_eq, mp_newm_eq, e0, e3, e6, e11, e13, e16, e22, e23, e24, rd_of_own r6.own, rd_of_own b6]
    refine (law05_Do_spec ho r6.nest r6.ref (fun b hb => ⟨(r6.ab b hb).1, (r6.ab b hb).2.1⟩) kind h x key sq).mono ?_
    rintro v H7 hd
    obtain ⟨ya, yb, yc, yd, w7, S7, A7, q, rfl, hq, hq0, o7, hcl7, hne7, hkeep, o8, o8', r8, hS7⟩ := r6.done ho (T := 108) hd
    have b8 := hkeep _ _ b6 hab3 hne
    have oc8 := hkeep _ _ oc6 hcS hcn
    have hcS8 : ¬ S7 cb := fun h => by
      rcases hS7 cb h with h | h
      · exact hcS h
      · have := own_lt oc6; omega
    simp (disch := (first | omega | (simp only [size_new, size_newm, size_wr, size_wrm] <;> omega) | fail)) only [go_sem, Nat.reduceBEq, Nat.reduceAdd, Nat.reduceMul, Nat.reduceLeDiff, ↓reduceIte, rd_new_lt, own_new_lt, mp_new_lt, rd_newm_lt, own_newm_lt, mp_newm_lt, rd_wr_ne, own_wr_ne, mp_wr_ne, rd_wrm_ne, own_wrm_ne, mp_wrm_ne, rd_new_eq, own_new_eq, mp_newm_eq, e0, e3, e6, e11, e13, e16, e22, e23, e24, rd_of_own o8, o8', own_wr_same o8']
    generalize ((H7.new 108 [.slice none 0 0, .slice none 0 0]).wr H7.size [.slice ya w7.hs.length yb, .slice yc w7.cs.length yd]).wr nb [.slice ya w7.hs.length yb, .slice yc w7.cs.length yd] = H8 at *
    refine InvH.mono (ho.steps r8.nest) ?_
    rintro _ _ ⟨rfl, rfl⟩
    simp (disch := (first | omega | (simp only [size_new, size_newm, size_wr, size_wrm] <;> omega) | fail)) only [go_sem, Nat.reduceBEq, Nat.reduceAdd, Nat.reduceMul, Nat.reduceLeDiff, ↓reduceIte, rd_new_lt, own_new_lt, mp_new_lt, rd_newm_lt, own_newm_lt, mp_newm_lt, rd_wr_ne, own_wr_ne, mp_wr_ne, rd_wrm_ne, own_wrm_ne, mp_wrm_ne, rd_new_eq, own_new_eq, mp_newm_eq, e0, e3, e6, e11, e13, e16, e22, e23, e24]
    refine Both.of_false (decide_eq_false (by omega)) ?_
    simp (disch := (first | omega | (simp only [size_new, size_newm, size_wr, size_wrm] <;> omega) | fail)) only [go_sem, Nat.reduceBEq, Nat.reduceAdd, Nat.reduceMul, Nat.reduceLeDiff, ↓reduceIte, rd_new_lt, own_new_lt, mp_new_lt, rd_newm_lt, own_newm_lt, mp_newm_lt, rd_wr_ne, own_wr_ne, mp_wr_ne, rd_wrm_ne, own_wrm_ne, mp_wrm_ne, rd_new_eq, own_new_eq, mp_newm_eq, e0, e3, e6, e11, e13, e16, e22, e23, e24]
    refine InvH.mono (ho.steps r8.nest) ?_
    rintro _ _ ⟨rfl, rfl⟩
    simp (disch := (first | omega | (simp only [size_new, size_newm, size_wr, size_wrm] <;> omega) | fail)) only [go_sem, Nat.reduceBEq, Nat.reduceAdd, Nat.reduceMul, Nat.reduceLeDiff, ↓reduceIte, rd_new_lt, own_new_lt, mp_new_lt, rd_newm_lt, own_newm_lt, mp_newm_lt, rd_wr_ne, own_wr_ne, mp_wr_ne, rd_wrm_ne, own_wrm_ne, mp_wrm_ne, rd_new_eq, own_new_eq, mp_newm_eq, e0, e3, e6, e11, e13, e16, e22, e23, e24]
    rw [wrap64 (n := min (st + q) 4611686018427387904 - st) (by omega) (by omega)]
    refine Both.of_false (decide_eq_false (by omega)) ?_
    simp (disch := (first | omega | (simp only [size_new, size_newm, size_wr, size_wrm] <;> omega) | fail)) only [go_sem, Nat.reduceBEq, Nat.reduceAdd, Nat.reduceMul, Nat.reduceLeDiff, ↓reduceIte, rd_new_lt, own_new_lt, mp_new_lt, rd_newm_lt, own_newm_lt, mp_newm_lt, rd_wr_ne, own_wr_ne, mp_wr_ne, rd_wrm_ne, own_wrm_ne, mp_wrm_ne, rd_new_eq, own_new_eq, mp_newm_eq, e0, e3, e6, e11, e13, e16, e22, e23, e24]
    rw [wrap64 (n := (i : Int) + 1) (by omega) (by omega)]
    exact ⟨n - (i + 1), by omega, i + 1, S7, A7, _, _, _, w7, rfl, rfl, by omega, r8, by rw [hcl7]; exact hcl, oc8, hcS8⟩
  · refine InvV.intro (fun H' => H'.own cb = some [i64 kd, i64 dd]) oc3 ?_
    simp (disch := (first | omega | (simp only [size_new, size_newm, size_wr, size_wrm] <;> omega) | fail)) only [go_sem, Nat.reduceBEq, Nat.reduceAdd, Nat.reduceMul, Nat.reduceLeDiff, ↓reduceIte, rd_new_lt, own_new_lt, mp_new_lt, rd_newm_lt, own_newm_lt, mp_newm_lt, rd_wr_ne, own_wr_ne, mp_wr_ne, rd_wrm_ne, own_wrm_ne, mp_wrm_ne, rd_new_eq, own_new_eq, mp_newm_eq]
    refine StbV.intro (cfg kd dd) (fun H' hI => ?_) ?_
    · simp (disch := (first | omega | (simp only [size_new, size_newm, size_wr, size_wrm] <;> omega) | fail)) only [go_sem, Nat.reduceBEq, Nat.reduceAdd, Nat.reduceMul, Nat.reduceLeDiff, ↓reduceIte, rd_new_lt, own_new_lt, mp_new_lt, rd_newm_lt, own_newm_lt, mp_newm_lt, rd_wr_ne, own_wr_ne, mp_wr_ne, rd_wrm_ne, own_wrm_ne, mp_wrm_ne, rd_new_eq, own_new_eq, mp_newm_eq, rd_of_own hI]
      exact ⟨trivial, trivial⟩
    simp (disch := (first | omega | (simp only [size_new, size_newm, size_wr, size_wrm] <;> omega) | fail)) only [go_sem, Nat.reduceBEq, Nat.reduceAdd, Nat.reduceMul, Nat.reduceLeDiff, ↓reduceIte, rd_new_lt, own_new_lt, mp_new_lt, rd_newm_lt, own_newm_lt, mp_newm_lt, rd_wr_ne, own_wr_ne, mp_wr_ne, rd_wrm_ne, own_wrm_ne, mp_wrm_ne, rd_new_eq, own_new_eq, mp_newm_eq]
    refine StbV.intro (cfg kd dd) (fun H' hI => ?_) ?_
    · simp (disch := (first | omega | (simp only [size_new, size_newm, size_wr, size_wrm] <;> omega) | fail)) only [go_sem, Nat.reduceBEq, Nat.reduceAdd, Nat.reduceMul, Nat.reduceLeDiff, ↓reduceIte, rd_new_lt, own_new_lt, mp_new_lt, rd_newm_lt, own_newm_lt, mp_newm_lt, rd_wr_ne, own_wr_ne, mp_wr_ne, rd_wrm_ne, own_wrm_ne, mp_wrm_ne, rd_new_eq, own_new_eq, mp_newm_eq, rd_of_own hI]
      exact ⟨trivial, trivial⟩
    simp (disch := (first | omega | (simp only [size_new, size_newm, size_wr, size_wrm] <;> omega) | fail)) only [go_sem, Nat.reduceBEq, Nat.reduceAdd, Nat.reduceMul, Nat.reduceLeDiff, ↓reduceIte, rd_new_lt, own_new_lt, mp_new_lt, rd_newm_lt, own_newm_lt, mp_newm_lt, rd_wr_ne, own_wr_ne, mp_wr_ne, rd_wrm_ne, own_wrm_ne, mp_wrm_ne, rd_new_eq, own_new_eq, mp_newm_eq]
    refine (gauge_Limit_9 hkc H3).mono ?_
    rintro _ H4 ⟨rfl, f4⟩
    have oc4 := f4.own oc3 (fun h => h)
    refine And.intro oc4 ?_
    simp (disch := (first | omega | (simp only [size_new, size_newm, size_wr, size_wrm] <;> omega) | fail)) only [go_sem, Nat.reduceBEq, Nat.reduceAdd, Nat.reduceMul, Nat.reduceLeDiff, ↓reduceIte, rd_new_lt, own_new_lt, mp_new_lt, rd_newm_lt, own_newm_lt, mp_newm_lt, rd_wr_ne, own_wr_ne, mp_wr_ne, rd_wrm_ne, own_wrm_ne, mp_wrm_ne, rd_new_eq, own_new_eq, mp_newm_eq]
    refine (ref02_Limit_spec hkc (m := 9) (by omega) H4).mono ?_
    rintro _ H5 ⟨rfl, f5⟩
    refine And.intro (f5.own oc4 (fun h => h)) ?_
    simp (disch := (first | omega | (simp only [size_new, size_newm, size_wr, size_wrm] <;> omega) | fail)) only [go_sem, Nat.reduceBEq, Nat.reduceAdd, Nat.reduceMul, Nat.reduceLeDiff, ↓reduceIte, rd_new_lt, own_new_lt, mp_new_lt, rd_newm_lt, own_newm_lt, mp_newm_lt, rd_wr_ne, own_wr_ne, mp_wr_ne, rd_wrm_ne, own_wrm_ne, mp_wrm_ne, rd_new_eq, own_new_eq, mp_newm_eq]
    exact ⟨congrArg Value.bool (decide_eq_true trivial), (r3.fr.trans f4).trans f5⟩

theorem law05_Limits_spec {ov : Value} {I : Hp → (Nat → Prop) → Int → Nw → Prop} {kd dd : Int} (ho : NestS ov I (limC kd dd) true) (hkc : KindC kd dd) {Hh H : Hp} {k : Int} (hk : 0 ≤ k ∧ k ≤ 1000) {rs : List (List Value)} {av : Value} {n : Nat} (hrd : RdS Hh 5 av n rs.flatten) (hn : rs.length = n) (hmax : n ≤ 60000)
    (hrows : ∀ r ∈ rs, fitL fitK [.i .i64, .i .i64, .i .i64, .i .i64, .i .u64] r)
    (h : AtN I Hh H ⟨[false], List.replicate k.toNat (0, 0, 0)⟩) : CallH Try.prog n_law05_Limits [ov, cfg kd dd, i64 k, .bool true, av] H fun v H' => Post (v = i64 1 ∧ Fresh Hh H') := by
  refine c_law05_Limits ⟨rfl, ?_⟩
  simp (disch := (first | omega | (simp only [size_new, size_newm, size_wr, size_wrm] <;> omega) | fail)) only [go_sem, Nat.reduceBEq, Nat.reduceAdd, Nat.reduceMul, Nat.reduceLeDiff, ↓reduceIte, rd_new_lt, own_new_lt, mp_new_lt, rd_newm_lt, own_newm_lt, mp_newm_lt, rd_wr_ne, own_wr_ne, mp_wr_ne, rd_wrm_ne, own_wrm_ne, mp_wrm_ne, rd_new_eq, own_new_eq, mp_newm_eq, s_law05_Limits]
  have f0 : Fresh H (H.new 54 [i64 kd, i64 dd]) := (Ext.refl _ _).new _ _
  have t0 := ho.keepA h f0
  generalize H.new 54 [i64 kd, i64 dd] = H0 at *
  refine (law05_limits_spec ho hkc hk hrd hn hmax hrows t0).mono ?_
  rintro _ H1 ⟨rfl, f1⟩
  simp (disch := (first | omega | (simp only [size_new, size_newm, size_wr, size_wrm] <;> omega) | fail)) only [go_sem, Nat.reduceBEq, Nat.reduceAdd, Nat.reduceMul, Nat.reduceLeDiff, ↓reduceIte, rd_new_lt, own_new_lt, mp_new_lt, rd_newm_lt, own_newm_lt, mp_newm_lt, rd_wr_ne, own_wr_ne, mp_wr_ne, rd_wrm_ne, own_wrm_ne, mp_wrm_ne, rd_new_eq, own_new_eq, mp_newm_eq]
  refine (law05_one_spec true H1).mono ?_
  rintro _ _ ⟨rfl, rfl⟩
  simp (disch := (first | omega | (simp only [size_new, size_newm, size_wr, size_wrm] <;> omega) | fail)) only [go_sem, Nat.reduceBEq, Nat.reduceAdd, Nat.reduceMul, Nat.reduceLeDiff, ↓reduceIte, rd_new_lt, own_new_lt, mp_new_lt, rd_newm_lt, own_newm_lt, mp_newm_lt, rd_wr_ne, own_wr_ne, mp_wr_ne, rd_wrm_ne, own_wrm_ne, mp_wrm_ne, rd_new_eq, own_new_eq, mp_newm_eq]
  exact ⟨rfl, f1⟩

end Go.Proofs.Yteicchpglnamcaa
