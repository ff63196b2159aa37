/-
  Sums of 128 bits: the document's.
-/
import Derived.Test.YtbnaicgmnadkgaaSumsP
set_option linter.unusedVariables false
set_option linter.unusedSimpArgs false
namespace Go.Proofs.Ytbnaicgmnadkgaa
open Go Go.Vc

theorem tmodN (x : Nat) : Int.tmod (x : Int) 4294967296 = ((x % 4294967296 : Nat) : Int) := rfl
theorem tdivN (x : Nat) : Int.tdiv (x : Int) 4294967296 = ((x / 4294967296 : Nat) : Int) := rfl
theorem wrapUN {a b : Nat} (h : a + b < 18446744073709551616) : IntKind.u64.wrap ((a : Int) + (b : Int)) = ((a + b : Nat) : Int) := by rw [wrapU64 (by omega) (by omega)]; rfl
theorem wrap_wrapU (x : Int) : IntKind.i64.wrap (IntKind.u64.wrap x) = IntKind.i64.wrap x := by
  have e : (2 ^ IntKind.i64.bits : Int) = 18446744073709551616 := rfl
  have e2 : (2 ^ IntKind.u64.bits : Int) = 18446744073709551616 := rfl
  have e' : (2 ^ (IntKind.i64.bits - 1) : Int) = 9223372036854775808 := rfl
  unfold IntKind.wrap
  simp only [e, e', e2, IntKind.signed, Bool.true_and, Bool.false_and, decide_eq_true_eq]
  rw [if_neg (by simp : ¬ (false = true))]
  split <;> split <;> omega
theorem wrapU_add (a b : Int) : IntKind.u64.wrap (IntKind.u64.wrap a + b) = IntKind.u64.wrap (a + b) := by
  have e2 : (2 ^ IntKind.u64.bits : Int) = 18446744073709551616 := rfl
  unfold IntKind.wrap
  simp only [e2, IntKind.signed, Bool.false_and]
  rw [if_neg (by simp : ¬ (false = true)), if_neg (by simp : ¬ (false = true)), if_neg (by simp : ¬ (false = true))]
  omega
theorem wrap_cong {a b : Int} (h : a % 18446744073709551616 = b % 18446744073709551616) : IntKind.i64.wrap a = IntKind.i64.wrap b := by
  have e : (2 ^ IntKind.i64.bits : Int) = 18446744073709551616 := rfl
  unfold IntKind.wrap
  simp only [e, h]

set_option maxHeartbeats 1000000 in
theorem ref21_add_spec (H : Hp) (s : Int × Nat) (n : Int) (h0 : -9223372036854775808 ≤ n) (h1 : n ≤ 9223372036854775807) (hs0 : -9223372036854775808 ≤ s.1) (hs1 : s.1 ≤ 9223372036854775807) (hs2 : s.2 < 18446744073709551616) :
    CallH Try.prog n_ref21_add [sumV s, i64 n] H fun v H' => Post (v = sumV (addS s n) ∧ Fresh H H') := by
  refine c_ref21_add ⟨rfl, ?_⟩
  simp (disch := (first | omega | (simp only [size_new, size_newm, size_wr, size_wrm] <;> omega) | fail)) only [go_sem, Nat.reduceBEq, Nat.reduceAdd, Nat.reduceMul, Nat.reduceLeDiff, ↓reduceIte, rd_new_lt, own_new_lt, mp_new_lt, rd_newm_lt, own_newm_lt, mp_newm_lt, rd_wr_ne, own_wr_ne, mp_wr_ne, rd_wrm_ne, own_wrm_ne, mp_wrm_ne, rd_new_eq, own_new_eq, mp_newm_eq, s_ref21_add, sumV]
  have f0 : Fresh H ((H.new 78 [i64 s.1, u64 s.2]).new 78 [i64 0, u64 0]) := ((Ext.refl _ _).new _ _).new _ _
  have b0 : ((H.new 78 [i64 s.1, u64 s.2]).new 78 [i64 0, u64 0]).own H.size = some [i64 s.1, u64 s.2] := Ext.own (((Ext.refl (fun _ => False) _).new _ _) : Fresh (H.new 78 [i64 s.1, u64 s.2]) _) (own_new _ _ _) (fun h => h)
  have d0 : ((H.new 78 [i64 s.1, u64 s.2]).new 78 [i64 0, u64 0]).own (H.size + 1) = some [i64 0, u64 0] := own_new_eq (by simp only [size_new])
  generalize (H.new 78 [i64 s.1, u64 s.2]).new 78 [i64 0, u64 0] = H0 at *
  have hl := lowN_lt n
  have z : ¬ ((4294967296 : Int) = 0) := by omega
  have wn := wrap_low n
  obtain ⟨lo, hlo⟩ : ∃ lo : Nat, s.2 % 4294967296 + lowN n % 4294967296 = lo := ⟨_, rfl⟩
  obtain ⟨h3, hh3⟩ : ∃ h3 : Nat, s.2 / 4294967296 + lowN n / 4294967296 = h3 := ⟨_, rfl⟩
  obtain ⟨hi, hhi⟩ : ∃ hi : Nat, h3 + lo / 4294967296 = hi := ⟨_, rfl⟩
  have w1 : IntKind.u64.wrap (((s.2 % 4294967296 : Nat) : Int) + ((lowN n % 4294967296 : Nat) : Int)) = (lo : Int) := by rw [wrapUN (by omega), hlo]
  have w3 : IntKind.u64.wrap (((s.2 / 4294967296 : Nat) : Int) + ((lowN n / 4294967296 : Nat) : Int)) = (h3 : Int) := by rw [wrapUN (by omega), hh3]
  have w5 : IntKind.u64.wrap ((h3 : Int) + ((lo / 4294967296 : Nat) : Int)) = (hi : Int) := by rw [wrapUN (by omega), hhi]
  have hca : (s.2 + lowN n) / 18446744073709551616 = hi / 4294967296 := by omega
  have hmo : (s.2 + lowN n) % 18446744073709551616 = hi % 4294967296 * 4294967296 + lo % 4294967296 := by omega
  have w6 : IntKind.u64.wrap (((hi % 4294967296 : Nat) : Int) * 4294967296) = ((hi % 4294967296 * 4294967296 : Nat) : Int) := by rw [wrapU64 (by omega) (by omega)]; rfl
  have w7 : IntKind.u64.wrap (((hi % 4294967296 * 4294967296 : Nat) : Int) + ((lo % 4294967296 : Nat) : Int)) = ((hi % 4294967296 * 4294967296 + lo % 4294967296 : Nat) : Int) := wrapUN (by omega)
  have q1 : IntKind.u64.wrap ((s.2 / 4294967296 : Nat) : Int) = ((s.2 / 4294967296 : Nat) : Int) := wrapU64 (by omega) (by omega)
  have q2 : IntKind.u64.wrap ((lowN n / 4294967296 : Nat) : Int) = ((lowN n / 4294967296 : Nat) : Int) := wrapU64 (by omega) (by omega)
  have q3 : IntKind.u64.wrap ((lo / 4294967296 : Nat) : Int) = ((lo / 4294967296 : Nat) : Int) := wrapU64 (by omega) (by omega)
  have q4 : IntKind.u64.wrap ((hi / 4294967296 : Nat) : Int) = ((hi / 4294967296 : Nat) : Int) := wrapU64 (by omega) (by omega)
  have ea : addS s n = (IntKind.i64.wrap (s.1 + (if n < 0 then -1 else 0) + ((hi / 4294967296 : Nat) : Int)), hi % 4294967296 * 4294967296 + lo % 4294967296) := by rw [← hca, ← hmo]; rfl
  rw [ea]
  clear ea hca hmo
  have fin : ∀ v : Value, Fresh H (H0.wr (H.size + 1) [v, u64 ((hi % 4294967296 * 4294967296 + lo % 4294967296 : Nat) : Int)]) := fun v => f0.then ((Ext.refl (fun z => z = H.size + 1) _).wr (fun _ => rfl) _) (fun z hz => by omega)
  refine Both.dec (fun hn => ?_) (fun hn => ?_) <;> simp (disch := (first | omega | (simp only [size_new, size_newm, size_wr, size_wrm] <;> omega) | fail)) only [go_sem, Nat.reduceBEq, Nat.reduceAdd, Nat.reduceMul, Nat.reduceLeDiff, ↓reduceIte, rd_new_lt, own_new_lt, mp_new_lt, rd_newm_lt, own_newm_lt, mp_newm_lt, rd_wr_ne, own_wr_ne, mp_wr_ne, rd_wrm_ne, own_wrm_ne, mp_wrm_ne, rd_new_eq, own_new_eq, mp_newm_eq, rd_of_own b0, wn, if_neg z, tmodN, tdivN, w1, w3, w5, w6, w7, d0, q1, q2, q3, q4]
  · have e9 : IntKind.i64.wrap (IntKind.u64.wrap (IntKind.u64.wrap (IntKind.u64.wrap s.1 + 18446744073709551615) + ((hi / 4294967296 : Nat) : Int))) = IntKind.i64.wrap (s.1 + (if n < 0 then -1 else 0) + ((hi / 4294967296 : Nat) : Int)) := by
      rw [wrapU_add, Int.add_assoc, wrapU_add, wrap_wrapU, if_pos hn]
      exact wrap_cong (by omega)
    simp (disch := (first | omega | (simp only [size_new, size_newm, size_wr, size_wrm] <;> omega) | fail)) only [go_sem, Nat.reduceBEq, Nat.reduceAdd, Nat.reduceMul, Nat.reduceLeDiff, ↓reduceIte, rd_new_lt, own_new_lt, mp_new_lt, rd_newm_lt, own_newm_lt, mp_newm_lt, rd_wr_ne, own_wr_ne, mp_wr_ne, rd_wrm_ne, own_wrm_ne, mp_wrm_ne, rd_new_eq, own_new_eq, mp_newm_eq, e9]
    have d1 := own_wr_same (l := [i64 (IntKind.i64.wrap (s.1 + (if n < 0 then -1 else 0) + ((hi / 4294967296 : Nat) : Int))), u64 ((hi % 4294967296 * 4294967296 + lo % 4294967296 : Nat) : Int)]) d0
    simp (disch := (first | omega | (simp only [size_new, size_newm, size_wr, size_wrm] <;> omega) | fail)) only [go_sem, Nat.reduceBEq, Nat.reduceAdd, Nat.reduceMul, Nat.reduceLeDiff, ↓reduceIte, rd_new_lt, own_new_lt, mp_new_lt, rd_newm_lt, own_newm_lt, mp_newm_lt, rd_wr_ne, own_wr_ne, mp_wr_ne, rd_wrm_ne, own_wrm_ne, mp_wrm_ne, rd_new_eq, own_new_eq, mp_newm_eq, rd_of_own d1]
    exact ⟨rfl, fin _⟩
  · have e9 : IntKind.i64.wrap (IntKind.u64.wrap (IntKind.u64.wrap (IntKind.u64.wrap s.1 + 0) + ((hi / 4294967296 : Nat) : Int))) = IntKind.i64.wrap (s.1 + (if n < 0 then -1 else 0) + ((hi / 4294967296 : Nat) : Int)) := by
      rw [wrapU_add, Int.add_assoc, wrapU_add, wrap_wrapU, if_neg hn]
      exact wrap_cong (by omega)
    simp (disch := (first | omega | (simp only [size_new, size_newm, size_wr, size_wrm] <;> omega) | fail)) only [go_sem, Nat.reduceBEq, Nat.reduceAdd, Nat.reduceMul, Nat.reduceLeDiff, ↓reduceIte, rd_new_lt, own_new_lt, mp_new_lt, rd_newm_lt, own_newm_lt, mp_newm_lt, rd_wr_ne, own_wr_ne, mp_wr_ne, rd_wrm_ne, own_wrm_ne, mp_wrm_ne, rd_new_eq, own_new_eq, mp_newm_eq, e9]
    have d1 := own_wr_same (l := [i64 (IntKind.i64.wrap (s.1 + (if n < 0 then -1 else 0) + ((hi / 4294967296 : Nat) : Int))), u64 ((hi % 4294967296 * 4294967296 + lo % 4294967296 : Nat) : Int)]) d0
    simp (disch := (first | omega | (simp only [size_new, size_newm, size_wr, size_wrm] <;> omega) | fail)) only [go_sem, Nat.reduceBEq, Nat.reduceAdd, Nat.reduceMul, Nat.reduceLeDiff, ↓reduceIte, rd_new_lt, own_new_lt, mp_new_lt, rd_newm_lt, own_newm_lt, mp_newm_lt, rd_wr_ne, own_wr_ne, mp_wr_ne, rd_wrm_ne, own_wrm_ne, mp_wrm_ne, rd_new_eq, own_new_eq, mp_newm_eq, rd_of_own d1]
    exact ⟨rfl, fin _⟩

theorem wrap_range (x : Int) : -9223372036854775808 ≤ IntKind.i64.wrap x ∧ IntKind.i64.wrap x ≤ 9223372036854775807 := by
  have e : (2 ^ IntKind.i64.bits : Int) = 18446744073709551616 := rfl
  have e' : (2 ^ (IntKind.i64.bits - 1) : Int) = 9223372036854775808 := rfl
  unfold IntKind.wrap
  simp only [e, e', IntKind.signed, Bool.true_and, decide_eq_true_eq]
  split <;> omega

def InS (s : Int × Nat) : Prop := -9223372036854775808 ≤ s.1 ∧ s.1 ≤ 9223372036854775807 ∧ s.2 < 18446744073709551616
theorem addS_in (s : Int × Nat) (n : Int) : InS (addS s n) := ⟨(wrap_range _).1, (wrap_range _).2, Nat.mod_lt _ (by omega)⟩
theorem foldS_in (l : List Int) : ∀ s, InS s → InS (l.foldl addS s) := by
  induction l with
  | nil => exact fun _ h => h
  | cons x l ih => exact fun s h => ih _ (addS_in s x)
theorem totS_in (l : List Int) : InS (totS l) := foldS_in l _ ⟨by decide, by decide, by decide⟩

set_option maxHeartbeats 1000000 in
theorem ref21_Total_spec {H : Hp} {a : Option Addr} {n c : Nat} {l : List Int} (h : RdS H 1 (.slice a n c) n (l.map i64)) (hn : n ≤ 1000000) (hl : ∀ x ∈ l, -9223372036854775808 ≤ x ∧ x ≤ 9223372036854775807) :
    CallH Try.prog n_ref21_Total [.slice a n c] H fun v H' => Post (v = sumV (totS l) ∧ Fresh H H') := by
  have hlen : l.length = n := by have := h.1; simpa using this
  refine c_ref21_Total ⟨rfl, ?_⟩
  have f0 : Fresh H ((H.new 78 [i64 0, u64 0]).new 78 [i64 0, u64 0]) := ((Ext.refl _ _).new _ _).new _ _
  have b0 : ((H.new 78 [i64 0, u64 0]).new 78 [i64 0, u64 0]).own H.size = some [i64 0, u64 0] := Ext.own (((Ext.refl (fun _ => False) _).new _ _) : Fresh (H.new 78 [i64 0, u64 0]) _) (own_new _ _ _) (fun h => h)
  have d0 : ((H.new 78 [i64 0, u64 0]).new 78 [i64 0, u64 0]).own (H.size + 1) = some [i64 0, u64 0] := own_new_eq (by simp only [size_new])
  simp (disch := (first | omega | (simp only [size_new, size_newm, size_wr, size_wrm] <;> omega) | fail)) only [go_sem, Nat.reduceBEq, Nat.reduceAdd, Nat.reduceMul, Nat.reduceLeDiff, ↓reduceIte, rd_new_lt, own_new_lt, mp_new_lt, rd_newm_lt, own_newm_lt, mp_newm_lt, rd_wr_ne, own_wr_ne, mp_wr_ne, rd_wrm_ne, own_wrm_ne, mp_wrm_ne, rd_new_eq, own_new_eq, mp_newm_eq, s_ref21_Total, d0]
  have f0' : Fresh H (((H.new 78 [i64 0, u64 0]).new 78 [i64 0, u64 0]).wr (H.size + 1) [i64 0, u64 0]) := f0.then ((Ext.refl (fun z => z = H.size + 1) _).wr (fun _ => rfl) _) (fun z hz => by omega)
  have b0' : (((H.new 78 [i64 0, u64 0]).new 78 [i64 0, u64 0]).wr (H.size + 1) [i64 0, u64 0]).own H.size = some [i64 0, u64 0] := by rw [own_wr_ne (by omega)]; exact b0
  have d0' : (((H.new 78 [i64 0, u64 0]).new 78 [i64 0, u64 0]).wr (H.size + 1) [i64 0, u64 0]).own (H.size + 1) = some [i64 0, u64 0] := own_wr_same d0
  generalize ((H.new 78 [i64 0, u64 0]).new 78 [i64 0, u64 0]).wr (H.size + 1) [i64 0, u64 0] = H0 at *
  clear f0 b0 d0
  refine LoopV.intro (fun m env H' => Fresh H H' ∧ H'.own H.size = some [i64 0, u64 0] ∧ ∃ (j : Nat), m = n - j ∧ j ≤ n ∧ H'.own (H.size + 1) = some [i64 (totS (l.take j)).1, u64 (totS (l.take j)).2] ∧
    env = [(2, ptr H.size), (3, ptr (H.size + 1)), (7, .slice a n c), (8, i64 n), (9, i64 j)]) n ⟨f0', b0', 0, by omega, by omega, d0', rfl⟩ ?_
  rintro m env H1 ⟨f1, b1, j, hm, hj, d1, rfl⟩
  have h1 := h.fresh f1
  simp (disch := (first | omega | (simp only [size_new, size_newm, size_wr, size_wrm] <;> omega) | fail)) only [go_sem, Nat.reduceBEq, Nat.reduceAdd, Nat.reduceMul, Nat.reduceLeDiff, ↓reduceIte, rd_new_lt, own_new_lt, mp_new_lt, rd_newm_lt, own_newm_lt, mp_newm_lt, rd_wr_ne, own_wr_ne, mp_wr_ne, rd_wrm_ne, own_wrm_ne, mp_wrm_ne, rd_new_eq, own_new_eq, mp_newm_eq]
  refine Both.dec (fun hlt => ?_) (fun hlt => ?_) <;> simp (disch := (first | omega | (simp only [size_new, size_newm, size_wr, size_wrm] <;> omega) | fail)) only [go_sem, Nat.reduceBEq, Nat.reduceAdd, Nat.reduceMul, Nat.reduceLeDiff, ↓reduceIte, rd_new_lt, own_new_lt, mp_new_lt, rd_newm_lt, own_newm_lt, mp_newm_lt, rd_wr_ne, own_wr_ne, mp_wr_ne, rd_wrm_ne, own_wrm_ne, mp_wrm_ne, rd_new_eq, own_new_eq, mp_newm_eq]
  · have hj2 : j < n := by omega
    obtain ⟨y, hy⟩ : ∃ y, l[j]? = some y := ⟨_, List.getElem?_eq_getElem (by omega)⟩
    obtain ⟨b, o, c', lb, hsl, hrd, hjn, hlb⟩ := RdS.get h1 (i := j) (j := 0) (x := i64 y) (by omega) (by rw [Nat.mul_one, Nat.add_zero, List.getElem?_map, hy]; rfl)
    injection hsl with hsl _ _
    subst hsl
    obtain ⟨hy0, hy1⟩ := hl y (List.mem_of_getElem? hy)
    refine ⟨⟨by omega, by omega⟩, ?_⟩
    rw [Nat.add_zero, Nat.mul_one] at hlb
    simp (disch := (first | omega | (simp only [size_new, size_newm, size_wr, size_wrm] <;> omega) | fail)) only [go_sem, Nat.reduceBEq, Nat.reduceAdd, Nat.reduceMul, Nat.reduceLeDiff, ↓reduceIte, rd_new_lt, own_new_lt, mp_new_lt, rd_newm_lt, own_newm_lt, mp_newm_lt, rd_wr_ne, own_wr_ne, mp_wr_ne, rd_wrm_ne, own_wrm_ne, mp_wrm_ne, rd_new_eq, own_new_eq, mp_newm_eq, hrd, Int.toNat_natCast, Nat.mul_one, hlb, rd_of_own d1]
    obtain ⟨g1, g2, g3⟩ := totS_in (l.take j)
    refine (ref21_add_spec H1 (totS (l.take j)) y hy0 hy1 g1 g2 g3).mono ?_
    rintro _ H2 ⟨rfl, f2⟩
    have d2 := f2.own d1 (fun h => h)
    have b2 := f2.own b1 (fun h => h)
    simp (disch := (first | omega | (simp only [size_new, size_newm, size_wr, size_wrm] <;> omega) | fail)) only [go_sem, Nat.reduceBEq, Nat.reduceAdd, Nat.reduceMul, Nat.reduceLeDiff, ↓reduceIte, rd_new_lt, own_new_lt, mp_new_lt, rd_newm_lt, own_newm_lt, mp_newm_lt, rd_wr_ne, own_wr_ne, mp_wr_ne, rd_wrm_ne, own_wrm_ne, mp_wrm_ne, rd_new_eq, own_new_eq, mp_newm_eq, d2, sumV]
    rw [wrap64 (n := (j : Int) + 1) (by omega) (by omega)]
    have htk2 : totS (l.take (j + 1)) = addS (totS (l.take j)) y := by
      rw [List.take_add_one, hy]
      exact totS_snoc _ _
    refine ⟨n - (j + 1), by omega, (f1.trans f2).then ((Ext.refl (fun z => z = H.size + 1) _).wr (fun _ => rfl) _) (fun z hz => by omega), (by first | exact b2 | (rw [own_wr_ne (by omega)]; exact b2)), j + 1, rfl, by omega, ?_, rfl⟩
    rw [htk2]; exact own_wr_same d2
  · have hj2 : j = n := by omega
    subst hj2
    rw [List.take_of_length_le (by omega)] at d1
    have b2 := own_wr_same (l := [i64 (totS l).1, u64 (totS l).2]) b1
    simp (disch := (first | omega | (simp only [size_new, size_newm, size_wr, size_wrm] <;> omega) | fail)) only [go_sem, Nat.reduceBEq, Nat.reduceAdd, Nat.reduceMul, Nat.reduceLeDiff, ↓reduceIte, rd_new_lt, own_new_lt, mp_new_lt, rd_newm_lt, own_newm_lt, mp_newm_lt, rd_wr_ne, own_wr_ne, mp_wr_ne, rd_wrm_ne, own_wrm_ne, mp_wrm_ne, rd_new_eq, own_new_eq, mp_newm_eq, rd_of_own d1, b1, rd_of_own b2]
    exact ⟨rfl, f1.then ((Ext.refl (fun z => z = H.size) _).wr (fun _ => rfl) _) (fun z hz => by omega)⟩

end Go.Proofs.Ytbnaicgmnadkgaa
