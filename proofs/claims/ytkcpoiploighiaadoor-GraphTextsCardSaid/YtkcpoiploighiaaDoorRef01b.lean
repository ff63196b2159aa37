/-
  The document's readers of numbers and entries.
-/
import Derived.Test.YtkcpoiploighiaaDoorNumsI
import Derived.Test.YtkcpoiploighiaaDoorRef01
set_option linter.unusedVariables false
set_option linter.unusedSimpArgs false
namespace Go.Proofs.YtkcpoiploighiaaDoor
open Go Go.Vc

theorem size_str (l : List UInt8) : (⟨l.toArray⟩ : ByteArray).size = l.length := by simp [ByteArray.size]
theorem get_str (l : List UInt8) (i : Nat) : (⟨l.toArray⟩ : ByteArray)[i]? = l[i]? := by
  by_cases h : i < l.length
  · rw [List.getElem?_eq_getElem h, getElem?_pos _ i (by rw [size_str]; exact h)]
    rfl
  · rw [List.getElem?_eq_none (by omega), getElem?_neg _ i (by rw [size_str]; exact h)]
theorem eq_none (a : List UInt8) : ((⟨a.toArray⟩ : ByteArray).toList == (⟨#[]⟩ : ByteArray).toList) = decide (a = []) := eq_bytes a []

theorem also_nn (i : Nat) (F : Prop) : Also (0 ≤ (i : Int)) F = F := by unfold Also; simp

theorem valD_cat (a b : List UInt8) : valD 0 (a ++ b) = valD (valD 0 a) b := by unfold valD; rw [List.foldl_append]

theorem valD_over {l : List UInt8} {i : Nat} {c : UInt8} (hc : l[i]? = some c) : valD 0 (l.take i) * 10 + (c.toNat - 48) ≤ valD 0 l := by
  have h1 : l.take (i + 1) = l.take i ++ [c] := by rw [List.take_add_one, hc]; rfl
  have h2 : valD 0 l = valD (valD 0 (l.take (i + 1))) (l.drop (i + 1)) := by rw [← valD_cat, List.take_append_drop]
  rw [h2, h1, valD_app]
  exact valD_ge _ _

theorem ref01_digits_spec (H : Hp) (l : List UInt8) (hl : l.length ≤ 1000000) {most : Nat} (hm : 10 ≤ most ∧ most ≤ 18446744073709551615) : CallH Tryd.prog n_ref01_digits [strV l, u64 most] H fun v H' => Post (
    ((∃ u : Nat, u ≤ most ∧ l = Lib.decDigits u ∧ v = .tuple [u64 u, .bool true].toArray) ∨ ((∀ u : Nat, u ≤ most → l ≠ Lib.decDigits u) ∧ v = .tuple [u64 0, .bool false].toArray)) ∧ H = H') := by
  refine c_ref01_digits ⟨rfl, ?_⟩
  simp (disch := (first | omega | (simp only [size_new, size_newm, size_wr, size_wrm] <;> omega) | fail)) only [go_sem, Nat.reduceBEq, Nat.reduceAdd, Nat.reduceMul, Nat.reduceLeDiff, ↓reduceIte, rd_new_lt, own_new_lt, mp_new_lt, rd_newm_lt, own_newm_lt, mp_newm_lt, rd_wr_ne, own_wr_ne, mp_wr_ne, rd_wrm_ne, own_wrm_ne, mp_wrm_ne, rd_new_eq, own_new_eq, mp_newm_eq, s_ref01_digits, eq_none, List.size_toArray]
  have hbad : ∀ v : Value, v = .tuple [u64 0, .bool false].toArray → (∀ u : Nat, u ≤ most → l ≠ Lib.decDigits u) → (((∃ u : Nat, u ≤ most ∧ l = Lib.decDigits u ∧ v = .tuple [u64 u, .bool true].toArray) ∨ ((∀ u : Nat, u ≤ most → l ≠ Lib.decDigits u) ∧ v = .tuple [u64 0, .bool false].toArray)) ∧ H = H) := fun v h1 h2 => ⟨.inr ⟨h2, h1⟩, rfl⟩
  refine Both.dec (fun h0 => ?_) (fun h0 => ?_) <;> simp (disch := (first | omega | (simp only [size_new, size_newm, size_wr, size_wrm] <;> omega) | fail)) only [go_sem, Nat.reduceBEq, Nat.reduceAdd, Nat.reduceMul, Nat.reduceLeDiff, ↓reduceIte, rd_new_lt, own_new_lt, mp_new_lt, rd_newm_lt, own_newm_lt, mp_newm_lt, rd_wr_ne, own_wr_ne, mp_wr_ne, rd_wrm_ne, own_wrm_ne, mp_wrm_ne, rd_new_eq, own_new_eq, mp_newm_eq]
  · exact hbad _ rfl fun u _ h => (dec_facts u).1.ne (by rw [← h]; exact h0)
  have hz : l.toArray.size = l.length := List.size_toArray ..
  refine Both.dec (fun h20 => ?_) (fun h20 => ?_) <;> simp (disch := (first | omega | (simp only [size_new, size_newm, size_wr, size_wrm] <;> omega) | fail)) only [go_sem, Nat.reduceBEq, Nat.reduceAdd, Nat.reduceMul, Nat.reduceLeDiff, ↓reduceIte, rd_new_lt, own_new_lt, mp_new_lt, rd_newm_lt, own_newm_lt, mp_newm_lt, rd_wr_ne, own_wr_ne, mp_wr_ne, rd_wrm_ne, own_wrm_ne, mp_wrm_ne, rd_new_eq, own_new_eq, mp_newm_eq]
  · exact hbad _ rfl fun u hu h => by have := decDigits_len (u := u) (by omega); rw [← h] at this; omega
  refine Both.dec (fun h1 => ?_) (fun h1 => ?_) <;> simp (disch := (first | omega | (simp only [size_new, size_newm, size_wr, size_wrm] <;> omega) | fail)) only [go_sem, Nat.reduceBEq, Nat.reduceAdd, Nat.reduceMul, Nat.reduceLeDiff, ↓reduceIte, rd_new_lt, own_new_lt, mp_new_lt, rd_newm_lt, own_newm_lt, mp_newm_lt, rd_wr_ne, own_wr_ne, mp_wr_ne, rd_wrm_ne, own_wrm_ne, mp_wrm_ne, rd_new_eq, own_new_eq, mp_newm_eq]
  focus
    obtain ⟨c, hc⟩ : ∃ c, l[0]? = some c := ⟨_, List.getElem?_eq_getElem (by omega)⟩
    refine ⟨by omega, ?_⟩
    simp (disch := (first | omega | (simp only [size_new, size_newm, size_wr, size_wrm] <;> omega) | fail)) only [go_sem, Nat.reduceBEq, Nat.reduceAdd, Nat.reduceMul, Nat.reduceLeDiff, ↓reduceIte, rd_new_lt, own_new_lt, mp_new_lt, rd_newm_lt, own_newm_lt, mp_newm_lt, rd_wr_ne, own_wr_ne, mp_wr_ne, rd_wrm_ne, own_wrm_ne, mp_wrm_ne, rd_new_eq, own_new_eq, mp_newm_eq, get_str, Int.toNat_zero, hc]
    refine Both.dec (fun h2 => ?_) (fun h2 => ?_) <;> simp (disch := (first | omega | (simp only [size_new, size_newm, size_wr, size_wrm] <;> omega) | fail)) only [go_sem, Nat.reduceBEq, Nat.reduceAdd, Nat.reduceMul, Nat.reduceLeDiff, ↓reduceIte, rd_new_lt, own_new_lt, mp_new_lt, rd_newm_lt, own_newm_lt, mp_newm_lt, rd_wr_ne, own_wr_ne, mp_wr_ne, rd_wrm_ne, own_wrm_ne, mp_wrm_ne, rd_new_eq, own_new_eq, mp_newm_eq]
    focus
      exact hbad _ rfl fun u _ h => (dec_facts u).1.head (by rw [← h]; omega) c (by rw [← h, List.head?_eq_getElem?]; exact hc) (by omega)
    have hh : 1 < l.length → ∀ x, l.head? = some x → x.toNat ≠ 48 := fun _ x hx => by
      rw [List.head?_eq_getElem?, hc] at hx
      injection hx with hx
      subst hx
      omega
  rotate_left
  have hh : 1 < l.length → ∀ x, l.head? = some x → x.toNat ≠ 48 := fun h => absurd h (by omega)
  all_goals
    refine LoopV.intro (fun k env H' => H' = H ∧ ∃ i : Nat, k = l.length - i ∧ i ≤ l.length ∧ valD 0 (l.take i) ≤ most ∧ Dig (l.take i) ∧ env = [(0, strV l), (1, u64 most), (6, u64 (valD 0 (l.take i))), (7, i64 i)]) l.length ⟨rfl, 0, by omega, by omega, by simp [valD], by intro c hc; simp at hc, by simp [valD]⟩ ?_
    rintro k env _ ⟨rfl, i, hk, hi, hv, hd, rfl⟩
    simp (disch := (first | omega | (simp only [size_new, size_newm, size_wr, size_wrm] <;> omega) | fail)) only [go_sem, Nat.reduceBEq, Nat.reduceAdd, Nat.reduceMul, Nat.reduceLeDiff, ↓reduceIte, rd_new_lt, own_new_lt, mp_new_lt, rd_newm_lt, own_newm_lt, mp_newm_lt, rd_wr_ne, own_wr_ne, mp_wr_ne, rd_wrm_ne, own_wrm_ne, mp_wrm_ne, rd_new_eq, own_new_eq, mp_newm_eq]
    refine Both.dec (fun h3 => ?_) (fun h3 => ?_) <;> simp (disch := (first | omega | (simp only [size_new, size_newm, size_wr, size_wrm] <;> omega) | fail)) only [go_sem, Nat.reduceBEq, Nat.reduceAdd, Nat.reduceMul, Nat.reduceLeDiff, ↓reduceIte, rd_new_lt, own_new_lt, mp_new_lt, rd_newm_lt, own_newm_lt, mp_newm_lt, rd_wr_ne, own_wr_ne, mp_wr_ne, rd_wrm_ne, own_wrm_ne, mp_wrm_ne, rd_new_eq, own_new_eq, mp_newm_eq]
    · obtain ⟨c, hc⟩ : ∃ c, l[i]? = some c := ⟨_, List.getElem?_eq_getElem (by omega)⟩
      have hcm : c ∈ l := List.mem_of_getElem? hc
      have hnd : ¬ (48 ≤ c.toNat ∧ c.toNat ≤ 57) → ∀ u : Nat, u ≤ most → l ≠ Lib.decDigits u := fun hn u _ h => hn ((dec_facts u).1.dig c (h ▸ hcm))
      have hov := valD_over hc
      have htk : l.take (i + 1) = l.take i ++ [c] := by rw [List.take_add_one, hc]; rfl
      simp (disch := (first | omega | (simp only [size_new, size_newm, size_wr, size_wrm] <;> omega) | fail)) only [go_sem, Nat.reduceBEq, Nat.reduceAdd, Nat.reduceMul, Nat.reduceLeDiff, ↓reduceIte, rd_new_lt, own_new_lt, mp_new_lt, rd_newm_lt, own_newm_lt, mp_newm_lt, rd_wr_ne, own_wr_ne, mp_wr_ne, rd_wrm_ne, own_wrm_ne, mp_wrm_ne, rd_new_eq, own_new_eq, mp_newm_eq, get_str, Int.toNat_natCast, hc, also_nn]
      refine Both.dec (fun h4 => ?_) (fun h4 => ?_) <;> simp (disch := (first | omega | (simp only [size_new, size_newm, size_wr, size_wrm] <;> omega) | fail)) only [go_sem, Nat.reduceBEq, Nat.reduceAdd, Nat.reduceMul, Nat.reduceLeDiff, ↓reduceIte, rd_new_lt, own_new_lt, mp_new_lt, rd_newm_lt, own_newm_lt, mp_newm_lt, rd_wr_ne, own_wr_ne, mp_wr_ne, rd_wrm_ne, own_wrm_ne, mp_wrm_ne, rd_new_eq, own_new_eq, mp_newm_eq, get_str, Int.toNat_natCast, hc, also_nn]
      · exact hbad _ rfl (hnd (by omega))
      refine Both.dec (fun h5 => ?_) (fun h5 => ?_) <;> simp (disch := (first | omega | (simp only [size_new, size_newm, size_wr, size_wrm] <;> omega) | fail)) only [go_sem, Nat.reduceBEq, Nat.reduceAdd, Nat.reduceMul, Nat.reduceLeDiff, ↓reduceIte, rd_new_lt, own_new_lt, mp_new_lt, rd_newm_lt, own_newm_lt, mp_newm_lt, rd_wr_ne, own_wr_ne, mp_wr_ne, rd_wrm_ne, own_wrm_ne, mp_wrm_ne, rd_new_eq, own_new_eq, mp_newm_eq, get_str, Int.toNat_natCast, hc, also_nn]
      · exact hbad _ rfl (hnd (by omega))
      obtain ⟨d, hcd⟩ : ∃ d : Nat, c.toNat = 48 + d := ⟨c.toNat - 48, by omega⟩
      have w1 : IntKind.u64.wrap (c.toNat : Int) = c.toNat := wrapU64 (by omega) (by omega)
      have w2 : IntKind.u64.wrap ((c.toNat : Int) - 48) = d := by rw [hcd]; exact (wrapU64 (by omega) (by omega)).trans (by omega)
      have w3 : IntKind.u64.wrap ((most : Int) - (d : Int)) = ((most - d : Nat) : Int) := (wrapU64 (by omega) (by omega)).trans (by omega)
      have w4 : IntKind.u64.wrap (((most - d : Nat) : Int).tdiv 10) = (((most - d) / 10 : Nat) : Int) := by
        rw [Int.tdiv_eq_ediv_of_nonneg (by omega)]
        exact (wrapU64 (by omega) (by omega)).trans (by omega)
      have h10 : ¬ ((10 : Int) = 0) := by decide
      simp (disch := (first | omega | (simp only [size_new, size_newm, size_wr, size_wrm] <;> omega) | fail)) only [go_sem, Nat.reduceBEq, Nat.reduceAdd, Nat.reduceMul, Nat.reduceLeDiff, ↓reduceIte, rd_new_lt, own_new_lt, mp_new_lt, rd_newm_lt, own_newm_lt, mp_newm_lt, rd_wr_ne, own_wr_ne, mp_wr_ne, rd_wrm_ne, own_wrm_ne, mp_wrm_ne, rd_new_eq, own_new_eq, mp_newm_eq, w1, w2, w3, w4, if_neg h10]
      refine Both.dec (fun h6 => ?_) (fun h6 => ?_) <;> simp (disch := (first | omega | (simp only [size_new, size_newm, size_wr, size_wrm] <;> omega) | fail)) only [go_sem, Nat.reduceBEq, Nat.reduceAdd, Nat.reduceMul, Nat.reduceLeDiff, ↓reduceIte, rd_new_lt, own_new_lt, mp_new_lt, rd_newm_lt, own_newm_lt, mp_newm_lt, rd_wr_ne, own_wr_ne, mp_wr_ne, rd_wrm_ne, own_wrm_ne, mp_wrm_ne, rd_new_eq, own_new_eq, mp_newm_eq]
      · exact hbad _ rfl fun u hu h => by
          have := (dec_facts u).2.1
          rw [← h] at this
          omega
      have w5 : IntKind.u64.wrap ((valD 0 (l.take i) : Int) * 10) = ((valD 0 (l.take i) * 10 : Nat) : Int) := (wrapU64 (by omega) (by omega)).trans (by omega)
      have w6 : IntKind.u64.wrap (((valD 0 (l.take i) * 10 : Nat) : Int) + (d : Int)) = (valD 0 (l.take (i + 1)) : Int) := by
        rw [htk, valD_app]
        exact (wrapU64 (by omega) (by omega)).trans (by omega)
      simp (disch := (first | omega | (simp only [size_new, size_newm, size_wr, size_wrm] <;> omega) | fail)) only [go_sem, Nat.reduceBEq, Nat.reduceAdd, Nat.reduceMul, Nat.reduceLeDiff, ↓reduceIte, rd_new_lt, own_new_lt, mp_new_lt, rd_newm_lt, own_newm_lt, mp_newm_lt, rd_wr_ne, own_wr_ne, mp_wr_ne, rd_wrm_ne, own_wrm_ne, mp_wrm_ne, rd_new_eq, own_new_eq, mp_newm_eq, w5, w6]
      rw [wrap64 (n := (i : Int) + 1) (by omega) (by omega)]
      refine ⟨l.length - (i + 1), by omega, trivial, i + 1, rfl, by omega, ?_, ?_, rfl⟩
      · rw [htk, valD_app]; omega
      · rw [htk]
        intro x hx
        rcases List.mem_append.1 hx with hx | hx
        · exact hd x hx
        · rw [List.mem_singleton] at hx; subst hx; omega
    · have hi2 : i = l.length := by omega
      subst hi2
      rw [List.take_length] at hv hd
      have := canon_dec l ⟨h0, hd, hh⟩
      exact ⟨.inl ⟨_, hv, this.symm, by rw [List.take_length]; rfl⟩, rfl⟩

theorem itoa_cons {l : List UInt8} {n : Int} (h : l = Lib.itoa n) : (n < 0 ∧ l = 45 :: Lib.decDigits n.natAbs) ∨ (0 ≤ n ∧ l = Lib.decDigits n.toNat) := by
  unfold Lib.itoa at h
  split at h
  · exact .inl ⟨by assumption, h⟩
  · exact .inr ⟨by omega, h⟩

theorem dec_ne45 {l : List UInt8} {u : Nat} (h : l = Lib.decDigits u) (c : UInt8) (hl : l[0]? = some c) : c.toNat ≠ 45 := by
  have := (dec_facts u).1.dig c (by rw [← h]; exact List.mem_of_getElem? hl)
  omega

theorem ext_str (l : List UInt8) (a b : Nat) : (⟨l.toArray⟩ : ByteArray).extract a b = ⟨((l.take b).drop a).toArray⟩ := by
  apply ByteArray.ext
  rw [ByteArray.data_extract]
  simp [List.drop_take]

theorem dec_min : Lib.decDigits 9223372036854775808 = [57, 50, 50, 51, 51, 55, 50, 48, 51, 54, 56, 53, 52, 55, 55, 53, 56, 48, 56] :=
  canon_dec [57, 50, 50, 51, 51, 55, 50, 48, 51, 54, 56, 53, 52, 55, 55, 53, 56, 48, 56] ⟨by decide, by unfold Dig; decide, fun _ c hc => by simp only [List.head?_cons, Option.some.injEq] at hc; subst hc; decide⟩
theorem itoa_min : Lib.itoa (-9223372036854775808) = [45, 57, 50, 50, 51, 51, 55, 50, 48, 51, 54, 56, 53, 52, 55, 55, 53, 56, 48, 56] := by
  rw [show Lib.itoa (-9223372036854775808) = 45 :: Lib.decDigits 9223372036854775808 from Lib.itoa_neg 9223372036854775808 (by omega), dec_min]

set_option maxRecDepth 100000 in
theorem ref01_Number_spec (H : Hp) (l : List UInt8) (hl : l.length ≤ 1000000) : CallH Tryd.prog n_ref01_Number [strV l] H fun v H' => Post (
    ((∃ n : Int, -9223372036854775808 ≤ n ∧ n ≤ 9223372036854775807 ∧ l = Lib.itoa n ∧ v = .tuple [i64 n, .bool true].toArray) ∨
      ((∀ n : Int, -9223372036854775808 ≤ n → n ≤ 9223372036854775807 → l ≠ Lib.itoa n) ∧ v = .tuple [i64 0, .bool false].toArray)) ∧ H = H') := by
  refine c_ref01_Number ⟨rfl, ?_⟩
  simp (disch := (first | omega | (simp only [size_new, size_newm, size_wr, size_wrm] <;> omega) | fail)) only [go_sem, Nat.reduceBEq, Nat.reduceAdd, Nat.reduceMul, Nat.reduceLeDiff, ↓reduceIte, rd_new_lt, own_new_lt, mp_new_lt, rd_newm_lt, own_newm_lt, mp_newm_lt, rd_wr_ne, own_wr_ne, mp_wr_ne, rd_wrm_ne, own_wrm_ne, mp_wrm_ne, rd_new_eq, own_new_eq, mp_newm_eq, s_ref01_Number, eq_bytes]
  refine Both.dec (fun h0 => ?_) (fun h0 => ?_) <;> simp (disch := (first | omega | (simp only [size_new, size_newm, size_wr, size_wrm] <;> omega) | fail)) only [go_sem, Nat.reduceBEq, Nat.reduceAdd, Nat.reduceMul, Nat.reduceLeDiff, ↓reduceIte, rd_new_lt, own_new_lt, mp_new_lt, rd_newm_lt, own_newm_lt, mp_newm_lt, rd_wr_ne, own_wr_ne, mp_wr_ne, rd_wrm_ne, own_wrm_ne, mp_wrm_ne, rd_new_eq, own_new_eq, mp_newm_eq]
  · exact ⟨.inl ⟨-9223372036854775808, by omega, by omega, by rw [itoa_min]; exact h0, rfl⟩, rfl⟩
  have hz : l.toArray.size = l.length := List.size_toArray ..
  refine Both.dec (fun h1 => ?_) (fun h1 => ?_) <;> simp (disch := (first | omega | (simp only [size_new, size_newm, size_wr, size_wrm] <;> omega) | fail)) only [go_sem, Nat.reduceBEq, Nat.reduceAdd, Nat.reduceMul, Nat.reduceLeDiff, ↓reduceIte, rd_new_lt, own_new_lt, mp_new_lt, rd_newm_lt, own_newm_lt, mp_newm_lt, rd_wr_ne, own_wr_ne, mp_wr_ne, rd_wrm_ne, own_wrm_ne, mp_wrm_ne, rd_new_eq, own_new_eq, mp_newm_eq]
  focus
    obtain ⟨c, hc⟩ : ∃ c, l[0]? = some c := ⟨_, List.getElem?_eq_getElem (by omega)⟩
    refine ⟨by omega, ?_⟩
    simp (disch := (first | omega | (simp only [size_new, size_newm, size_wr, size_wrm] <;> omega) | fail)) only [go_sem, Nat.reduceBEq, Nat.reduceAdd, Nat.reduceMul, Nat.reduceLeDiff, ↓reduceIte, rd_new_lt, own_new_lt, mp_new_lt, rd_newm_lt, own_newm_lt, mp_newm_lt, rd_wr_ne, own_wr_ne, mp_wr_ne, rd_wrm_ne, own_wrm_ne, mp_wrm_ne, rd_new_eq, own_new_eq, mp_newm_eq, get_str, Int.toNat_zero, hc]
    refine Both.dec (fun h2 => ?_) (fun h2 => ?_) <;> simp (disch := (first | omega | (simp only [size_new, size_newm, size_wr, size_wrm] <;> omega) | fail)) only [go_sem, Nat.reduceBEq, Nat.reduceAdd, Nat.reduceMul, Nat.reduceLeDiff, ↓reduceIte, rd_new_lt, own_new_lt, mp_new_lt, rd_newm_lt, own_newm_lt, mp_newm_lt, rd_wr_ne, own_wr_ne, mp_wr_ne, rd_wrm_ne, own_wrm_ne, mp_wrm_ne, rd_new_eq, own_new_eq, mp_newm_eq]
    focus
      obtain ⟨r, rfl⟩ : ∃ r, l = 45 :: r := by
        cases l with
        | nil => simp at hc
        | cons x r =>
          simp only [List.getElem?_cons_zero, Option.some.injEq] at hc
          subst hc
          exact ⟨r, by rw [show x = 45 from UInt8.toNat_inj.1 (by rw [show (45 : UInt8).toNat = 45 from rfl]; omega)]⟩
      refine ⟨⟨by omega, by omega, by omega⟩, ?_⟩
      have he : (⟨(45 :: r).toArray⟩ : ByteArray).extract 1 (45 :: r).toArray.size = ⟨r.toArray⟩ := by
        rw [ext_str]; simp
      simp (disch := (first | omega | (simp only [size_new, size_newm, size_wr, size_wrm] <;> omega) | fail)) only [go_sem, Nat.reduceBEq, Nat.reduceAdd, Nat.reduceMul, Nat.reduceLeDiff, ↓reduceIte, rd_new_lt, own_new_lt, mp_new_lt, rd_newm_lt, own_newm_lt, mp_newm_lt, rd_wr_ne, own_wr_ne, mp_wr_ne, rd_wrm_ne, own_wrm_ne, mp_wrm_ne, rd_new_eq, own_new_eq, mp_newm_eq, Int.toNat_one, Int.toNat_natCast, he]
      simp only [List.length_cons] at hl
      have hbad : ∀ u : Nat, ¬ 45 :: r = Lib.decDigits u := fun u h => dec_ne45 h 45 rfl rfl
      refine (ref01_digits_spec H r (by omega) (most := 9223372036854775807) (by omega)).mono ?_
      rintro _ _ ⟨⟨u, hu, h, rfl⟩ | ⟨h, rfl⟩, rfl⟩ <;> simp (disch := (first | omega | (simp only [size_new, size_newm, size_wr, size_wrm] <;> omega) | fail)) only [go_sem, Nat.reduceBEq, Nat.reduceAdd, Nat.reduceMul, Nat.reduceLeDiff, ↓reduceIte, rd_new_lt, own_new_lt, mp_new_lt, rd_newm_lt, own_newm_lt, mp_newm_lt, rd_wr_ne, own_wr_ne, mp_wr_ne, rd_wrm_ne, own_wrm_ne, mp_wrm_ne, rd_new_eq, own_new_eq, mp_newm_eq]
      · refine Both.dec (fun h3 => ?_) (fun h3 => ?_) <;> simp (disch := (first | omega | (simp only [size_new, size_newm, size_wr, size_wrm] <;> omega) | fail)) only [go_sem, Nat.reduceBEq, Nat.reduceAdd, Nat.reduceMul, Nat.reduceLeDiff, ↓reduceIte, rd_new_lt, own_new_lt, mp_new_lt, rd_newm_lt, own_newm_lt, mp_newm_lt, rd_wr_ne, own_wr_ne, mp_wr_ne, rd_wrm_ne, own_wrm_ne, mp_wrm_ne, rd_new_eq, own_new_eq, mp_newm_eq]
        · refine ⟨.inr ⟨fun n g0 g1 hn => ?_, rfl⟩, rfl⟩
          rcases itoa_cons hn with ⟨h5, h6⟩ | ⟨h5, h6⟩
          · injection h6 with _ h6
            have := dec_inj (h.symm.trans h6)
            omega
          · exact hbad _ h6
        · rw [wrap64 (n := (u : Int)) (by omega) (by omega), wrap64 (n := 0 - (u : Int)) (by omega) (by omega)]
          refine ⟨.inl ⟨0 - (u : Int), by omega, by omega, ?_, rfl⟩, rfl⟩
          rw [show (0 : Int) - (u : Int) = -(u : Int) by omega, Lib.itoa_neg u (by omega), h]
      · refine ⟨.inr ⟨fun n g0 g1 hn => ?_, rfl⟩, rfl⟩
        rcases itoa_cons hn with ⟨h5, h6⟩ | ⟨h5, h6⟩
        · injection h6 with _ h6
          by_cases hm : n = -9223372036854775808
          · subst hm
            exact h0 (by rw [hn, itoa_min])
          · exact h n.natAbs (by omega) h6
        · exact hbad _ h6
    have hne : ∀ u, l ≠ 45 :: u := fun u h => by
      rw [h] at hc
      injection hc with hc
      subst hc
      exact h2 rfl
  rotate_left
  have hne : ∀ u, l ≠ 45 :: u := fun u h => h1 (by rw [h]; simp)
  all_goals
    refine (ref01_digits_spec H l hl (most := 9223372036854775807) (by omega)).mono ?_
    rintro _ _ ⟨⟨u, hu, h, rfl⟩ | ⟨h, rfl⟩, rfl⟩ <;> simp (disch := (first | omega | (simp only [size_new, size_newm, size_wr, size_wrm] <;> omega) | fail)) only [go_sem, Nat.reduceBEq, Nat.reduceAdd, Nat.reduceMul, Nat.reduceLeDiff, ↓reduceIte, rd_new_lt, own_new_lt, mp_new_lt, rd_newm_lt, own_newm_lt, mp_newm_lt, rd_wr_ne, own_wr_ne, mp_wr_ne, rd_wrm_ne, own_wrm_ne, mp_wrm_ne, rd_new_eq, own_new_eq, mp_newm_eq]
    · rw [wrap64 (n := (u : Int)) (by omega) (by omega)]
      exact ⟨.inl ⟨u, by omega, by omega, by rw [Lib.itoa_nonneg]; exact h, rfl⟩, rfl⟩
    · rw [wrap64 (n := 0) (by omega) (by omega)]
      refine ⟨.inr ⟨fun n g0 g1 hn => ?_, rfl⟩, rfl⟩
      rcases itoa_cons hn with ⟨h5, h6⟩ | ⟨h5, h6⟩
      · exact hne _ h6
      · exact h n.toNat (by omega) h6

end Go.Proofs.YtkcpoiploighiaaDoor
