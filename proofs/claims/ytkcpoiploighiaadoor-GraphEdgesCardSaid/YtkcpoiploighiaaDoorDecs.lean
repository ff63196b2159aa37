/-
  Plain law: a number's digits, and back.
-/
import Derived.Lib.ItoaMem
import Derived.Lib.ParseIntB
import Derived.Lib.IndexMore
set_option linter.unusedVariables false
set_option linter.unusedSimpArgs false
namespace Go.Proofs.YtkcpoiploighiaaDoor
open Go

def dgo (a : Nat) (c : UInt8) : Nat := a * 10 + (c.toNat - 48)
def valD (a : Nat) (l : List UInt8) : Nat := l.foldl dgo a
def Dig (l : List UInt8) : Prop := ∀ c ∈ l, 48 ≤ c.toNat ∧ c.toNat ≤ 57
/-- A number's digits: no nought ahead of others. -/
structure Canon (l : List UInt8) : Prop where
  ne : l ≠ []
  dig : Dig l
  head : 1 < l.length → ∀ c, l.head? = some c → c.toNat ≠ 48

theorem dec_small (u : Nat) (h : u < 10) : Lib.decDigits u = [UInt8.ofNat (48 + u)] := by rw [Lib.decDigits, dif_pos h]
theorem dec_big (u : Nat) (h : ¬ u < 10) : Lib.decDigits u = Lib.decDigits (u / 10) ++ [UInt8.ofNat (48 + u % 10)] := by rw [Lib.decDigits, dif_neg h]

theorem toNat_dig (d : Nat) (h : d < 10) : (UInt8.ofNat (48 + d)).toNat = 48 + d := by
  rw [UInt8.toNat_ofNat']; omega

theorem ofNat_of (c : UInt8) (d : Nat) (h : c.toNat = 48 + d) : UInt8.ofNat (48 + d) = c := by
  rw [← h, UInt8.ofNat_toNat]

theorem valD_app (a : Nat) (l : List UInt8) (c : UInt8) : valD a (l ++ [c]) = valD a l * 10 + (c.toNat - 48) := by
  unfold valD; rw [List.foldl_append]; rfl

theorem valD_ge (l : List UInt8) : ∀ a, a ≤ valD a l := by
  induction l with
  | nil => intro a; exact Nat.le_refl _
  | cons c l ih =>
    intro a
    have := ih (dgo a c)
    show a ≤ valD (dgo a c) l
    unfold dgo at this ⊢
    omega

theorem dec_facts : ∀ u : Nat, Canon (Lib.decDigits u) ∧ valD 0 (Lib.decDigits u) = u ∧ (0 < u → ∀ c, (Lib.decDigits u).head? = some c → c.toNat ≠ 48) := by
  intro u
  induction u using Nat.strongRecOn with
  | _ u ih =>
    by_cases h : u < 10
    · rw [dec_small u h]
      have ht := toNat_dig u h
      refine ⟨⟨by simp, fun c hc => ?_, fun h => by simp at h⟩, ?_, fun hp c hc => ?_⟩
      · rw [List.mem_singleton] at hc; subst hc; omega
      · show dgo 0 _ = u
        unfold dgo; omega
      · simp only [List.head?_cons, Option.some.injEq] at hc; subst hc; omega
    · rw [dec_big u h]
      obtain ⟨⟨i1, i2, i3⟩, i4, i5⟩ := ih (u / 10) (by omega)
      have ht := toNat_dig (u % 10) (by omega)
      have hh : (Lib.decDigits (u / 10) ++ [UInt8.ofNat (48 + u % 10)]).head? = (Lib.decDigits (u / 10)).head? := by
        rw [List.head?_append]
        cases hx : (Lib.decDigits (u / 10)).head? with
        | none => exact absurd (List.head?_eq_none_iff.1 hx) i1
        | some c => rfl
      refine ⟨⟨by simp, fun c hc => ?_, fun _ c hc => ?_⟩, ?_, fun _ c hc => ?_⟩
      · rcases List.mem_append.1 hc with hc | hc
        · exact i2 c hc
        · rw [List.mem_singleton] at hc; subst hc; omega
      · rw [hh] at hc; exact i5 (by omega) c hc
      · rw [valD_app, i4]; omega
      · rw [hh] at hc; exact i5 (by omega) c hc

theorem snoc_ind {P : List UInt8 → Prop} (h0 : P []) (h1 : ∀ l c, P l → P (l ++ [c])) (l : List UInt8) : P l := by
  have : ∀ m : List UInt8, P m.reverse := fun m => by
    induction m with
    | nil => exact h0
    | cons c m ih => rw [List.reverse_cons]; exact h1 _ _ ih
  have h := this l.reverse
  rwa [List.reverse_reverse] at h

theorem valD_pos {l : List UInt8} (hn : l ≠ []) (hd : Dig l) (hh : ∀ c, l.head? = some c → c.toNat ≠ 48) : 0 < valD 0 l := by
  cases l with
  | nil => exact absurd rfl hn
  | cons c l =>
    have h1 := hh c rfl
    have h2 := hd c (List.mem_cons_self ..)
    have h3 := valD_ge l (dgo 0 c)
    show 0 < valD (dgo 0 c) l
    unfold dgo at *
    omega

theorem canon_dec : ∀ l : List UInt8, Canon l → Lib.decDigits (valD 0 l) = l := by
  refine snoc_ind (fun h => absurd rfl h.ne) fun l c ih h => ?_
  have hc := h.dig c (by simp)
  obtain ⟨d, hd⟩ : ∃ d, c.toNat = 48 + d := ⟨c.toNat - 48, by omega⟩
  rw [valD_app, hd]
  by_cases hl : l = []
  · subst hl
    show Lib.decDigits (0 * 10 + (48 + d - 48)) = [c]
    rw [show 0 * 10 + (48 + d - 48) = d by omega, dec_small d (by omega), ofNat_of c d hd]
  · have hhead : ∀ x, l.head? = some x → x.toNat ≠ 48 := fun x hx => by
      refine h.head ?_ x ?_
      · rw [List.length_append, List.length_singleton]
        have := List.length_pos_iff.2 hl
        omega
      · rw [List.head?_append, hx]; rfl
    have hdl : Dig l := fun x hx => h.dig x (List.mem_append_left _ hx)
    have hp := valD_pos hl hdl hhead
    have h2 := ih ⟨hl, hdl, fun _ => hhead⟩
    rw [show valD 0 l * 10 + (48 + d - 48) = valD 0 l * 10 + d by omega, dec_big _ (by omega), show (valD 0 l * 10 + d) / 10 = valD 0 l by omega, show (valD 0 l * 10 + d) % 10 = d by omega, h2, ofNat_of c d hd]

theorem parseM_ok (M : Nat) (hM : M ≤ 18446744073709551615) : ∀ (l : List UInt8) (acc : Nat), Dig l → valD acc l ≤ M → Lib.parseUintM M acc l = .ok (valD acc l) := by
  intro l
  induction l with
  | nil => intro acc _ _; rfl
  | cons c l ih =>
    intro acc hd hv
    have hc := hd c (List.mem_cons_self ..)
    have h3 := valD_ge l (dgo acc c)
    have hv' : valD (dgo acc c) l ≤ M := hv
    have hg : dgo acc c = acc * 10 + (c.toNat - 48) := rfl
    unfold Lib.parseUintM
    rw [if_pos hc, if_neg (by omega), if_neg (by omega)]
    exact ih _ (fun x hx => hd x (List.mem_cons_of_mem _ hx)) hv'

theorem parseM_le (M : Nat) : ∀ (l : List UInt8) (acc u : Nat), acc ≤ M → Lib.parseUintM M acc l = .ok u → u ≤ M := by
  intro l
  induction l with
  | nil => intro acc u ha h; unfold Lib.parseUintM at h; injection h with h; omega
  | cons c l ih =>
    intro acc u ha h
    unfold Lib.parseUintM at h
    split at h
    · split at h
      · cases h
      · split at h
        · cases h
        · exact ih _ u (by omega) h
    · cases h

theorem parse_dec {u : Nat} (h : u < 18446744073709551616) : Lib.parseUintB 64 (Lib.decDigits u) = .ok u := by
  obtain ⟨⟨h1, h2, _⟩, h3, _⟩ := dec_facts u
  unfold Lib.parseUintB
  rw [if_neg h1, parseM_ok _ (by decide) _ 0 h2 (by rw [h3]; omega), h3]

theorem parseB_le {l : List UInt8} {u : Nat} (h : Lib.parseUintB 64 l = .ok u) : u < 18446744073709551616 := by
  unfold Lib.parseUintB at h
  split at h
  · cases h
  · have := parseM_le (2 ^ 64 - 1) l 0 u (by omega) h
    omega

theorem parse_itoa {n : Int} (h0 : -9223372036854775808 ≤ n) (h1 : n ≤ 9223372036854775807) : Lib.parseIntB 64 (Lib.itoa n) = .ok n := by
  by_cases hn : n < 0
  · obtain ⟨u, rfl⟩ : ∃ u : Nat, n = -(u : Int) := ⟨n.natAbs, by omega⟩
    rw [Lib.itoa_neg u (by omega)]
    have e : (45 : UInt8).toNat = 45 := rfl
    simp only [Lib.parseIntB, e, or_true, if_true, parse_dec (u := u) (by omega)]
    rw [if_neg (by simp), if_neg (by simp; omega)]
  · obtain ⟨u, rfl⟩ : ∃ u : Nat, n = u := ⟨n.toNat, by omega⟩
    rw [Lib.itoa_nonneg]
    obtain ⟨⟨g1, g2, _⟩, _, _⟩ := dec_facts u
    cases hd : Lib.decDigits u with
    | nil => exact absurd hd g1
    | cons c r =>
      have hc := g2 c (by rw [hd]; exact List.mem_cons_self ..)
      simp only [Lib.parseIntB]
      rw [if_neg (by omega), ← hd, parse_dec (u := u) (by omega)]
      simp only
      rw [if_neg (by omega), if_neg (by omega), if_neg (by omega)]

theorem parseI_le {l : List UInt8} {n : Int} (h : Lib.parseIntB 64 l = .ok n) : -9223372036854775808 ≤ n ∧ n ≤ 9223372036854775807 := by
  cases l with
  | nil => cases h
  | cons c r =>
    simp only [Lib.parseIntB] at h
    generalize Lib.parseUintB 64 (if c.toNat = 43 ∨ c.toNat = 45 then r else c :: r) = x at h
    cases x with
    | ok u =>
      simp only at h
      split at h
      · cases h
      · split at h
        · cases h
        · injection h with h
          split at h <;> omega
    | _ => cases h

theorem no35 {l : List UInt8} (h : Dig l) : (35 : UInt8) ∉ l := fun hm => by
  have := (h 35 hm).1
  exact absurd this (by decide)

theorem no35_itoa (n : Int) : (35 : UInt8) ∉ Lib.itoa n := by
  unfold Lib.itoa
  split
  · intro hm
    rcases List.mem_cons.1 hm with h | h
    · exact absurd h (by decide)
    · exact no35 (dec_facts _).1.dig h
  · exact no35 (dec_facts _).1.dig

theorem index_at : ∀ (a b : List UInt8), (35 : UInt8) ∉ a → Lib.index (a ++ 35 :: b) [35] = (a.length : Int) := by
  intro a b
  induction a with
  | nil => intro _; simp [Lib.index, List.isPrefixOf]
  | cons x a ih =>
    intro h
    have hx : ((35 : UInt8) == x) = false := by
      rw [beq_eq_false_iff_ne]
      exact fun e => h (by rw [e]; exact List.mem_cons_self ..)
    have h2 := ih (fun hm => h (List.mem_cons_of_mem _ hm))
    have h3 : ([35] : List UInt8).isPrefixOf (x :: (a ++ 35 :: b)) = false := by simp [List.isPrefixOf, hx]
    rw [List.cons_append, Lib.index, h3, h2]
    have h4 : ((a.length : Int) == -1) = false := by rw [beq_eq_false_iff_ne]; omega
    rw [h4]
    simp

theorem cut_at (a b : List UInt8) (h : (35 : UInt8) ∉ a) : Lib.cut (a ++ 35 :: b) [35] = (a, b, true) := by
  unfold Lib.cut
  rw [index_at a b h, if_pos (by omega), Int.toNat_natCast]
  simp

theorem itoa_inj {n m : Int} (h0 : -9223372036854775808 ≤ n) (h1 : n ≤ 9223372036854775807) (h2 : -9223372036854775808 ≤ m) (h3 : m ≤ 9223372036854775807) (h : Lib.itoa n = Lib.itoa m) : n = m := by
  have a := parse_itoa h0 h1
  have b := parse_itoa h2 h3
  rw [h, b] at a
  injection a with a
  exact a.symm

theorem dec_inj {u v : Nat} (h : Lib.decDigits u = Lib.decDigits v) : u = v := by
  have a := (dec_facts u).2.1
  have b := (dec_facts v).2.1
  rw [h, b] at a
  exact a.symm

theorem split35 {a b c d : List UInt8} (ha : (35 : UInt8) ∉ a) (hc : (35 : UInt8) ∉ c) (h : a ++ 35 :: b = c ++ 35 :: d) : a = c ∧ b = d := by
  have h1 := cut_at a b ha
  have h2 := cut_at c d hc
  rw [h, h2] at h1
  simp only [Prod.mk.injEq] at h1
  exact ⟨h1.1.symm, h1.2.1.symm⟩

end Go.Proofs.YtkcpoiploighiaaDoor
