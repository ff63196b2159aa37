/-
  Which graphs' ways can be weighed: the program's way.
-/
import Derived.Test.YtkcpoiploighiaaDoorGraphC3
import Derived.Test.YtkcpoiploighiaaDoorShelf
set_option linter.unusedVariables false
set_option linter.unusedSimpArgs false
namespace Go.Proofs.YtkcpoiploighiaaDoor
open Go Go.Vc

theorem bits_Mul64_spec (x y : Nat) (hx : x < 18446744073709551616) (hy : y < 18446744073709551616) (H : Hp) : CallH Tryd.prog 36 [u64 (x : Int), u64 (y : Int)] H fun v H' =>
    Post (v = .tuple [u64 ((x * y / 18446744073709551616 : Nat) : Int), u64 ((x * y % 18446744073709551616 : Nat) : Int)].toArray ∧ H = H') := fun w hw => by
  refine (Tryd.bits_Mul64 x y hx hy w).mono ?_
  rintro e w' ⟨rfl, rfl⟩
  exact ⟨_, rfl, ⟨rfl, rfl⟩, rfl, hw.symm⟩

/-- The greatest weight. -/
def mostE (es : List Ed) : Int := es.foldl (fun m e => max m e.w) 0
theorem mostE_snoc (es : List Ed) (e : Ed) : mostE (es ++ [e]) = max (mostE es) e.w := by unfold mostE; rw [List.foldl_append]; rfl
theorem most_ge : ∀ (es : List Ed) (m : Int), m ≤ es.foldl (fun m e => max m e.w) m ∧ ∀ e ∈ es, e.w ≤ es.foldl (fun m e => max m e.w) m := by
  intro es
  induction es with
  | nil => exact fun m => ⟨Int.le_refl _, by simp⟩
  | cons x es ih =>
    intro m
    obtain ⟨h1, h2⟩ := ih (max m x.w)
    refine ⟨by rw [List.foldl_cons]; omega, fun e he => ?_⟩
    rw [List.foldl_cons]
    rcases List.mem_cons.1 he with rfl | he
    · omega
    · exact h2 e he
theorem most_mem : ∀ (es : List Ed) (m : Int), es.foldl (fun m e => max m e.w) m = m ∨ ∃ e ∈ es, es.foldl (fun m e => max m e.w) m = e.w := by
  intro es
  induction es with
  | nil => exact fun m => .inl rfl
  | cons x es ih =>
    intro m
    rw [List.foldl_cons]
    rcases ih (max m x.w) with h | ⟨e, he, h⟩
    · rcases Int.le_total m x.w with hl | hl
      · exact .inr ⟨x, List.mem_cons_self .., by rw [h]; omega⟩
      · exact .inl (by rw [h]; omega)
    · exact .inr ⟨e, List.mem_cons_of_mem _ he, h⟩

/-- The product runs over just where some weight is above the bound. -/
theorem most_weigh {n : Int} {es : List Ed} (h0 : 0 ≤ n) (h1 : n ≤ 4096) (hw : ∀ e ∈ es, 0 ≤ e.w ∧ e.w ≤ 9223372036854775807) : n * mostE es ≤ 9223372036854775807 ↔ es.all (weighE n) = true := by
  have ht : Int.tdiv 9223372036854775807 (max n 1) = 9223372036854775807 / max n 1 := Int.tdiv_eq_ediv_of_nonneg (by omega)
  have hp : 0 < max n 1 := by omega
  obtain ⟨g0, g1⟩ := most_ge es 0
  have gm := most_mem es 0
  have key : ∀ x : Int, x ≤ Int.tdiv 9223372036854775807 (max n 1) ↔ x * max n 1 ≤ 9223372036854775807 := fun x => by rw [ht]; exact Int.le_ediv_iff_mul_le hp
  rw [List.all_eq_true]
  unfold mostE
  generalize es.foldl (fun m e => max m e.w) 0 = m at *
  have un : ∀ e, weighE n e = true ↔ 0 ≤ e.w ∧ e.w * max n 1 ≤ 9223372036854775807 := fun e => by
    unfold weighE
    rw [Bool.and_eq_true, decide_eq_true_eq, decide_eq_true_eq, key]
  constructor
  · intro h e he
    obtain ⟨w0, w1⟩ := hw e he
    refine (un e).2 ⟨w0, ?_⟩
    by_cases hz : n ≤ 0
    · rw [Int.max_eq_right (show n ≤ 1 by omega), Int.mul_one]; exact w1
    · rw [Int.max_eq_left (show 1 ≤ n by omega), Int.mul_comm]
      exact Int.le_trans (Int.mul_le_mul_of_nonneg_left (g1 e he) h0) h
  · intro h
    rcases gm with hm | ⟨e, he, hm⟩ <;> rw [hm]
    · rw [Int.mul_zero]; omega
    · by_cases hz : n = 0
      · rw [hz, Int.zero_mul]; omega
      · have := ((un e).1 (h e he)).2
        rw [Int.max_eq_left (show 1 ≤ n by omega), Int.mul_comm] at this
        exact this

end Go.Proofs.YtkcpoiploighiaaDoor
