/-
  Slices of slices.
-/
import Derived.Test.YtbnaicgmnadkgaaBase
import Derived.Test.YtbnaicgmnadkgaaArgs
set_option linter.unusedVariables false
set_option linter.unusedSimpArgs false
namespace Go.Proofs.Ytbnaicgmnadkgaa
open Go Go.Vc

/-- A slice of a slice that is read. -/
theorem RdS.sub {H : Hp} {size n c : Nat} {a : Option Addr} {xs : List Value} (h : RdS H size (.slice a n c) n xs) {lo hi : Nat} (h1 : lo ≤ hi) (h2 : hi ≤ n) {b' : Option Addr} {c' : Nat} (hb : lo < hi → b' = a.map (·.add (lo * size))) :
    RdS H size (.slice b' (hi - lo) c') (hi - lo) ((xs.drop (lo * size)).take ((hi - lo) * size)) := by
  obtain ⟨hl, hv⟩ := h
  have e1 : (hi - lo) * size = hi * size - lo * size := Nat.sub_mul _ _ _
  have e2 : hi * size ≤ n * size := Nat.mul_le_mul_right _ h2
  have e3 : lo * size ≤ hi * size := Nat.mul_le_mul_right _ h1
  refine ⟨by rw [List.length_take, List.length_drop, hl]; omega, ?_⟩
  by_cases hlt : lo < hi
  · rcases hv with ⟨hn, _⟩ | ⟨b, o, c2, l, hs, hrd, hle, ht⟩
    · omega
    · right
      injection hs with hs1 hs2 hs3
      subst hs1
      rw [hb hlt]
      refine ⟨b, o + lo * size, c', l, ?_, hrd, by omega, ?_⟩
      · simp [Addr.add]
      · rw [← ht, List.drop_take, List.drop_drop, List.take_take, Nat.min_eq_left (by omega)]
  · left
    exact ⟨by omega, b', c', by rw [show hi - lo = 0 by omega]⟩

/-- A slice of a slice of numbers, as the code has it. -/
theorem slc_ints {H : Hp} {a : Option Addr} {n c : Nat} {xs : List Int} (h : RdS H 1 (.slice a n c) n (xs.map i64)) {lo hi : Nat} {lo' hi' : Int} (el : lo' = (lo : Int)) (eh : hi' = (hi : Int)) (h1 : lo ≤ hi) (h2 : hi ≤ n) (h3 : n ≤ c) :
    ∃ a', Value.slice (if (c : Int) = lo' then a else Option.map (fun x : Addr => x.add (lo'.toNat * 1)) a) (hi'.toNat - lo'.toNat) ((c : Int).toNat - lo'.toNat) = .slice a' (hi - lo) (c - lo) ∧
      RdS H 1 (.slice a' (hi - lo) (c - lo)) (hi - lo) (((xs.drop lo).take (hi - lo)).map i64) ∧ hi - lo ≤ c - lo ∧ ((xs.drop lo).take (hi - lo)).length = hi - lo := by
  subst el; subst eh
  have hl := h.1
  rw [List.length_map, Nat.mul_one] at hl
  refine ⟨_, rfl, ?_, by omega, by rw [List.length_take, List.length_drop]; omega⟩
  have h4 := RdS.sub h (lo := lo) (hi := hi) h1 h2 (c' := (c : Int).toNat - (lo : Int).toNat) (b' := if (c : Int) = (lo : Int) then a else Option.map (fun x : Addr => x.add ((lo : Int).toNat * 1)) a) (fun hlt => by rw [if_neg (by omega)]; rfl)
  simp only [Nat.mul_one] at h4 ⊢
  rw [← List.map_drop, ← List.map_take] at h4
  exact h4

end Go.Proofs.Ytbnaicgmnadkgaa
