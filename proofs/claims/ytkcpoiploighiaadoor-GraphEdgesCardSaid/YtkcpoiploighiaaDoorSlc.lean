/-
  Slices of slices; slices of texts.
-/
import Derived.Test.YtkcpoiploighiaaDoorTabsI
set_option linter.unusedVariables false
set_option linter.unusedSimpArgs false
namespace Go.Proofs.YtkcpoiploighiaaDoor
open Go Go.Vc

/-- A slice of a slice that is read. -/
theorem RdS.sub {H : Hp} {size n c : Nat} {a : Option Addr} {xs : List Value} (h : RdS H size (.slice a n c) n xs) {lo hi : Nat} (h1 : lo ≤ hi) (h2 : hi ≤ n) {b' : Option Addr} {c' : Nat} (hb : lo < hi → b' = a.map (·.add (lo * size))) :
    RdS H size (.slice b' (hi - lo) c') (hi - lo) ((xs.drop (lo * size)).take ((hi - lo) * size)) := by
  obtain ⟨hl, hv⟩ := h
  have e1 : (hi - lo) * size = hi * size - lo * size := Nat.sub_mul _ _ _
  have e2 : hi * size ≤ n * size := Nat.mul_le_mul_right _ h2
  have e3 : lo * size ≤ hi * size := Nat.mul_le_mul_right _ h1
  refine ⟨by rw [List.length_take, List.length_drop, hl]; omega, ?_⟩
  by_cases hlt : lo < hi
  · rcases hv with ⟨hn, _⟩ | ⟨b, o, c2, l, hs, hrd, hle, ht⟩
    · omega
    · right
      injection hs with hs1 hs2 hs3
      subst hs1
      rw [hb hlt]
      refine ⟨b, o + lo * size, c', l, ?_, hrd, by omega, ?_⟩
      · simp [Addr.add]
      · rw [← ht, List.drop_take, List.drop_drop, List.take_take, Nat.min_eq_left (by omega)]
  · left
    exact ⟨by omega, b', c', by rw [show hi - lo = 0 by omega]⟩

theorem RdS.str {H : Hp} {a : Option Addr} {n c : Nat} {ws : List (List UInt8)} (h : RdS H 1 (.slice a n c) n (ws.map strV)) {i : Nat} {x : List UInt8} (hx : ws[i]? = some x) :
    i < n ∧ ∃ b o lb, a = some ⟨b, o, none⟩ ∧ H.rd b = some lb ∧ lb[o + i]? = some (strV x) := by
  obtain ⟨hl, hv⟩ := h
  rw [List.length_map, Nat.mul_one] at hl
  have hi : i < ws.length := by
    rcases Nat.lt_or_ge i ws.length with h | h
    · exact h
    · rw [List.getElem?_eq_none h] at hx; cases hx
  refine ⟨by omega, ?_⟩
  rcases hv with ⟨hn, _⟩ | ⟨b, o, c2, l, hs, hrd, hle, ht⟩
  · omega
  · injection hs with hs1 hs2 hs3
    refine ⟨b, o, l, hs1, hrd, ?_⟩
    have h7 : (ws.map strV)[i]? = some (strV x) := by rw [List.getElem?_map, hx]; rfl
    rw [← ht, List.getElem?_take] at h7
    split at h7
    · rw [List.getElem?_drop] at h7; exact h7
    · cases h7

theorem RdS.blk {H : Hp} {a : Option Addr} {n c : Nat} {xs : List Value} (h : RdS H 1 (.slice a n c) n xs) (hn : n ≠ 0) : ∀ x, a = some x → x.block < H.size := fun x hx => by
  obtain ⟨_, ⟨h0, _⟩ | ⟨b, o, c2, l, hs, hrd, _⟩⟩ := h
  · exact absurd h0 hn
  · injection hs with hs1
    rw [hx] at hs1
    injection hs1 with hs1
    rw [hs1]
    exact rd_lt hrd

theorem RdS.off {H H' : Hp} {a : Option Addr} {n c : Nat} {xs : List Value} {S : Nat → Prop} (h : RdS H 1 (.slice a n c) n xs) (e : Ext S H H') (hs : n ≠ 0 → ∀ x, a = some x → ¬ S x.block) : RdS H' 1 (.slice a n c) n xs := by
  obtain ⟨hl, h | ⟨b, o, c2, l, hv, hrd, h3⟩⟩ := h
  · exact ⟨hl, .inl h⟩
  · by_cases hn : n = 0
    · exact ⟨hl, .inl ⟨hn, a, c, by rw [hn]⟩⟩
    · have hv' := hv
      injection hv' with hv1
      exact ⟨hl, .inr ⟨b, o, c2, l, hv, e.rd hrd (hs hn _ hv1), h3⟩⟩

/-- A slice of texts without its first. -/
theorem slc_tail {H : Hp} {a : Option Addr} {n c : Nat} {ws : List (List UInt8)} (h : RdS H 1 (.slice a n c) n (ws.map strV)) (h1 : 1 ≤ n) (h2 : n ≤ c) :
    ∃ a' c', Value.slice (if (c : Int) = 1 then a else Option.map (fun x => x.add (Int.toNat 1 * 1)) a) ((n : Int).toNat - Int.toNat 1) ((c : Int).toNat - Int.toNat 1) = .slice a' (n - 1) c' ∧
      RdS H 1 (.slice a' (n - 1) c') (n - 1) (ws.tail.map strV) ∧ n - 1 ≤ c' ∧ ∀ x, a' = some x → ∃ y, a = some y ∧ x.block = y.block := by
  refine ⟨_, _, rfl, ?_, by show n - 1 ≤ c - 1; omega, fun x hx => ?_⟩
  rotate_left
  · split at hx
    · exact ⟨x, hx, rfl⟩
    · cases a with
      | none => cases hx
      | some y => injection hx with hx; exact ⟨y, rfl, by rw [← hx]; rfl⟩
  have hl := h.1
  rw [List.length_map, Nat.mul_one] at hl
  have h3 := RdS.sub h (lo := 1) (hi := n) h1 (Nat.le_refl _) (c' := c - 1) (b' := if (c : Int) = 1 then a else Option.map (fun x => x.add (Int.toNat 1 * 1)) a) (fun hlt => by rw [if_neg (by omega)]; rfl)
  rw [Nat.mul_one, Nat.mul_one, List.take_of_length_le (by simp; omega), List.drop_one, ← List.map_tail] at h3
  exact h3

/-- A slice of the call's own, as a slice value. -/
theorem sl_val {H : Hp} {v : Value} {n : Nat} {xs : List Value} {fp : Option Nat} (h : Sl H 1 v n xs fp) : ∃ a c, v = .slice a n c ∧ n ≤ c := by
  obtain ⟨_, h⟩ := h
  cases fp with
  | none => obtain ⟨rfl, rfl⟩ := h; exact ⟨_, _, rfl, Nat.le_refl _⟩
  | some b => obtain ⟨l, c, rfl, _, hc, _⟩ := h; exact ⟨_, _, rfl, hc⟩

end Go.Proofs.YtkcpoiploighiaaDoor
