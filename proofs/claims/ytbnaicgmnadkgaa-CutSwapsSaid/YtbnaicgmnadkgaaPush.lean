/-
  A number more at the end of a slice of the call's own.
-/
import Derived.Test.YtbnaicgmnadkgaaBase
import Derived.Test.YtbnaicgmnadkgaaArgs
set_option linter.unusedVariables false
set_option linter.unusedSimpArgs false
namespace Go.Proofs.Ytbnaicgmnadkgaa
open Go Go.Vc

theorem ones_is (l : List Int) : allOne (l.map i64) := fun v hv => by
  obtain ⟨x, _, rfl⟩ := List.mem_map.1 hv
  rfl

theorem pushO {H : Hp} {T B : Nat} {w : Value} {xs : List Int} {fp : Option Nat} {K : Value → Hp → Prop} (hfp : ∀ b, fp = some b → B ≤ b) (hB : B ≤ H.size) (s : Sl H 1 w xs.length (xs.map i64) fp) (x : Int) (hl : xs.length ≤ 1000000000000)
    (hk : ∀ w' H' fp', (∀ b, fp' = some b → B ≤ b) → Sl H' 1 w' (xs ++ [x]).length ((xs ++ [x]).map i64) fp' → Ext (fun z => B ≤ z) H H' → K w' H') :
    AppendV T 1 8 [i64 0] w (.slice (some ⟨H.size, 0, none⟩) 1 1) (H.new T [i64 x]) K := by
  have fl : Fresh H (H.new T [i64 x]) := (Ext.refl _ _).new _ _
  refine Sl.append (s.ext fl (fun _ _ h => h)) (Sl.lit_at (size := 1) (n := 1) (xs := [i64 x]) rfl rfl).rd rfl (ones_is [x]) (by omega) ?_
  intro v' H' fp' s' e' hf'
  refine hk v' H' fp' (fun b hb => ?_) (by rw [List.length_append, List.map_append]; exact s') ⟨Nat.le_trans fl.size e'.size, fun z hz hn => ?_⟩
  · rcases hf' with h | ⟨b', hb', h1, h2⟩
    · exact hfp b (by rw [← h]; exact hb)
    · rw [hb] at hb'; injection hb' with hb'; have := fl.size; omega
  · rw [e'.keep z (Nat.lt_of_lt_of_le hz fl.size) (fun h => hn (hfp z h)), fl.keep z hz (fun h => h)]

/-- Of a block of its own at once. -/
theorem pushS {H : Hp} {T B b : Nat} {w : Value} {xs : List Int} {K : Value → Hp → Prop} (hb : B ≤ b) (hB : B ≤ H.size) (s : Sl H 1 w xs.length (xs.map i64) (some b)) (x : Int) (hl : xs.length ≤ 1000000000000)
    (hk : ∀ w' H' b', B ≤ b' → Sl H' 1 w' (xs ++ [x]).length ((xs ++ [x]).map i64) (some b') → Ext (fun z => B ≤ z) H H' → K w' H') :
    AppendV T 1 8 [i64 0] w (.slice (some ⟨H.size, 0, none⟩) 1 1) (H.new T [i64 x]) K := by
  refine pushO (fun b' h => by injection h with h; omega) hB s x hl fun w' H' fp' hf s' e' => ?_
  cases fp' with
  | none =>
    obtain ⟨_, h0, _⟩ := s'
    simp at h0
  | some b' => exact hk w' H' b' (hf b' rfl) s' e'

/-- Just its own block may have changed. -/
theorem pushE {H : Hp} {T b : Nat} {w : Value} {xs : List Int} {K : Value → Hp → Prop} (s : Sl H 1 w xs.length (xs.map i64) (some b)) (x : Int) (hl : xs.length ≤ 1000000000000)
    (hk : ∀ w' H' b', (b' = b ∨ H.size ≤ b') → Sl H' 1 w' (xs ++ [x]).length ((xs ++ [x]).map i64) (some b') → Ext (fun z => z = b) H H' → K w' H') :
    AppendV T 1 8 [i64 0] w (.slice (some ⟨H.size, 0, none⟩) 1 1) (H.new T [i64 x]) K := by
  have fl : Fresh H (H.new T [i64 x]) := (Ext.refl _ _).new _ _
  refine Sl.append (s.ext fl (fun _ _ h => h)) (Sl.lit_at (size := 1) (n := 1) (xs := [i64 x]) rfl rfl).rd rfl (ones_is [x]) (by omega) ?_
  intro v' H' fp' s' e' hf'
  have e2 : Ext (fun z => z = b) H H' := ⟨Nat.le_trans fl.size e'.size, fun z hz hn => by
    rw [e'.keep z (Nat.lt_of_lt_of_le hz fl.size) (fun h => hn (by injection h with h; exact h.symm)), fl.keep z hz (fun h => h)]⟩
  have s2 : Sl H' 1 v' (xs ++ [x]).length ((xs ++ [x]).map i64) fp' := by rw [List.length_append, List.map_append]; exact s'
  rcases hf' with rfl | ⟨b', rfl, h1, h2⟩
  · exact hk v' H' b (.inl rfl) s2 e2
  · rw [size_new] at h1
    exact hk v' H' b' (.inr (by omega)) s2 e2

/-- Other numbers at the end. -/
theorem pushL {H : Hp} {T B : Nat} {w u : Value} {xs ys : List Int} {fp : Option Nat} {K : Value → Hp → Prop} (hfp : ∀ b, fp = some b → B ≤ b) (hB : B ≤ H.size) (s : Sl H 1 w xs.length (xs.map i64) fp) (r : RdS H 1 u ys.length (ys.map i64)) (hl : xs.length + ys.length ≤ 1000000000000)
    (hk : ∀ w' H' fp', (∀ b, fp' = some b → B ≤ b) → Sl H' 1 w' (xs ++ ys).length ((xs ++ ys).map i64) fp' → Ext (fun z => B ≤ z) H H' → K w' H') :
    AppendV T 1 8 [i64 0] w u H K := by
  refine Sl.append s r rfl (ones_is ys) (by omega) ?_
  intro v' H' fp' s' e' hf'
  refine hk v' H' fp' (fun b hb => ?_) (by rw [List.length_append, List.map_append]; exact s') ⟨e'.size, fun z hz hn => e'.keep z hz (fun h => hn (hfp z h))⟩
  rcases hf' with h | ⟨b', hb', h1, h2⟩
  · exact hfp b (by rw [← h]; exact hb)
  · rw [hb] at hb'; injection hb' with hb'; omega

/-- A slice of numbers that is read, cell by cell. -/
theorem Sl.num {H : Hp} {a : Option Addr} {n c : Nat} {xs : List Int} {b : Nat} (h : Sl H 1 (.slice a n c) n (xs.map i64) (some b)) {i : Nat} {x : Int} (hx : xs[i]? = some x) :
    i < n ∧ a = some ⟨b, 0, none⟩ ∧ ∃ lb, H.own b = some lb ∧ lb[i]? = some (i64 x) := by
  have hl := h.1
  rw [List.length_map, Nat.mul_one] at hl
  have hi := (List.getElem?_eq_some_iff.1 hx).1
  obtain ⟨_, l, c2, hs, ho, hc, hle, ht⟩ := h
  injection hs with hs1 hs2 hs3
  refine ⟨by omega, hs1, l, ho, ?_⟩
  have h7 : (xs.map i64)[i]? = some (i64 x) := by rw [List.getElem?_map, hx]; rfl
  rw [← ht, List.getElem?_take, if_pos (by omega)] at h7
  exact h7

end Go.Proofs.Ytbnaicgmnadkgaa
