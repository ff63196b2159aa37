/-
  Rows in which two things change places: that going up, and going down, make a heap again. No memory in sight.
-/
import Derived.Test.YteicchpglnamcaaHeap
set_option linter.unusedVariables false
namespace Go.Proofs.Yteicchpglnamcaa
open Go Go.Vc

theorem fine2 : FineD 2 := ⟨by omega, by omega⟩

/-- Two things change places. -/
def swp (l : List Int) (i j : Nat) : List Int := (l.set i (l.getD j 0)).set j (l.getD i 0)

theorem swp_length (l : List Int) (i j : Nat) : (swp l i j).length = l.length := by unfold swp; simp

theorem getD_swp {l : List Int} {i j : Nat} (hi : i < l.length) (hj : j < l.length) (k : Nat) : (swp l i j).getD k 0 = if k = j then l.getD i 0 else if k = i then l.getD j 0 else l.getD k 0 := by
  unfold swp
  rw [getD_set _ _ _ _ (by simpa using hj), getD_set _ _ _ _ hi]
  by_cases h1 : j = k
  · subst h1; simp
  · rw [if_neg h1, if_neg (Ne.symm h1)]
    by_cases h2 : i = k
    · subst h2; simp
    · rw [if_neg h2, if_neg (Ne.symm h2)]

theorem get_swp {l : List Int} {i j : Nat} (hi : i < l.length) (hj : j < l.length) (k : Nat) : (swp l i j)[k]? = if k = j then l[i]? else if k = i then l[j]? else l[k]? := by
  have hl := swp_length l i j
  have hg := getD_swp hi hj k
  by_cases hk : k < l.length
  · rw [List.getElem?_eq_getElem (by omega)]
    rw [List.getD_eq_getElem?_getD, List.getElem?_eq_getElem (by omega)] at hg
    simp only [Option.getD_some] at hg
    rw [hg]
    have e : ∀ q, q < l.length → l[q]? = some (l.getD q 0) := fun q hq => by rw [List.getD_eq_getElem?_getD, List.getElem?_eq_getElem hq]; rfl
    split
    · rw [e i hi]
    · split
      · rw [e j hj]
      · rw [e k hk]
  · rw [List.getElem?_eq_none (by omega), if_neg (by omega), if_neg (by omega), List.getElem?_eq_none (by omega)]

theorem mem_swp {l : List Int} {i j : Nat} (hi : i < l.length) (hj : j < l.length) (z : Int) : z ∈ swp l i j ↔ z ∈ l := by
  constructor
  · intro h
    obtain ⟨k, hk⟩ := List.getElem?_of_mem h
    rw [get_swp hi hj] at hk
    split at hk
    · exact List.mem_of_getElem? hk
    · split at hk
      · exact List.mem_of_getElem? hk
      · exact List.mem_of_getElem? hk
  · intro h
    obtain ⟨k, hk⟩ := List.getElem?_of_mem h
    by_cases h1 : k = i
    · subst h1
      refine List.mem_of_getElem? (i := j) ?_
      rw [get_swp hi hj, if_pos rfl, hk]
    · by_cases h2 : k = j
      · subst h2
        refine List.mem_of_getElem? (i := i) ?_
        rw [get_swp hi hj]
        by_cases h3 : i = k
        · exact absurd h3.symm h1
        · rw [if_neg h3, if_pos rfl, hk]
      · refine List.mem_of_getElem? (i := k) ?_
        rw [get_swp hi hj, if_neg h2, if_neg h1, hk]

theorem take_swp {l : List Int} {i j m : Nat} (hi : i < m) (hj : j < m) (hm : m ≤ l.length) : (swp l i j).take m = swp (l.take m) i j := by
  apply List.ext_getElem?
  intro k
  rw [get_swp (by rw [List.length_take]; omega) (by rw [List.length_take]; omega), List.getElem?_take, get_swp (by omega) (by omega), List.getElem?_take, List.getElem?_take, List.getElem?_take]
  rw [if_pos hi, if_pos hj]
  by_cases hk : k < m
  · simp only [if_pos hk]
  · simp only [if_neg hk, if_neg (show k ≠ j by omega), if_neg (show k ≠ i by omega)]

theorem drop_swp {l : List Int} {i j m : Nat} (hi : i < m) (hj : j < m) (hm : m ≤ l.length) : (swp l i j).drop m = l.drop m := by
  apply List.ext_getElem?
  intro k
  rw [List.getElem?_drop, List.getElem?_drop, get_swp (by omega) (by omega), if_neg (by omega), if_neg (by omega)]

/-- What is above no child is a heap. -/
theorem HeapBut.heap {lt : Int → Int → Bool} {l : List Int} {i : Nat} (h : HeapBut lt 2 l i) (hB : ∀ j, 1 ≤ j → j < l.length → pa 2 j = i → lt (l.getD j 0) (l.getD i 0) = false)
    (hD : 1 ≤ i → i < l.length → lt (l.getD i 0) (l.getD (pa 2 i) 0) = false) : HeapL lt 2 l := by
  intro j h1 h2
  by_cases e1 : j = i
  · subst e1; exact hD h1 h2
  · by_cases e2 : pa 2 j = i
    · rw [e2]; exact hB j h1 h2 e2
    · exact h.1 j h1 h2 e1 e2

theorem but_up {lt : Int → Int → Bool} (ho : Strict lt) {l : List Int} {i : Nat} (hi : 1 ≤ i) (hl : i < l.length) (hA : HeapBut lt 2 l i) (hB : ∀ j, 1 ≤ j → j < l.length → pa 2 j = i → lt (l.getD j 0) (l.getD i 0) = false)
    (hlt : lt (l.getD i 0) (l.getD (pa 2 i) 0) = true) : HeapBut lt 2 (swp l (pa 2 i) i) (pa 2 i) ∧ ∀ j, 1 ≤ j → j < (swp l (pa 2 i) i).length → pa 2 j = pa 2 i → lt ((swp l (pa 2 i) i).getD j 0) ((swp l (pa 2 i) i).getD (pa 2 i) 0) = false := by
  have hp := pa_lt fine2 hi
  have g := getD_swp (l := l) (i := pa 2 i) (j := i) (by omega) hl
  rw [swp_length]
  have hsib : ∀ j, 1 ≤ j → j < l.length → pa 2 j = pa 2 i → j ≠ i → lt (l.getD j 0) (l.getD i 0) = false := fun j h1 h2 h3 h4 => by
    have e4 := hA.1 j h1 h2 h4 (by omega)
    rw [h3] at e4
    cases hx : lt (l.getD j 0) (l.getD i 0) with
    | false => rfl
    | true => have := ho.tr _ _ _ hx hlt; rw [this] at e4; cases e4
  refine ⟨⟨fun j h1 h2 h3 h4 => ?_, fun j h1 h2 h3 h4 => ?_⟩, fun j h1 h2 h3 => ?_⟩
  · rw [swp_length] at h2
    have hpj := pa_lt fine2 h1
    rw [g, g, if_neg h4]
    by_cases e1 : j = i
    · subst e1; exact absurd rfl h4
    · rw [if_neg e1, if_neg h3]
      by_cases e2 : pa 2 j = i
      · rw [if_pos e2]
        exact hA.2 j h1 h2 e2 (by omega)
      · rw [if_neg e2]; exact hA.1 j h1 h2 e1 e2
  · rw [swp_length] at h2
    have hpp := pa_lt fine2 h4
    rw [g, g, if_neg (show pa 2 (pa 2 i) ≠ i by omega), if_neg (show pa 2 (pa 2 i) ≠ pa 2 i by omega)]
    have e3 := hA.1 (pa 2 i) h4 (by omega) (by omega) (by omega)
    by_cases e1 : j = i
    · rw [if_pos e1]; exact e3
    · have hpj := pa_lt fine2 h1
      rw [if_neg e1, if_neg (by omega)]
      have e4 := hA.1 j h1 h2 e1 (by omega)
      rw [h3] at e4
      exact ho.nt _ _ _ e4 e3
  · have hpj := pa_lt fine2 h1
    rw [g, g, if_neg (show pa 2 i ≠ i by omega), if_pos rfl]
    by_cases e1 : j = i
    · rw [if_pos e1]; exact ho.asym hlt
    · rw [if_neg e1, if_neg (by omega)]
      exact hsib j h1 h2 h3 e1

theorem but_down {lt : Int → Int → Bool} (ho : Strict lt) {l : List Int} {i b : Nat} (hb : 1 ≤ b) (hl : b < l.length) (hp : pa 2 b = i) (hA : HeapBut lt 2 l i) (hleast : ∀ j, 1 ≤ j → j < l.length → pa 2 j = i → lt (l.getD j 0) (l.getD b 0) = false)
    (hlt : lt (l.getD b 0) (l.getD i 0) = true) : HeapBut lt 2 (swp l i b) b ∧ lt ((swp l i b).getD b 0) ((swp l i b).getD (pa 2 b) 0) = false := by
  have hpb := pa_lt fine2 hb
  have g := getD_swp (l := l) (i := i) (j := b) (by omega) hl
  refine ⟨⟨fun j h1 h2 h3 h4 => ?_, fun j h1 h2 h3 h4 => ?_⟩, ?_⟩
  · rw [swp_length] at h2
    have hpj := pa_lt fine2 h1
    rw [g, g, if_neg h3, if_neg h4]
    by_cases e1 : j = i
    · subst e1
      rw [if_pos rfl, if_neg (by omega)]
      exact hA.2 b hb hl hp h1
    · rw [if_neg e1]
      by_cases e2 : pa 2 j = i
      · rw [if_pos e2]; exact hleast j h1 h2 e2
      · rw [if_neg e2]; exact hA.1 j h1 h2 e1 e2
  · rw [swp_length] at h2
    have hpj := pa_lt fine2 h1
    rw [g, g, if_neg (show j ≠ b by omega), if_neg (show j ≠ i by omega), if_neg (show pa 2 b ≠ b by omega), if_pos hp]
    have := hA.1 j h1 h2 (by omega) (by omega)
    rw [h3] at this
    exact this
  · rw [g, g, if_pos rfl, hp, if_neg (show i ≠ b by omega), if_pos rfl]
    exact ho.asym hlt

/-- Of each thing of a row there is told where it is. -/
def AtOk (l at_ : List Int) : Prop := ∀ (i : Nat) (x : Int), l[i]? = some x → 0 ≤ x ∧ at_[x.toNat]? = some (i : Int)

theorem AtOk.uniq {l at_ : List Int} (h : AtOk l at_) {i j : Nat} {x : Int} (hi : l[i]? = some x) (hj : l[j]? = some x) : i = j := by
  have h1 := (h i x hi).2
  have h2 := (h j x hj).2
  rw [h1] at h2
  injection h2 with h2
  omega

/-- The places behind a swap. -/
def atSwp (l at_ : List Int) (i j : Nat) : List Int := (at_.set (l.getD j 0).toNat i).set (l.getD i 0).toNat j

theorem AtOk.swp {l at_ : List Int} (h : AtOk l at_) {i j : Nat} (hi : i < l.length) (hj : j < l.length) (hij : i ≠ j) : AtOk (swp l i j) (atSwp l at_ i j) ∧ (atSwp l at_ i j).length = at_.length ∧ ∀ z : Int, 0 ≤ z → z ∉ l → (atSwp l at_ i j)[z.toNat]? = at_[z.toNat]? := by
  have e : ∀ q, q < l.length → l[q]? = some (l.getD q 0) := fun q hq => by rw [List.getD_eq_getElem?_getD, List.getElem?_eq_getElem hq]; rfl
  obtain ⟨a0, a1⟩ := h i _ (e i hi)
  obtain ⟨b0, b1⟩ := h j _ (e j hj)
  have hal := (List.getElem?_eq_some_iff.1 a1).1
  have hbl := (List.getElem?_eq_some_iff.1 b1).1
  have hne : (l.getD i 0).toNat ≠ (l.getD j 0).toNat := fun h0 => by
    rw [h0, b1] at a1
    injection a1 with a1
    omega
  unfold atSwp
  refine ⟨fun k x hk => ?_, by simp, fun z hz hm => ?_⟩
  · rw [get_swp hi hj] at hk
    split at hk
    · rename_i hkj
      rw [e i hi] at hk
      injection hk with hk
      subst hk
      rw [List.getElem?_set_self (by simpa using hal), hkj]
      exact ⟨a0, rfl⟩
    · split at hk
      · rename_i hkj hki
        rw [e j hj] at hk
        injection hk with hk
        subst hk
        rw [List.getElem?_set_ne hne, List.getElem?_set_self hbl, hki]
        exact ⟨b0, rfl⟩
      · rename_i hkj hki
        obtain ⟨c0, c1⟩ := h k x hk
        have n1 : (l.getD i 0).toNat ≠ x.toNat := fun h0 => by
          rw [h0, c1] at a1; injection a1 with a1; omega
        have n2 : (l.getD j 0).toNat ≠ x.toNat := fun h0 => by
          rw [h0, c1] at b1; injection b1 with b1; omega
        rw [List.getElem?_set_ne n1, List.getElem?_set_ne n2]
        exact ⟨c0, c1⟩
  · have n1 : (l.getD i 0).toNat ≠ z.toNat := fun h0 => hm (by rw [show z = l.getD i 0 by omega]; exact List.mem_of_getElem? (e i hi))
    have n2 : (l.getD j 0).toNat ≠ z.toNat := fun h0 => hm (by rw [show z = l.getD j 0 by omega]; exact List.mem_of_getElem? (e j hj))
    rw [List.getElem?_set_ne n1, List.getElem?_set_ne n2]

/-- In Go's words the place above. -/
theorem pa2 (j : Nat) : ((pa 2 j : Nat) : Int) = if j = 0 then 0 else ((j : Int) - 1) / 2 := by
  unfold pa
  split
  · rename_i h; subst h; rfl
  · omega

end Go.Proofs.Yteicchpglnamcaa
