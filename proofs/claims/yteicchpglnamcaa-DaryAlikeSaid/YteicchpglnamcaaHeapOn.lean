/-
  A d-ary heap of things, each where it is told to be: one thing more, one less, which comes first.
-/
import Derived.Test.YteicchpglnamcaaHeap
set_option linter.unusedVariables false
set_option linter.unusedSimpArgs false
namespace Go.Proofs.Yteicchpglnamcaa
open Go Go.Vc

/-- A heap of things, each where it is told to be. -/
structure HeapOn (lt : Int → Int → Bool) (d : Int) (l : List Int) (pl : Int → Option Int) : Prop where
  heap : HeapL lt d l
  pl : PlOk l pl

theorem HeapOn.nil (lt : Int → Int → Bool) (d : Int) : HeapOn lt d [] (fun _ => none) :=
  ⟨fun j _ h => by simp at h, fun z k => by simp⟩

theorem HeapOn.congr {lt lt' : Int → Int → Bool} {d : Int} (hf : FineD d) {l : List Int} {pl : Int → Option Int} (h : HeapOn lt d l pl) (hfg : ∀ z ∈ l, ∀ y ∈ l, lt z y = lt' z y) : HeapOn lt' d l pl := by
  refine ⟨fun j h1 h2 => ?_, h.pl⟩
  have hp := pa_lt hf h1
  have e : ∀ k, k < l.length → l.getD k 0 ∈ l := fun k hk => by
    rw [List.getD_eq_getElem?_getD, List.getElem?_eq_getElem hk]; exact List.getElem_mem hk
  rw [← hfg _ (e j h2) _ (e _ (show pa d j < l.length by omega))]
  exact h.heap j h1 h2

/-- One thing more. -/
theorem HeapOn.add {lt : Int → Int → Bool} (ho : Strict lt) {d : Int} (hf : FineD d) {l : List Int} {pl : Int → Option Int} (h : HeapOn lt d l pl) {x : Int} (hx : pl x = none) :
    HeapOn lt d (upM lt d x l.length (l ++ [x]) pl l.length).l (upM lt d x l.length (l ++ [x]) pl l.length).pl ∧
      (∀ z, z ∈ (upM lt d x l.length (l ++ [x]) pl l.length).l ↔ z = x ∨ z ∈ l) ∧ (upM lt d x l.length (l ++ [x]) pl l.length).l.length = l.length + 1 ∧
      (upM lt d x l.length (l ++ [x]) pl l.length).asked ≤ upN d l.length := by
  have hdd := hf.1
  have hget : ∀ k, k < l.length → (l ++ [x]).getD k 0 = l.getD k 0 := fun k hk => by
    rw [List.getD_eq_getElem?_getD, List.getD_eq_getElem?_getD, List.getElem?_append_left hk]
  have hch : ∀ j : Nat, 1 ≤ j → j < l.length + 1 → pa d j ≠ l.length := fun j h1 h2 => by have := pa_lt hf h1; omega
  have hP : PlH (l ++ [x]) pl l.length x := by
    intro z hz k
    rw [h.pl z k]
    constructor
    · rintro ⟨a, b⟩
      have hk := (List.getElem?_eq_some_iff.1 b).1
      exact ⟨a, by omega, by rw [List.getElem?_append_left hk]; exact b⟩
    · rintro ⟨a, b, c⟩
      refine ⟨a, ?_⟩
      have hk := (List.getElem?_eq_some_iff.1 c).1
      simp only [List.length_append, List.length_singleton] at hk
      rw [List.getElem?_append_left (by omega)] at c
      exact c
  have hxl : x ∉ l := fun hm => by
    obtain ⟨k, hk⟩ := List.getElem?_of_mem hm
    have := (h.pl x k).2 ⟨by omega, by simpa using hk⟩
    rw [hx] at this; cases this
  have hoth : ∀ z, Oth (l ++ [x]) l.length z ↔ z ∈ l := by
    intro z
    constructor
    · rintro ⟨k, k1, k2⟩
      have hk := (List.getElem?_eq_some_iff.1 k2).1
      simp only [List.length_append, List.length_singleton] at hk
      rw [List.getElem?_append_left (by omega)] at k2
      exact List.mem_of_getElem? k2
    · intro hm
      obtain ⟨k, hk⟩ := List.getElem?_of_mem hm
      have := (List.getElem?_eq_some_iff.1 hk).1
      exact ⟨k, by omega, by rw [List.getElem?_append_left this]; exact hk⟩
  obtain ⟨p1, p2⟩ := up_places (lt := lt) (d := d) x l.length (l ++ [x]) pl l.length (by simp) (by omega) (by simp; omega) hP (fun hc => hxl ((hoth x).1 hc))
  refine ⟨⟨up_heap ho hf x _ _ _ _ (by simp) (by omega) (by simp; omega) ⟨fun j h1 h2 h3 h4 => ?_, fun j h1 h2 h3 h4 => ?_⟩ (fun j h1 h2 h3 => ?_), p1⟩, fun z => by rw [p2 z, hoth z], by rw [up_length]; simp, ?_⟩
  · simp only [Int.toNat_natCast] at h3 h4
    have : j < l.length := by simp at h2; omega
    have hp := pa_lt hf h1
    rw [hget j this, hget _ (by omega)]
    exact h.heap j h1 this
  · simp only [Int.toNat_natCast] at h3
    exact absurd h3 (hch j h1 (by simpa using h2))
  · simp only [Int.toNat_natCast] at h3
    exact absurd h3 (hch j h1 (by simpa using h2))
  · have := up_asked lt d x l.length (l ++ [x]) pl l.length
    unfold upN
    simpa using this

theorem HeapOn.remove {lt : Int → Int → Bool} (ho : Strict lt) {d : Int} (hf : FineD d) {l : List Int} {pl : Int → Option Int} (h : HeapOn lt d l pl) {x i : Int} (hx : pl x = some i) :
    HeapOn lt d (removeM lt d x l pl i).1 (removeM lt d x l pl i).2.1 ∧ (removeM lt d x l pl i).1.length = l.length - 1 ∧
      (∀ z, z ∈ (removeM lt d x l pl i).1 ↔ z ∈ l ∧ z ≠ x) ∧ ((removeM lt d x l pl i).2.2 : Int) ≤ d * (upN d ((l.length : Int) - 1) : Nat) + 1 := by
  obtain ⟨a, b, c, e, g⟩ := remove_spec ho hf h.heap h.pl hx
  exact ⟨⟨a, b⟩, c, e, g⟩

theorem HeapOn.mem {lt : Int → Int → Bool} {d : Int} {l : List Int} {pl : Int → Option Int} (h : HeapOn lt d l pl) (z : Int) : z ∈ l ↔ pl z ≠ none := by
  constructor
  · intro hm
    obtain ⟨k, hk⟩ := List.getElem?_of_mem hm
    rw [(h.pl z k).2 ⟨by omega, by simpa using hk⟩]
    simp
  · intro hn
    obtain ⟨k, hk⟩ := Option.ne_none_iff_exists'.1 hn
    exact List.mem_of_getElem? ((h.pl z k).1 hk).2

theorem HeapOn.least {lt : Int → Int → Bool} (ho : Strict lt) {d : Int} (hf : FineD d) {l : List Int} {pl : Int → Option Int} (h : HeapOn lt d l pl) {x : Int} (hx : l[0]? = some x) : ∀ z ∈ l, z ≠ x → lt x z = true := by
  intro z hz hne
  obtain ⟨k, hk⟩ := List.getElem?_of_mem hz
  have hkl := (List.getElem?_eq_some_iff.1 hk).1
  have := heap_first ho hf h.heap k k (Nat.le_refl _) hkl
  rw [List.getD_eq_getElem?_getD, List.getD_eq_getElem?_getD, hk, hx] at this
  rcases ho.tot x z (Ne.symm hne) with h1 | h1
  · exact h1
  · simp only [Option.getD_some] at this
    rw [h1] at this; cases this

/-- A thing goes ahead of others (none goes ahead of it). -/
theorem HeapOn.raise {lt lt' : Int → Int → Bool} (ho : Strict lt) (ho' : Strict lt') {d : Int} (hf : FineD d) {l : List Int} {pl : Int → Option Int} (h : HeapOn lt d l pl) {x i : Int} (hx : pl x = some i) (hlt : ∀ a ∈ l, ∀ b ∈ l, a ≠ x → b ≠ x → lt' a b = lt a b) (hdn : ∀ z ∈ l, z ≠ x → lt z x = false → lt' z x = false) :
    HeapOn lt' d (upM lt' d x i.toNat l pl i).l (upM lt' d x i.toNat l pl i).pl ∧ (∀ z, z ∈ (upM lt' d x i.toNat l pl i).l ↔ z ∈ l) ∧ (upM lt' d x i.toNat l pl i).l.length = l.length ∧
      (upM lt' d x i.toNat l pl i).asked ≤ upN d ((l.length : Int) - 1) := by
  obtain ⟨i0, hi⟩ := (h.pl x i).1 hx
  have hil : i.toNat < l.length := (List.getElem?_eq_some_iff.1 hi).1
  have hat : ∀ j, j < l.length → j ≠ i.toNat → l.getD j 0 ≠ x := fun j hj hne e => by
    have : l[j]? = some x := by rw [List.getElem?_eq_getElem hj, ← e, List.getD_eq_getElem?_getD, List.getElem?_eq_getElem hj]; rfl
    exact hne (h.pl.uniq this hi)
  have hin : ∀ j, j < l.length → l.getD j 0 ∈ l := fun j hj => by rw [List.getD_eq_getElem?_getD, List.getElem?_eq_getElem hj]; exact List.getElem_mem hj
  have hbut := h.heap.but ho hf i.toNat
  have hO : ¬ Oth l i x := by
    rintro ⟨k, k1, k2⟩
    have := h.pl.uniq k2 hi
    omega
  obtain ⟨p1, p2⟩ := up_places (lt := lt') (d := d) x i.toNat l pl i (Nat.le_refl _) i0 (by omega) (h.pl.hole hi i0) hO
  refine ⟨⟨up_heap ho' hf x _ _ _ _ (Nat.le_refl _) i0 (by omega) ⟨fun j h1 h2 h3 h4 => ?_, fun j h1 h2 h3 h4 => ?_⟩ (fun j h1 h2 h3 => ?_), p1⟩, fun z => ?_, up_length _ _ _ _ _ _ _, ?_⟩
  · have := pa_lt hf h1
    rw [hlt _ (hin j h2) _ (hin _ (by omega)) (hat j h2 h3) (hat _ (by omega) h4)]
    exact hbut.1 j h1 h2 h3 h4
  · have := pa_lt hf h1
    have := pa_lt hf h4
    rw [hlt _ (hin j h2) _ (hin _ (by omega)) (hat j h2 (by omega)) (hat _ (by omega) (by omega))]
    exact hbut.2 j h1 h2 h3 h4
  · have hpj := pa_lt hf h1
    have hne := hat j h2 (by omega)
    have := h.heap j h1 h2
    rw [h3, show l.getD i.toNat 0 = x by rw [List.getD_eq_getElem?_getD, hi]; rfl] at this
    exact hdn _ (hin j h2) hne this
  · rw [p2 z]
    constructor
    · rintro (rfl | ⟨k, _, k2⟩)
      · exact List.mem_of_getElem? hi
      · exact List.mem_of_getElem? k2
    · intro hm
      obtain ⟨k, hk⟩ := List.getElem?_of_mem hm
      by_cases e : (k : Int) = i
      · rw [show k = i.toNat by omega, hi] at hk; injection hk with hk; exact .inl hk.symm
      · exact .inr ⟨k, e, hk⟩
  · have e1 := up_asked lt' d x i.toNat l pl i
    have e2 := upN_mono hf ((l.length : Int) - 1).toNat i ((l.length : Int) - 1) (Nat.le_refl _) (by omega)
    unfold upN at e2 ⊢
    omega

end Go.Proofs.Yteicchpglnamcaa
