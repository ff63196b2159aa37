/-
  Rows in which each thing stands ahead of its children: that going up, and going down, make one again. No memory in sight.
-/
import Derived.Test.YteicchpglnamcaaDown
set_option linter.unusedVariables false
set_option linter.unusedSimpArgs false
namespace Go.Proofs.Yteicchpglnamcaa
open Go Go.Vc

/-- An order of things. -/
structure Strict (lt : Int → Int → Bool) : Prop where
  irr : ∀ a, lt a a = false
  tr : ∀ a b c, lt a b = true → lt b c = true → lt a c = true
  nt : ∀ a b c, lt a b = false → lt b c = false → lt a c = false
  tot : ∀ a b, a ≠ b → lt a b = true ∨ lt b a = true

theorem Strict.asym {lt : Int → Int → Bool} (h : Strict lt) {a b : Int} (hab : lt a b = true) : lt b a = false := by
  cases hba : lt b a with
  | false => rfl
  | true => have := h.tr a b a hab hba; rw [h.irr] at this; cases this

/-- The place above. -/
def pa (d : Int) (j : Nat) : Nat := (((j : Int) - 1) / d).toNat

theorem parentF_pa {d : Int} (hf : FineD d) {i : Int} (h1 : 1 ≤ i) : ∃ p, parentF d i = some p ∧ p.toNat = pa d i.toNat ∧ 0 ≤ p ∧ p < i := by
  have hp : parentF d i = some ((i - 1) / d) := by unfold parentF; rw [if_pos ⟨hf, h1⟩]
  have hb := parentF_lt hp
  refine ⟨_, hp, ?_, hb.1, hb.2⟩
  unfold pa
  rw [show ((i.toNat : Nat) : Int) = i by omega]

theorem pa_lt {d : Int} (hf : FineD d) {j : Nat} (h : 1 ≤ j) : pa d j < j := by
  obtain ⟨p, _, h1, h2, h3⟩ := parentF_pa hf (i := (j : Int)) (by omega)
  simp only [Int.toNat_natCast] at h1
  omega

theorem pa_iff {d : Int} (hf : FineD d) {i j : Nat} (h : 1 ≤ j) : pa d j = i ↔ (d * i + 1 ≤ j ∧ (j : Int) ≤ d * i + d) := by
  have hd := hf.1
  unfold pa
  have e1 := Int.mul_ediv_add_emod ((j : Int) - 1) d
  have e2 := Int.emod_nonneg ((j : Int) - 1) (show d ≠ 0 by omega)
  have e3 := Int.emod_lt_of_pos ((j : Int) - 1) (show 0 < d by omega)
  have e4 : 0 ≤ ((j : Int) - 1) / d := Int.ediv_nonneg (by omega) (by omega)
  constructor
  · intro h
    have : ((j : Int) - 1) / d = i := by omega
    rw [this] at e1
    omega
  · rintro ⟨h1, h2⟩
    have h3 := parent_of_child (d := d) (i := (i : Int)) (j := (j : Int) - d * i) hd (by omega) (by omega) (by omega)
    rw [show d * (i : Int) + ((j : Int) - d * i) - 1 = (j : Int) - 1 by omega] at h3
    omega

theorem getD_set (l : List Int) (i j : Nat) (v : Int) (hi : i < l.length) : (l.set i v).getD j 0 = if i = j then v else l.getD j 0 := by
  rw [List.getD_eq_getElem?_getD, List.getElem?_set, List.getD_eq_getElem?_getD]
  by_cases h : i = j
  · subst h; simp [hi]
  · simp [h]

def HeapL (lt : Int → Int → Bool) (d : Int) (l : List Int) : Prop := ∀ j, 1 ≤ j → j < l.length → lt (l.getD j 0) (l.getD (pa d j) 0) = false

/-- All but the pairs about a place. -/
def HeapBut (lt : Int → Int → Bool) (d : Int) (l : List Int) (i : Nat) : Prop :=
  (∀ j, 1 ≤ j → j < l.length → j ≠ i → pa d j ≠ i → lt (l.getD j 0) (l.getD (pa d j) 0) = false) ∧
  (∀ j, 1 ≤ j → j < l.length → pa d j = i → 1 ≤ i → lt (l.getD j 0) (l.getD (pa d i) 0) = false)

theorem HeapL.but {lt : Int → Int → Bool} (ho : Strict lt) {d : Int} (hf : FineD d) {l : List Int} (h : HeapL lt d l) (i : Nat) : HeapBut lt d l i := by
  refine ⟨fun j h1 h2 _ _ => h j h1 h2, fun j h1 h2 h3 h4 => ?_⟩
  have e1 := h j h1 h2
  have e2 := h i h4 (by have := pa_lt hf h1; omega)
  rw [h3] at e1
  exact ho.nt _ _ _ e1 e2

theorem HeapBut.set {lt : Int → Int → Bool} {d : Int} (hf : FineD d) {l : List Int} {i : Nat} (hi : i < l.length) (h : HeapBut lt d l i) {x : Int} (hB : ∀ j, 1 ≤ j → j < l.length → pa d j = i → lt (l.getD j 0) x = false)
    (hD : 1 ≤ i → lt x (l.getD (pa d i) 0) = false) : HeapL lt d (l.set i x) := by
  intro j h1 h2
  rw [List.length_set] at h2
  rw [getD_set _ _ _ _ hi, getD_set _ _ _ _ hi]
  have hlt := pa_lt hf h1
  by_cases e1 : i = j
  · subst e1
    rw [if_pos rfl, if_neg (by omega)]
    exact hD h1
  · rw [if_neg e1]
    by_cases e2 : i = pa d j
    · rw [if_pos e2]; exact hB j h1 h2 e2.symm
    · rw [if_neg e2]; exact h.1 j h1 h2 (Ne.symm e1) (Ne.symm e2)

/-- Going up makes a heap. -/
theorem up_heap {lt : Int → Int → Bool} (ho : Strict lt) {d : Int} (hf : FineD d) (x : Int) : ∀ (m : Nat) (l : List Int) (pl : Int → Option Int) (i : Int), i.toNat ≤ m → 0 ≤ i → i < l.length → HeapBut lt d l i.toNat →
    (∀ j, 1 ≤ j → j < l.length → pa d j = i.toNat → lt (l.getD j 0) x = false) → HeapL lt d (upM lt d x m l pl i).l := by
  intro m
  induction m with
  | zero =>
    intro l pl i hm h0 hl hA hB
    exact hA.set hf (by omega) hB (fun h => by omega)
  | succ m ih =>
    intro l pl i hm h0 hl hA hB
    by_cases hi : 1 ≤ i
    · obtain ⟨p, hp, hpa, p0, p1⟩ := parentF_pa hf hi
      unfold upM
      rw [hp]
      simp only [hpa]
      cases hlt : lt x (l.getD (pa d i.toNat) 0) with
      | false =>
        exact hA.set hf (by omega) hB (fun _ => hlt)
      | true =>
        simp only [if_true]
        have hil : i.toNat < l.length := by omega
        have hpi := pa_lt hf (j := i.toNat) (by omega)
        refine ih _ _ p (by omega) p0 (by rw [List.length_set]; omega) ⟨fun j h1 h2 h3 h4 => ?_, fun j h1 h2 h3 h4 => ?_⟩ (fun j h1 h2 h3 => ?_)
        · rw [List.length_set] at h2
          rw [hpa] at h3 h4
          rw [getD_set _ _ _ _ hil, getD_set _ _ _ _ hil]
          have e1 : i.toNat ≠ j := fun e => h4 (by rw [← e])
          rw [if_neg e1]
          by_cases e2 : i.toNat = pa d j
          · rw [if_pos e2]
            exact hA.2 j h1 h2 e2.symm (by omega)
          · rw [if_neg e2]
            exact hA.1 j h1 h2 (Ne.symm e1) (Ne.symm e2)
        · rw [List.length_set] at h2
          rw [hpa] at h3 h4 ⊢
          rw [getD_set _ _ _ _ hil, getD_set _ _ _ _ hil]
          have hpp := pa_lt hf h4
          rw [if_neg (show i.toNat ≠ pa d (pa d i.toNat) by omega)]
          have e3 := hA.1 (pa d i.toNat) h4 (by omega) (by omega) (by omega)
          by_cases e1 : i.toNat = j
          · rw [if_pos e1]; exact e3
          · rw [if_neg e1]
            have e4 := hA.1 j h1 h2 (Ne.symm e1) (by omega)
            rw [h3] at e4
            exact ho.nt _ _ _ e4 e3
        · rw [List.length_set] at h2
          rw [hpa] at h3
          rw [getD_set _ _ _ _ hil]
          by_cases e1 : i.toNat = j
          · rw [if_pos e1]; exact ho.asym hlt
          · rw [if_neg e1]
            have e4 := hA.1 j h1 h2 (Ne.symm e1) (by omega)
            rw [h3] at e4
            cases hx : lt (l.getD j 0) x with
            | false => rfl
            | true => have := ho.tr _ _ _ hx hlt; rw [this] at e4; cases e4
    · have hi0 : i = 0 := by omega
      subst hi0
      have hn : parentF d 0 = none := by unfold parentF; rw [if_neg (by omega)]
      unfold upM
      rw [hn]
      exact hA.set hf (by omega) hB (fun h => by simp at h)

/-- Whatever goes up asks no more often than places are above. -/
theorem up_asked (lt : Int → Int → Bool) (d x : Int) : ∀ (m : Nat) (l : List Int) (pl : Int → Option Int) (i : Int), (upM lt d x m l pl i).asked ≤ upF d m i := by
  intro m
  induction m with
  | zero => intro l pl i; simp [upM, upF]
  | succ m ih =>
    intro l pl i
    unfold upM upF
    cases hp : parentF d i with
    | none => simp
    | some p =>
      simp only
      split
      · have := ih (l.set i.toNat (l.getD p.toNat 0)) (setM pl (l.getD p.toNat 0) i) p
        simp only; omega
      · simp only; omega

theorem up_length (lt : Int → Int → Bool) (d x : Int) : ∀ (m : Nat) (l : List Int) (pl : Int → Option Int) (i : Int), (upM lt d x m l pl i).l.length = l.length := by
  intro m
  induction m with
  | zero => intro l pl i; simp [upM]
  | succ m ih =>
    intro l pl i
    unfold upM
    cases hp : parentF d i with
    | none => simp
    | some p =>
      simp only
      split
      · simp [ih]
      · simp

/-- It stays, or it is ahead of what is above, and goes. -/
theorem up_stays {lt : Int → Int → Bool} {d : Int} (hf : FineD d) (x : Int) (l : List Int) (pl : Int → Option Int) (i : Int) (h0 : 0 ≤ i) :
    ((upM lt d x i.toNat l pl i).at_ = i ∧ (upM lt d x i.toNat l pl i).l = l.set i.toNat x ∧ (upM lt d x i.toNat l pl i).pl = setM pl x i ∧ (upM lt d x i.toNat l pl i).asked ≤ 1 ∧ (1 ≤ i → lt x (l.getD (pa d i.toNat) 0) = false)) ∨
    ((upM lt d x i.toNat l pl i).at_ < i ∧ 1 ≤ i ∧ lt x (l.getD (pa d i.toNat) 0) = true) := by
  by_cases hi : 1 ≤ i
  · obtain ⟨p, hp, hpa, p0, p1⟩ := parentF_pa hf hi
    obtain ⟨q, hq⟩ : ∃ q, i.toNat = q + 1 := ⟨i.toNat - 1, by omega⟩
    have low : ∀ (m : Nat) (l : List Int) (pl : Int → Option Int) (i : Int), (upM lt d x m l pl i).at_ ≤ i := by
      intro m
      induction m with
      | zero => intro l pl i; simp [upM]
      | succ m ih =>
        intro l pl i
        unfold upM
        cases hp : parentF d i with
        | none => simp
        | some p =>
          have := parentF_lt hp
          simp only
          split
          · have := ih (l.set i.toNat (l.getD p.toNat 0)) (setM pl (l.getD p.toNat 0) i) p
            simp only; omega
          · simp only; omega
    rw [hq, upM, hp, ← hq]
    simp only [hpa]
    cases hlt : lt x (l.getD (pa d i.toNat) 0) with
    | false => exact .inl ⟨rfl, rfl, rfl, Nat.le_refl _, fun _ => rfl⟩
    | true =>
      have := low q (l.set i.toNat (l.getD (pa d i.toNat) 0)) (setM pl (l.getD (pa d i.toNat) 0) i) p
      exact .inr ⟨by simp only [if_true]; omega, hi, rfl⟩
  · have hi0 : i = 0 := by omega
    subst hi0
    exact .inl ⟨rfl, rfl, rfl, by simp [upM], fun h => by omega⟩

/-- Where things are told to be, but for one that has no place yet: the place i is free for it. -/
def PlH (l : List Int) (pl : Int → Option Int) (i : Int) (x : Int) : Prop :=
  ∀ z, z ≠ x → ∀ k, pl z = some k ↔ (0 ≤ k ∧ k ≠ i ∧ l[k.toNat]? = some z)
/-- Each thing is where it is told to be, and nowhere else. -/
def PlOk (l : List Int) (pl : Int → Option Int) : Prop := ∀ z k, pl z = some k ↔ (0 ≤ k ∧ l[k.toNat]? = some z)

theorem PlOk.hole {l : List Int} {pl : Int → Option Int} (h : PlOk l pl) {i x : Int} (hx : l[i.toNat]? = some x) (h0 : 0 ≤ i) : PlH l pl i x := by
  intro z hz k
  rw [h z k]
  constructor
  · rintro ⟨a, b⟩; exact ⟨a, fun e => by subst e; rw [hx] at b; injection b with b; exact hz b.symm, b⟩
  · rintro ⟨a, _, b⟩; exact ⟨a, b⟩

theorem PlOk.uniq {l : List Int} {pl : Int → Option Int} (h : PlOk l pl) {i j : Nat} {z : Int} (hi : l[i]? = some z) (hj : l[j]? = some z) : i = j := by
  have h1 := (h z i).2 ⟨by omega, by simpa using hi⟩
  have h2 := (h z j).2 ⟨by omega, by simpa using hj⟩
  rw [h1] at h2
  injection h2 with h2
  omega

/-- What is in the row beside the free place. -/
def Oth (l : List Int) (i : Int) (z : Int) : Prop := ∃ k : Nat, (k : Int) ≠ i ∧ l[k]? = some z

theorem PlH.set {l : List Int} {pl : Int → Option Int} {i x : Int} (h : PlH l pl i x) (h0 : 0 ≤ i) (hl : i < l.length) (hx : ¬ Oth l i x) : PlOk (l.set i.toNat x) (setM pl x i) := by
  intro z k
  have hil : i.toNat < l.length := by omega
  by_cases e : z = x
  · subst e
    simp only [setM, if_true]
    constructor
    · intro hk; injection hk with hk; subst hk; exact ⟨h0, by rw [List.getElem?_set_self hil]⟩
    · rintro ⟨a, b⟩
      by_cases e2 : k = i
      · rw [e2]
      · exfalso
        rw [List.getElem?_set_ne (by omega)] at b
        exact hx ⟨k.toNat, by omega, b⟩
  · simp only [setM, if_neg e]
    rw [h z e k]
    constructor
    · rintro ⟨a, b, c⟩; exact ⟨a, by rw [List.getElem?_set_ne (by omega)]; exact c⟩
    · rintro ⟨a, b⟩
      have e2 : k ≠ i := fun e2 => by
        rw [e2, List.getElem?_set_self hil] at b; injection b with b; exact e b.symm
      exact ⟨a, e2, by rw [List.getElem?_set_ne (by omega)] at b; exact b⟩

/-- The free place goes to where y was, and y to where it was. -/
theorem PlH.move {l : List Int} {pl : Int → Option Int} {i p x y : Int} (h : PlH l pl i x) (h0 : 0 ≤ i) (hl : i < l.length) (p0 : 0 ≤ p) (hpi : p ≠ i) (hy : l[p.toNat]? = some y) (hx : ¬ Oth l i x) :
    PlH (l.set i.toNat y) (setM pl y i) p x ∧ (¬ Oth (l.set i.toNat y) p x) ∧ ∀ z, Oth (l.set i.toNat y) p z ↔ Oth l i z := by
  have hil : i.toNat < l.length := by omega
  have hyx : y ≠ x := fun e => hx ⟨p.toNat, by omega, by rw [hy, e]⟩
  have huniq : ∀ k : Int, 0 ≤ k → k ≠ i → l[k.toNat]? = some y → k = p := by
    intro k k0 ki hk
    have h1 := (h y hyx k).2 ⟨k0, ki, hk⟩
    have h2 := (h y hyx p).2 ⟨p0, hpi, hy⟩
    rw [h1] at h2; injection h2
  have hoth : ∀ z, Oth (l.set i.toNat y) p z ↔ Oth l i z := by
    intro z
    constructor
    · rintro ⟨k, k1, k2⟩
      by_cases e : i.toNat = k
      · rw [← e, List.getElem?_set_self hil] at k2
        injection k2 with k2
        subst k2
        exact ⟨p.toNat, by omega, hy⟩
      · rw [List.getElem?_set_ne e] at k2
        exact ⟨k, by omega, k2⟩
    · rintro ⟨k, k1, k2⟩
      by_cases e : (k : Int) = p
      · refine ⟨i.toNat, by omega, ?_⟩
        rw [List.getElem?_set_self hil]
        rw [show k = p.toNat by omega, hy] at k2
        exact k2
      · exact ⟨k, e, by rw [List.getElem?_set_ne (by omega)]; exact k2⟩
  refine ⟨?_, fun hc => hx ((hoth x).1 hc), hoth⟩
  intro z hz k
  by_cases e : z = y
  · subst e
    simp only [setM, if_true]
    constructor
    · intro hk; injection hk with hk; subst hk; exact ⟨h0, by omega, by rw [List.getElem?_set_self hil]⟩
    · rintro ⟨a, b, c⟩
      by_cases e2 : k = i
      · rw [e2]
      · rw [List.getElem?_set_ne (by omega)] at c
        exact absurd (huniq k a e2 c) b
  · simp only [setM, if_neg e]
    rw [h z hz k]
    constructor
    · rintro ⟨a, b, c⟩
      refine ⟨a, fun e2 => ?_, by rw [List.getElem?_set_ne (by omega)]; exact c⟩
      rw [e2, hy] at c; injection c with c; exact e c.symm
    · rintro ⟨a, b, c⟩
      have e2 : k ≠ i := fun e2 => by rw [e2, List.getElem?_set_self hil] at c; injection c with c; exact e c.symm
      exact ⟨a, e2, by rw [List.getElem?_set_ne (by omega)] at c; exact c⟩

theorem mem_set {l : List Int} {i : Nat} (hi : i < l.length) (x z : Int) : z ∈ l.set i x ↔ z = x ∨ Oth l i z := by
  constructor
  · intro h
    obtain ⟨k, hk⟩ := List.getElem?_of_mem h
    by_cases e : i = k
    · subst e; rw [List.getElem?_set_self hi] at hk; injection hk with hk; exact .inl hk.symm
    · rw [List.getElem?_set_ne e] at hk; exact .inr ⟨k, by omega, hk⟩
  · rintro (rfl | ⟨k, k1, k2⟩)
    · exact List.mem_of_getElem? (i := i) (List.getElem?_set_self hi)
    · exact List.mem_of_getElem? (i := k) (by rw [List.getElem?_set_ne (by omega)]; exact k2)

/-- Going up keeps track of all. -/
theorem up_places {lt : Int → Int → Bool} {d : Int} (x : Int) : ∀ (m : Nat) (l : List Int) (pl : Int → Option Int) (i : Int), i.toNat ≤ m → 0 ≤ i → i < l.length → PlH l pl i x → ¬ Oth l i x →
    PlOk (upM lt d x m l pl i).l (upM lt d x m l pl i).pl ∧ ∀ z, z ∈ (upM lt d x m l pl i).l ↔ z = x ∨ Oth l i z := by
  intro m
  induction m with
  | zero =>
    intro l pl i hm h0 hl hP hx
    exact ⟨hP.set h0 hl hx, fun z => by have := mem_set (l := l) (i := i.toNat) (by omega) x z; rw [show ((i.toNat : Nat) : Int) = i by omega] at this; exact this⟩
  | succ m ih =>
    intro l pl i hm h0 hl hP hx
    have hend : PlOk (l.set i.toNat x) (setM pl x i) ∧ ∀ z, z ∈ l.set i.toNat x ↔ z = x ∨ Oth l i z :=
      ⟨hP.set h0 hl hx, fun z => by have := mem_set (l := l) (i := i.toNat) (by omega) x z; rw [show ((i.toNat : Nat) : Int) = i by omega] at this; exact this⟩
    unfold upM
    cases hp : parentF d i with
    | none => exact hend
    | some p =>
      have hb := parentF_lt hp
      simp only
      split
      · have hy : l[p.toNat]? = some (l.getD p.toNat 0) := by
          rw [List.getD_eq_getElem?_getD, List.getElem?_eq_getElem (by omega)]; rfl
        obtain ⟨m1, m2, m3⟩ := hP.move h0 hl hb.1 (by omega) hy hx
        obtain ⟨r1, r2⟩ := ih (l.set i.toNat (l.getD p.toNat 0)) (setM pl (l.getD p.toNat 0) i) p (by omega) hb.1 (by rw [List.length_set]; omega) m1 m2
        exact ⟨r1, fun z => by rw [r2 z, m3 z]⟩
      · exact hend

/-- Of the children the one that is ahead. -/
theorem bestM_least {lt : Int → Int → Bool} (ho : Strict lt) (l : List Int) (d i : Int) (h : 0 ≤ d * i) : ∀ (m : Nat) (best : Int), (m : Int) ≤ d - 1 → d * i + 1 ≤ best → best < l.length →
    (∀ c : Int, d * i + 1 ≤ c → c ≤ d * i + (d - m) → c < l.length → lt (l.getD c.toNat 0) (l.getD best.toNat 0) = false) →
    ∀ c : Int, d * i + 1 ≤ c → c ≤ d * i + d → c < l.length → lt (l.getD c.toNat 0) (l.getD (bestM lt l d i m best).1.toNat 0) = false := by
  intro m
  induction m with
  | zero => intro best _ _ _ hc c c1 c2 c3; exact hc c c1 (by omega) c3
  | succ m ih =>
    intro best hm h1 h2 hc c c1 c2 c3
    unfold bestM
    split
    · rename_i hlt
      simp only
      split
      · rename_i hl
        refine ih _ (by omega) (by omega) (by omega) (fun e e1 e2 e3 => ?_) c c1 c2 c3
        by_cases he : e = d * i + (d - m)
        · rw [he]; exact ho.irr _
        · have := hc e e1 (by omega) e3
          cases hx : lt (l.getD e.toNat 0) (l.getD (d * i + (d - (m : Int))).toNat 0) with
          | false => rfl
          | true =>
            have := ho.tr _ _ _ hx hl
            simp_all
      · rename_i hl
        refine ih _ (by omega) h1 h2 (fun e e1 e2 e3 => ?_) c c1 c2 c3
        by_cases he : e = d * i + (d - m)
        · rw [he]; simpa using hl
        · exact hc e e1 (by omega) e3
    · rename_i hlt
      refine ih _ (by omega) h1 h2 (fun e e1 e2 e3 => ?_) c c1 c2 c3
      by_cases he : e = d * i + (d - m)
      · omega
      · exact hc e e1 (by omega) e3

/-- Going down makes a heap. -/
theorem down_heap {lt : Int → Int → Bool} (ho : Strict lt) {d : Int} (hf : FineD d) (x : Int) : ∀ (m : Nat) (l : List Int) (pl : Int → Option Int) (i : Int), l.length ≤ i.toNat + m → 0 ≤ i → i < l.length → HeapBut lt d l i.toNat →
    (1 ≤ i → lt x (l.getD (pa d i.toNat) 0) = false) → HeapL lt d (downM lt d x m l pl i).1 := by
  intro m
  induction m with
  | zero => intro l pl i hm h0 hl; omega
  | succ m ih =>
    intro l pl i hm h0 hl hA hD
    have hdd := hf.1
    have hdi : 0 ≤ d * i := Int.mul_nonneg (by omega) h0
    have hit : ((i.toNat : Nat) : Int) = i := by omega
    have hch : ∀ j : Nat, 1 ≤ j → (pa d j = i.toNat ↔ (d * i + 1 ≤ j ∧ (j : Int) ≤ d * i + d)) := fun j hj => by have := pa_iff hf (i := i.toNat) hj; rw [hit] at this; exact this
    unfold downM
    split
    · rename_i hc
      exact hA.set hf (by omega) (fun j h1 h2 h3 => by have := (hch j h1).1 h3; omega) (fun h => hD (by omega))
    · rename_i hc
      have hb := bestM_bound lt l d i hdi (d - 1).toNat (d * i + 1) (by omega) (by omega) (by omega)
      have hb2 : (bestM lt l d i (d - 1).toNat (d * i + 1)).1 ≤ d * i + d := by
        have key : ∀ (m : Nat) (best : Int), (m : Int) ≤ d - 1 → best ≤ d * i + d → (bestM lt l d i m best).1 ≤ d * i + d := by
          intro m
          induction m with
          | zero => intro best _ h; exact h
          | succ m ih =>
            intro best hm h
            unfold bestM
            split
            · simp only; split
              · exact ih _ (by omega) (by omega)
              · exact ih _ (by omega) h
            · exact ih _ (by omega) h
        exact key _ _ (by omega) (by omega)
      have hbl := bestM_least ho l d i hdi (d - 1).toNat (d * i + 1) (by omega) (by omega) (by omega) (fun c c1 c2 c3 => by rw [show c = d * i + 1 by omega]; exact ho.irr _)
      have hlt := below_more hf h0 hb.1
      generalize bestM lt l d i (d - 1).toNat (d * i + 1) = B at *
      obtain ⟨b, q⟩ := B
      simp only at hb hb2 hbl hlt
      have hbp : pa d b.toNat = i.toNat := (hch b.toNat (by omega)).2 ⟨by omega, by omega⟩
      have hil : i.toNat < l.length := by omega
      have hleast : ∀ j, 1 ≤ j → j < l.length → pa d j = i.toNat → lt (l.getD j 0) (l.getD b.toNat 0) = false := fun j h1 h2 h3 => by
        have h4 := (hch j h1).1 h3
        have := hbl j h4.1 h4.2 (by omega)
        simpa using this
      simp only
      by_cases hy : lt (l.getD b.toNat 0) x = true
      · rw [if_pos hy]
        refine ih _ _ b (by rw [List.length_set]; omega) (by omega) (by rw [List.length_set]; omega) ⟨fun j h1 h2 h3 h4 => ?_, fun j h1 h2 h3 h4 => ?_⟩ (fun _ => ?_)
        · rw [List.length_set] at h2
          rw [getD_set _ _ _ _ hil, getD_set _ _ _ _ hil]
          have hpj := pa_lt hf h1
          by_cases e1 : i.toNat = j
          · subst e1
            rw [if_pos rfl, if_neg (by omega)]
            have := hA.2 b.toNat (by omega) (by omega) hbp h1
            exact this
          · rw [if_neg e1]
            by_cases e2 : i.toNat = pa d j
            · rw [if_pos e2]; exact hleast j h1 h2 e2.symm
            · rw [if_neg e2]; exact hA.1 j h1 h2 (Ne.symm e1) (Ne.symm e2)
        · rw [List.length_set] at h2
          rw [hbp, getD_set _ _ _ _ hil, getD_set _ _ _ _ hil, if_pos rfl]
          have hpj := pa_lt hf h1
          rw [if_neg (by omega)]
          have := hA.1 j h1 h2 (by omega) (by omega)
          rw [h3] at this
          exact this
        · rw [hbp, getD_set _ _ _ _ hil, if_pos rfl]
          exact ho.asym hy
      · rw [if_neg hy]
        exact hA.set hf hil (fun j h1 h2 h3 => ho.nt _ _ _ (hleast j h1 h2 h3) (by simpa using hy)) (fun h => hD (by omega))

theorem down_length (lt : Int → Int → Bool) (d x : Int) : ∀ (m : Nat) (l : List Int) (pl : Int → Option Int) (i : Int), (downM lt d x m l pl i).1.length = l.length := by
  intro m
  induction m with
  | zero => intro l pl i; simp [downM]
  | succ m ih =>
    intro l pl i
    unfold downM
    split
    · simp
    · simp only
      split
      · simp [ih]
      · simp

theorem down_places {lt : Int → Int → Bool} {d : Int} (hf : FineD d) (x : Int) : ∀ (m : Nat) (l : List Int) (pl : Int → Option Int) (i : Int), 0 ≤ i → i < l.length → PlH l pl i x → ¬ Oth l i x →
    PlOk (downM lt d x m l pl i).1 (downM lt d x m l pl i).2.1 ∧ ∀ z, z ∈ (downM lt d x m l pl i).1 ↔ z = x ∨ Oth l i z := by
  intro m
  induction m with
  | zero =>
    intro l pl i h0 hl hP hx
    exact ⟨hP.set h0 hl hx, fun z => by have := mem_set (l := l) (i := i.toNat) (by omega) x z; rw [show ((i.toNat : Nat) : Int) = i by omega] at this; exact this⟩
  | succ m ih =>
    intro l pl i h0 hl hP hx
    have hend : PlOk (l.set i.toNat x) (setM pl x i) ∧ ∀ z, z ∈ l.set i.toNat x ↔ z = x ∨ Oth l i z :=
      ⟨hP.set h0 hl hx, fun z => by have := mem_set (l := l) (i := i.toNat) (by omega) x z; rw [show ((i.toNat : Nat) : Int) = i by omega] at this; exact this⟩
    have hdd := hf.1
    have hdi : 0 ≤ d * i := Int.mul_nonneg (by omega) h0
    unfold downM
    split
    · exact hend
    · have hb := bestM_bound lt l d i hdi (d - 1).toNat (d * i + 1) (by omega) (by omega) (by omega)
      have hlt := below_more hf h0 hb.1
      simp only
      split
      · have hy : l[(bestM lt l d i (d - 1).toNat (d * i + 1)).1.toNat]? = some (l.getD (bestM lt l d i (d - 1).toNat (d * i + 1)).1.toNat 0) := by
          rw [List.getD_eq_getElem?_getD, List.getElem?_eq_getElem (by omega)]; rfl
        obtain ⟨m1, m2, m3⟩ := hP.move h0 hl (by omega) (by omega) hy hx
        obtain ⟨r1, r2⟩ := ih _ _ _ (by omega) (by rw [List.length_set]; omega) m1 m2
        exact ⟨r1, fun z => by rw [r2 z, m3 z]⟩
      · exact hend

/-- How deep a place is. -/
def upN (d i : Int) : Nat := upF d i.toNat i

theorem upN_child {d i p : Int} (h : parentF d i = some p) : upN d i = upN d p + 1 := upF_some h _ (Nat.le_refl _)

theorem upN_mono {d : Int} (hf : FineD d) : ∀ (m : Nat) (i j : Int), j.toNat ≤ m → i ≤ j → upN d i ≤ upN d j := by
  intro m
  induction m with
  | zero =>
    intro i j hm hij
    have : upN d i = 0 := by unfold upN; rw [show i.toNat = 0 by omega]; rfl
    omega
  | succ m ih =>
    intro i j hm hij
    by_cases hi : 1 ≤ i
    · have hdd := hf.1
      have hp : parentF d i = some ((i - 1) / d) := by unfold parentF; rw [if_pos ⟨hf, hi⟩]
      have hq : parentF d j = some ((j - 1) / d) := by unfold parentF; rw [if_pos ⟨hf, by omega⟩]
      have hb := parentF_lt hq
      rw [upN_child hp, upN_child hq]
      have := ih ((i - 1) / d) ((j - 1) / d) (by omega) (Int.ediv_le_ediv (by omega) (by omega))
      omega
    · have : upN d i = 0 := by
        unfold upN
        have hn : parentF d i = none := by unfold parentF; rw [if_neg (by omega)]
        cases i.toNat <;> simp [upF, hn]
      omega

theorem bestM_asked (lt : Int → Int → Bool) (l : List Int) (d i : Int) : ∀ (m : Nat) (best : Int), (bestM lt l d i m best).2 ≤ m := by
  intro m
  induction m with
  | zero => intro best; simp [bestM]
  | succ m ih =>
    intro best
    unfold bestM
    split
    · simp only
      have := ih (if lt (l.getD (d * i + (d - m)).toNat 0) (l.getD best.toNat 0) = true then d * i + (d - m) else best)
      omega
    · have := ih best; omega

theorem down_asked {lt : Int → Int → Bool} {d : Int} (hf : FineD d) (x : Int) : ∀ (m : Nat) (l : List Int) (pl : Int → Option Int) (i : Int), l.length ≤ i.toNat + m → 0 ≤ i → i < l.length →
    ((downM lt d x m l pl i).2.2 : Int) + d * (upN d i : Nat) ≤ d * (upN d ((l.length : Int) - 1) : Nat) := by
  intro m
  induction m with
  | zero => intro l pl i hm h0 hl; omega
  | succ m ih =>
    intro l pl i hm h0 hl
    have hdd := hf.1
    have hdi : 0 ≤ d * i := Int.mul_nonneg (by omega) h0
    have hmono : ∀ k, k ≤ (l.length : Int) - 1 → d * (upN d k : Nat) ≤ d * (upN d ((l.length : Int) - 1) : Nat) := fun k hk =>
      Int.mul_le_mul_of_nonneg_left (by have := upN_mono hf ((l.length : Int) - 1).toNat k ((l.length : Int) - 1) (Nat.le_refl _) hk; omega) (by omega)
    unfold downM
    split
    · have := hmono i (by omega); simp only; omega
    · have hb := bestM_bound lt l d i hdi (d - 1).toNat (d * i + 1) (by omega) (by omega) (by omega)
      have hlt := below_more hf h0 hb.1
      have hask := bestM_asked lt l d i (d - 1).toNat (d * i + 1)
      have hb2 : (bestM lt l d i (d - 1).toNat (d * i + 1)).1 ≤ d * i + d := by
        have key : ∀ (m : Nat) (best : Int), (m : Int) ≤ d - 1 → best ≤ d * i + d → (bestM lt l d i m best).1 ≤ d * i + d := by
          intro m
          induction m with
          | zero => intro best _ h; exact h
          | succ m ih =>
            intro best hm h
            unfold bestM
            split
            · simp only; split
              · exact ih _ (by omega) (by omega)
              · exact ih _ (by omega) h
            · exact ih _ (by omega) h
        exact key _ _ (by omega) (by omega)
      generalize bestM lt l d i (d - 1).toNat (d * i + 1) = B at *
      have hpb : parentF d B.1 = some i := by
        unfold parentF
        rw [if_pos ⟨hf, by omega⟩]
        have := parent_of_child (d := d) (i := i) (j := B.1 - d * i) hdd h0 (by omega) (by omega)
        rw [show d * i + (B.1 - d * i) - 1 = B.1 - 1 by omega] at this
        rw [this]
      have hup := upN_child hpb
      have hmul : d * ((upN d i + 1 : Nat) : Int) = d * (upN d i : Nat) + d := by rw [Int.natCast_add, Int.mul_add]; simp
      simp only
      split
      · have := ih (l.set i.toNat (l.getD B.1.toNat 0)) (setM pl (l.getD B.1.toNat 0) i) B.1 (by rw [List.length_set]; omega) (by omega) (by rw [List.length_set]; omega)
        rw [List.length_set, hup, hmul] at this
        simp only
        omega
      · have := hmono B.1 (by omega)
        rw [hup, hmul] at this
        simp only
        omega

/-- One thing less: what Remove computes. -/
def removeM (lt : Int → Int → Bool) (d x : Int) (l : List Int) (pl : Int → Option Int) (i : Int) : List Int × (Int → Option Int) × Nat :=
  if l.getD (l.length - 1) 0 = x then (l.dropLast, delM pl x, 0)
  else
    let U := upM lt d (l.getD (l.length - 1) 0) i.toNat l.dropLast (delM pl x) i
    if U.at_ = i then
      let D := downM lt d (l.getD (l.length - 1) 0) U.l.length U.l U.pl i
      (D.1, D.2.1, U.asked + D.2.2)
    else (U.l, U.pl, U.asked)

theorem getD_dropLast (l : List Int) (j : Nat) (h : j < l.length - 1) : l.dropLast.getD j 0 = l.getD j 0 := by
  rw [List.getD_eq_getElem?_getD, List.getD_eq_getElem?_getD, List.getElem?_dropLast, if_pos h]

/-- That it is a heap again, with all where it is told to be, and that all but the one are there. -/
theorem remove_spec {lt : Int → Int → Bool} (ho : Strict lt) {d : Int} (hf : FineD d) {x i : Int} {l : List Int} {pl : Int → Option Int} (hh : HeapL lt d l) (hp : PlOk l pl) (hi : pl x = some i) :
    HeapL lt d (removeM lt d x l pl i).1 ∧ PlOk (removeM lt d x l pl i).1 (removeM lt d x l pl i).2.1 ∧ (removeM lt d x l pl i).1.length = l.length - 1 ∧
      (∀ z, z ∈ (removeM lt d x l pl i).1 ↔ z ∈ l ∧ z ≠ x) ∧ ((removeM lt d x l pl i).2.2 : Int) ≤ d * (upN d ((l.length : Int) - 1) : Nat) + 1 := by
  obtain ⟨h0, hx⟩ := (hp x i).1 hi
  have hil : i.toNat < l.length := (List.getElem?_eq_some_iff.1 hx).1
  have hdd := hf.1
  have hlast : l[l.length - 1]? = some (l.getD (l.length - 1) 0) := by
    rw [List.getD_eq_getElem?_getD, List.getElem?_eq_getElem (by omega)]; rfl
  have hdrop : ∀ k, k < l.length - 1 → l.dropLast[k]? = l[k]? := fun k hk => by rw [List.getElem?_dropLast, if_pos hk]
  have hheap : HeapL lt d l.dropLast := by
    intro j h1 h2
    rw [List.length_dropLast] at h2
    have := pa_lt hf h1
    rw [getD_dropLast _ _ h2, getD_dropLast _ _ (by omega)]
    exact hh j h1 (by omega)
  unfold removeM
  split
  · rename_i he
    have hi2 : i.toNat = l.length - 1 := hp.uniq hx (by rw [hlast, he])
    refine ⟨hheap, fun z k => ?_, by simp, fun z => ?_, ?_⟩
    · show delM pl x z = some k ↔ (0 ≤ k ∧ l.dropLast[k.toNat]? = some z)
      unfold delM
      by_cases hz : z = x
      · subst hz
        simp only [if_true]
        constructor
        · intro h; cases h
        · rintro ⟨a, b⟩
          have hk : k.toNat < l.length - 1 := by have := (List.getElem?_eq_some_iff.1 b).1; rwa [List.length_dropLast] at this
          rw [hdrop _ hk] at b
          have := hp.uniq b hx
          omega
      · rw [if_neg hz, hp z k]
        constructor
        · rintro ⟨a, b⟩
          have hk : k.toNat < l.length := (List.getElem?_eq_some_iff.1 b).1
          have hk2 : k.toNat ≠ l.length - 1 := fun e => by rw [e, hlast, he] at b; injection b with b; exact hz b.symm
          exact ⟨a, by rw [hdrop _ (by omega)]; exact b⟩
        · rintro ⟨a, b⟩
          have hk : k.toNat < l.length - 1 := by have := (List.getElem?_eq_some_iff.1 b).1; rwa [List.length_dropLast] at this
          exact ⟨a, by rw [hdrop _ hk] at b; exact b⟩
    · constructor
      · intro h
        obtain ⟨k, hk⟩ := List.getElem?_of_mem h
        have hk1 : k < l.length - 1 := by have := (List.getElem?_eq_some_iff.1 hk).1; rwa [List.length_dropLast] at this
        rw [hdrop _ hk1] at hk
        refine ⟨List.mem_of_getElem? hk, fun e => ?_⟩
        subst e
        have := hp.uniq hk hx
        omega
      · rintro ⟨h, hz⟩
        obtain ⟨k, hk⟩ := List.getElem?_of_mem h
        have hk1 : k < l.length := (List.getElem?_eq_some_iff.1 hk).1
        have hk2 : k ≠ l.length - 1 := fun e => by rw [e, hlast, he] at hk; injection hk with hk; exact hz hk.symm
        exact List.mem_of_getElem? (i := k) (by rw [hdrop _ (by omega)]; exact hk)
    · have : 0 ≤ d * (upN d ((l.length : Int) - 1) : Nat) := Int.mul_nonneg (by omega) (by omega)
      simp only
      omega
  · rename_i hne
    generalize hy : l.getD (l.length - 1) 0 = y at *
    have hi2 : i.toNat < l.length - 1 := by
      rcases Nat.lt_or_ge i.toNat (l.length - 1) with h | h
      · exact h
      · exfalso
        rw [show i.toNat = l.length - 1 by omega, hlast] at hx
        injection hx with hx
        exact hne hx
    have hP : PlH l.dropLast (delM pl x) i y := by
      intro z hz k
      unfold delM
      by_cases e : z = x
      · subst e
        simp only [if_true]
        constructor
        · intro h; cases h
        · rintro ⟨a, b, c⟩
          have hk : k.toNat < l.length - 1 := by have := (List.getElem?_eq_some_iff.1 c).1; rwa [List.length_dropLast] at this
          rw [hdrop _ hk] at c
          have := hp.uniq c hx
          omega
      · rw [if_neg e, hp z k]
        constructor
        · rintro ⟨a, b⟩
          have hk : k.toNat < l.length := (List.getElem?_eq_some_iff.1 b).1
          have hk2 : k.toNat ≠ l.length - 1 := fun e2 => by rw [e2, hlast] at b; injection b with b; exact hz b.symm
          exact ⟨a, fun e2 => by rw [e2, hx] at b; injection b with b; exact e b.symm, by rw [hdrop _ (by omega)]; exact b⟩
        · rintro ⟨a, _, b⟩
          have hk : k.toNat < l.length - 1 := by have := (List.getElem?_eq_some_iff.1 b).1; rwa [List.length_dropLast] at this
          exact ⟨a, by rw [hdrop _ hk] at b; exact b⟩
    have hO : ¬ Oth l.dropLast i y := by
      rintro ⟨k, k1, k2⟩
      have hk : k < l.length - 1 := by have := (List.getElem?_eq_some_iff.1 k2).1; rwa [List.length_dropLast] at this
      rw [hdrop _ hk] at k2
      have := hp.uniq k2 hlast
      omega
    have hmem : ∀ z, (z = y ∨ Oth l.dropLast i z) ↔ (z ∈ l ∧ z ≠ x) := by
      intro z
      constructor
      · rintro (rfl | ⟨k, k1, k2⟩)
        · exact ⟨List.mem_of_getElem? hlast, hne⟩
        · have hk : k < l.length - 1 := by have := (List.getElem?_eq_some_iff.1 k2).1; rwa [List.length_dropLast] at this
          rw [hdrop _ hk] at k2
          refine ⟨List.mem_of_getElem? k2, fun e => ?_⟩
          subst e
          have := hp.uniq k2 hx
          omega
      · rintro ⟨h, hz⟩
        obtain ⟨k, hk⟩ := List.getElem?_of_mem h
        have hk1 : k < l.length := (List.getElem?_eq_some_iff.1 hk).1
        by_cases e : k = l.length - 1
        · rw [e, hlast] at hk; injection hk with hk; exact .inl hk.symm
        · exact .inr ⟨k, fun e2 => hz (by rw [show k = i.toNat by omega, hx] at hk; injection hk with hk; exact hk.symm), by rw [hdrop _ (by omega)]; exact hk⟩
    have hlen : (i : Int) < l.dropLast.length := by rw [List.length_dropLast]; omega
    have hbut := hheap.but ho hf i.toNat
    have hup := up_places (lt := lt) (d := d) y i.toNat l.dropLast (delM pl x) i (Nat.le_refl _) h0 hlen hP hO
    have hmono : d * (upN d ((l.length : Int) - 1 - 1) : Nat) ≤ d * (upN d ((l.length : Int) - 1) : Nat) :=
      Int.mul_le_mul_of_nonneg_left (by have := upN_mono hf ((l.length : Int) - 1).toNat ((l.length : Int) - 1 - 1) ((l.length : Int) - 1) (Nat.le_refl _) (by omega); omega) (by omega)
    rcases up_stays hf (lt := lt) y l.dropLast (delM pl x) i h0 with ⟨s1, s2, s3, s4, s5⟩ | ⟨s1, s2, s3⟩
    · simp only
      rw [if_pos s1, s2, s3, List.length_set]
      simp only
      have hil2 : i.toNat < l.dropLast.length := by rw [List.length_dropLast]; omega
      have hset : ∀ j, j ≠ i.toNat → (l.dropLast.set i.toNat y).getD j 0 = l.dropLast.getD j 0 := fun j hj => by rw [getD_set _ _ _ _ hil2, if_neg (Ne.symm hj)]
      have hP2 : PlH (l.dropLast.set i.toNat y) (setM (delM pl x) y i) i y := by
        intro z hz k
        unfold setM
        rw [if_neg hz, hP z hz k]
        constructor
        · rintro ⟨a, b, c⟩; exact ⟨a, b, by rw [List.getElem?_set_ne (by omega)]; exact c⟩
        · rintro ⟨a, b, c⟩; exact ⟨a, b, by rw [List.getElem?_set_ne (by omega)] at c; exact c⟩
      have hoth : ∀ z, Oth (l.dropLast.set i.toNat y) i z ↔ Oth l.dropLast i z := by
        intro z
        constructor
        · rintro ⟨k, k1, k2⟩; exact ⟨k, k1, by rw [List.getElem?_set_ne (by omega)] at k2; exact k2⟩
        · rintro ⟨k, k1, k2⟩; exact ⟨k, k1, by rw [List.getElem?_set_ne (by omega)]; exact k2⟩
      have hl2 : (i : Int) < (l.dropLast.set i.toNat y).length := by rw [List.length_set]; exact hlen
      obtain ⟨d1, d2⟩ := down_places (lt := lt) hf y l.dropLast.length (l.dropLast.set i.toNat y) (setM (delM pl x) y i) i h0 hl2 hP2 (fun hc => hO ((hoth y).1 hc))
      refine ⟨?_, d1, by rw [down_length, List.length_set, List.length_dropLast], fun z => by rw [d2 z, hoth z]; exact hmem z, ?_⟩
      · refine down_heap ho hf y _ _ _ i (by rw [List.length_set]; omega) h0 hl2 ⟨fun j h1 h2 h3 h4 => ?_, fun j h1 h2 h3 h4 => ?_⟩ (fun h => ?_)
        · rw [hset j h3, hset _ h4]; exact hbut.1 j h1 (by simpa using h2) h3 h4
        · have := pa_lt hf h1
          have := pa_lt hf h4
          rw [hset j (by omega), hset _ (by omega)]
          exact hbut.2 j h1 (by simpa using h2) h3 h4
        · have := pa_lt hf (j := i.toNat) (by omega)
          rw [hset _ (by omega)]
          exact s5 h
      · have := down_asked (lt := lt) hf y l.dropLast.length (l.dropLast.set i.toNat y) (setM (delM pl x) y i) i (by rw [List.length_set]; omega) h0 hl2
        have hdl : l.dropLast.length = l.length - 1 := List.length_dropLast
        rw [List.length_set, show ((l.dropLast.length : Nat) : Int) - 1 = (l.length : Int) - 1 - 1 by omega] at this
        have h5 : 0 ≤ d * (upN d i : Nat) := Int.mul_nonneg (by omega) (by omega)
        omega
    · simp only
      rw [if_neg (by omega)]
      have hi1 := pa_lt hf (j := i.toNat) (by omega)
      refine ⟨up_heap ho hf y _ _ _ i (Nat.le_refl _) h0 hlen hbut (fun j h1 h2 h3 => ?_), hup.1, by rw [up_length, List.length_dropLast], fun z => by rw [hup.2 z]; exact hmem z, ?_⟩
      · have e1 := hbut.2 j h1 h2 h3 (by omega)
        cases hxx : lt (l.dropLast.getD j 0) y with
        | false => rfl
        | true => have := ho.tr _ _ _ hxx s3; rw [this] at e1; cases e1
      · have e1 := up_asked lt d y i.toNat l.dropLast (delM pl x) i
        have e2 := upN_mono hf ((l.length : Int) - 1).toNat i ((l.length : Int) - 1) (Nat.le_refl _) (by omega)
        unfold upN at e2 ⊢
        have e3 : (1 : Int) * (upF d ((l.length : Int) - 1).toNat ((l.length : Int) - 1) : Nat) ≤ d * (upF d ((l.length : Int) - 1).toNat ((l.length : Int) - 1) : Nat) :=
          Int.mul_le_mul_of_nonneg_right (by omega) (by omega)
        dsimp only
        omega

/-- What is first is ahead of all. -/
theorem heap_first {lt : Int → Int → Bool} (ho : Strict lt) {d : Int} (hf : FineD d) {l : List Int} (hh : HeapL lt d l) : ∀ (m j : Nat), j ≤ m → j < l.length → lt (l.getD j 0) (l.getD 0 0) = false := by
  intro m
  induction m with
  | zero => intro j hj _; rw [show j = 0 by omega]; exact ho.irr _
  | succ m ih =>
    intro j hj hl
    by_cases h : 1 ≤ j
    · have := pa_lt hf h
      exact ho.nt _ _ _ (hh j h hl) (ih (pa d j) (by omega) (by omega))
    · rw [show j = 0 by omega]; exact ho.irr _

end Go.Proofs.Yteicchpglnamcaa
