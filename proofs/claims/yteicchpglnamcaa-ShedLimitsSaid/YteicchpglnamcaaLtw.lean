/-
  The order of a nest's slots, on all numbers; the first slot of a heap; the order in which a heap's slots come out.
-/
import Derived.Test.YteicchpglnamcaaRef05
import Derived.Test.YteicchpglnamcaaHeap
set_option linter.unusedVariables false
set_option linter.unusedSimpArgs false
namespace Go.Proofs.Yteicchpglnamcaa
open Go Go.Vc

def Nw.key (w : Nw) (a : Int) : Int := (w.cs.getD a.toNat (0, 0, 0)).2.1
def Nw.seq (w : Nw) (a : Int) : Int := (w.cs.getD a.toNat (0, 0, 0)).2.2

/-- Which of two slots is ahead, of whatever slots (also of those in no heap). -/
def ltW (w : Nw) (a b : Int) : Bool := decide (w.key a < w.key b ∨ w.key a = w.key b ∧ (w.seq a < w.seq b ∨ w.seq a = w.seq b ∧ a < b))

theorem ltW_strict (w : Nw) : Strict (ltW w) := by
  refine ⟨fun a => ?_, fun a b c h1 h2 => ?_, fun a b c h1 h2 => ?_, fun a b h => ?_⟩
  · exact decide_eq_false (by omega)
  · simp only [ltW, decide_eq_true_eq] at *; omega
  · simp only [ltW, decide_eq_false_iff_not] at *; omega
  · simp only [ltW, decide_eq_true_eq]; omega

theorem ltW_ahead {w : Nw} {a b : Int} (ha : InC w.cs a) (hb : InC w.cs b) : w.ahead a b = ltW w a b := by
  obtain ⟨a0, x, hx, _⟩ := id ha
  obtain ⟨b0, y, hy, _⟩ := id hb
  have k1 : w.key a = x.2.1 := by unfold Nw.key; rw [List.getD_eq_getElem?_getD, hx]; rfl
  have k2 : w.key b = y.2.1 := by unfold Nw.key; rw [List.getD_eq_getElem?_getD, hy]; rfl
  have k3 : w.seq a = x.2.2 := by unfold Nw.seq; rw [List.getD_eq_getElem?_getD, hx]; rfl
  have k4 : w.seq b = y.2.2 := by unfold Nw.seq; rw [List.getD_eq_getElem?_getD, hy]; rfl
  unfold Nw.ahead ltW
  rw [decide_eq_true ha, decide_eq_true hb, hx, hy, k1, k2, k3, k4]
  simp only [Bool.true_and]
  refine decide_eq_decide.2 ?_
  rw [aheadC_iff, lessE]
  omega

theorem ltW_put (w : Nw) (x : Int) (c : Ce) {a b : Int} (ha : a.toNat ≠ x.toNat) (hb : b.toNat ≠ x.toNat) : ltW (w.put x c) a b = ltW w a b := by
  have key : ∀ z : Int, z.toNat ≠ x.toNat → (w.put x c).key z = w.key z ∧ (w.put x c).seq z = w.seq z := fun z hz => by
    unfold Nw.key Nw.seq Nw.put
    simp only [List.getD_eq_getElem?_getD]
    rw [List.getElem?_set_ne (Ne.symm hz)]
    exact ⟨rfl, rfl⟩
  unfold ltW
  rw [(key a ha).1, (key a ha).2, (key b hb).1, (key b hb).2]

/-- The first slot of a heap. -/
def Nw.first (w : Nw) (g x : Int) : Prop := 0 < g ∧ 0 ≤ x ∧ (∃ e, w.cs[x.toNat]? = some (g, e)) ∧ ∀ y, 0 ≤ y → (∃ e, w.cs[y.toNat]? = some (g, e)) → y ≠ x → ltW w x y = true

theorem Nw.first.uniq {w : Nw} {g x y : Int} (hx : w.first g x) (hy : w.first g y) : x = y := by
  by_cases h : y = x
  · exact h.symm
  · have h1 := hx.2.2.2 y hy.2.1 hy.2.2.1 h
    have h2 := hy.2.2.2 x hx.2.1 hx.2.2.1 (Ne.symm h)
    rw [(ltW_strict w).asym h1] at h2
    cases h2

theorem Nw.len0 {w : Nw} {g : Int} : w.len g = 0 ↔ (g ≤ 0 ∨ ∀ (i : Nat) (c : Ce), w.cs[i]? = some c → c.1 ≠ g) := by
  unfold Nw.len
  by_cases hg : 0 < g
  · rw [if_pos hg]
    constructor
    · intro h
      refine .inr fun i c hc e => ?_
      have h1 : w.cs.countP (fun c => decide (c.1 = g)) = 0 := by omega
      exact (List.countP_eq_zero.1 h1) c (List.mem_of_getElem? hc) (decide_eq_true e)
    · rintro (h | h)
      · omega
      · rw [List.countP_eq_zero.2 (fun c hc => by
          obtain ⟨i, hi⟩ := List.getElem?_of_mem hc
          simpa using h i c hi)]
        rfl
  · rw [if_neg hg]
    exact ⟨fun _ => .inl (by omega), fun _ => rfl⟩

theorem Nw.first.pos {w : Nw} {g x : Int} (h : w.first g x) : 0 < w.len g := by
  have h1 := w.len_le g
  rcases Int.lt_or_eq_of_le h1.1 with h2 | h2
  · exact h2
  · rcases Nw.len0.1 h2.symm with h3 | h3
    · have := h.1; omega
    · obtain ⟨e, he⟩ := h.2.2.1
      exact absurd rfl (h3 _ _ he)

theorem Nw.first.inC {w : Nw} {g x : Int} (h : w.first g x) : InC w.cs x := by
  obtain ⟨e, he⟩ := h.2.2.1
  exact ⟨h.2.1, _, he, h.1⟩

/-- The order in which a heap's slots come out. -/
inductive OrdOf : Nw → Int → List Int → Prop
  | nil {w : Nw} {g : Int} (h : w.len g = 0) : OrdOf w g []
  | cons {w : Nw} {g x : Int} {l : List Int} (h : w.first g x) (r : OrdOf (w.put x (0, 0, 0)) g l) : OrdOf w g (x :: l)

/-- Two nests have the same slots, with the same entries, in a heap. -/
def SameH (w w' : Nw) (g : Int) : Prop := ∀ (i : Nat) (e : Int × Int), w.cs[i]? = some (g, e) ↔ w'.cs[i]? = some (g, e)

theorem SameH.ltW {w w' : Nw} {g : Int} (h : SameH w w' g) {x y : Int} (hx : ∃ e, w.cs[x.toNat]? = some (g, e)) (hy : ∃ e, w.cs[y.toNat]? = some (g, e)) : ltW w x y = ltW w' x y := by
  have key : ∀ z : Int, (∃ e, w.cs[z.toNat]? = some (g, e)) → w.key z = w'.key z ∧ w.seq z = w'.seq z := fun z ⟨e, he⟩ => by
    have he' := (h _ e).1 he
    unfold Nw.key Nw.seq
    simp only [List.getD_eq_getElem?_getD, he, he', Option.getD_some, and_self]
  unfold Proofs.Yteicchpglnamcaa.ltW
  rw [(key x hx).1, (key x hx).2, (key y hy).1, (key y hy).2]

theorem SameH.first {w w' : Nw} {g : Int} (h : SameH w w' g) {x : Int} (hf : w.first g x) : w'.first g x := by
  obtain ⟨h1, h2, ⟨e, he⟩, h4⟩ := hf
  refine ⟨h1, h2, ⟨e, (h _ e).1 he⟩, fun y hy ⟨e', he'⟩ hne => ?_⟩
  have he2 := (h _ e').2 he'
  rw [← h.ltW ⟨e, he⟩ ⟨e', he2⟩]
  exact h4 y hy ⟨e', he2⟩ hne

theorem SameH.len0 {w w' : Nw} {g : Int} (h : SameH w w' g) (hl : w.len g = 0) : w'.len g = 0 := by
  rcases Nw.len0.1 hl with h1 | h1
  · exact Nw.len0.2 (.inl h1)
  · refine Nw.len0.2 (.inr fun i c hc e => ?_)
    obtain ⟨c1, c2⟩ := c
    simp only at e
    subst e
    exact h1 i _ ((h i c2).2 hc) rfl

theorem SameH.put {w w' : Nw} {g : Int} (h : SameH w w' g) (hg : 0 < g) (x : Int) (hl : w.cs.length = w'.cs.length) : SameH (w.put x (0, 0, 0)) (w'.put x (0, 0, 0)) g := by
  intro i e
  unfold Nw.put
  simp only [List.getElem?_set, hl]
  by_cases hi : x.toNat = i
  · simp only [if_pos hi]
  · simp only [if_neg hi]
    exact h i e

theorem OrdOf.congr {w w' : Nw} {g : Int} {l : List Int} (h : OrdOf w g l) (hs : SameH w w' g) (hl : w.cs.length = w'.cs.length) : OrdOf w' g l := by
  induction h generalizing w' with
  | nil h => exact .nil (hs.len0 h)
  | cons h r ih => exact .cons (hs.first h) (ih (hs.put h.1 _ hl) (by simpa [Nw.put] using hl))

/-- What goes on in one heap changes nothing of another one. -/
theorem SameH.other {w : Nw} {g g' : Int} {x : Int} (hg : g' ≠ g) (hx : ∃ e, w.cs[x.toNat]? = some (g, e)) (hg0 : g' ≠ 0) : SameH w (w.put x (0, 0, 0)) g' := by
  obtain ⟨e, he⟩ := hx
  intro i e'
  unfold Nw.put
  by_cases hi : x.toNat = i
  · subst hi
    rw [he, List.getElem?_set_self (List.getElem?_eq_some_iff.1 he).1]
    simp only [Option.some.injEq, Prod.mk.injEq]
    constructor
    · rintro ⟨h, _⟩; exact absurd h.symm hg
    · rintro ⟨h, _⟩; exact absurd h.symm hg0
  · rw [List.getElem?_set_ne hi]

end Go.Proofs.Yteicchpglnamcaa
