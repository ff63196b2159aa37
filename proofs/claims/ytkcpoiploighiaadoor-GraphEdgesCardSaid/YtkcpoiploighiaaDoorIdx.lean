/-
  Plain law: the numbers of those of a list that are asked for.
-/
set_option linter.unusedVariables false
set_option linter.unusedSimpArgs false
namespace Go.Proofs.YtkcpoiploighiaaDoor

def idxA {α : Type} (q : α → Bool) : Nat → List α → List Int
  | _, [] => []
  | k, e :: r => (if q e then [(k : Int)] else []) ++ idxA q (k + 1) r

section
variable {α : Type}
theorem idxA_snoc (q : α → Bool) (e : α) : ∀ (l : List α) (k : Nat), idxA q k (l ++ [e]) = idxA q k l ++ (if q e then [((k + l.length : Nat) : Int)] else []) := by
  intro l
  induction l with
  | nil => intro k; simp [idxA]
  | cons x l ih =>
    intro k
    rw [List.cons_append, idxA, ih, idxA, List.append_assoc, List.length_cons, show k + 1 + l.length = k + (l.length + 1) by omega]
theorem idxA_take (q : α → Bool) {l : List α} {j : Nat} {e : α} (h : l[j]? = some e) : idxA q 0 (l.take (j + 1)) = idxA q 0 (l.take j) ++ (if q e then [(j : Int)] else []) := by
  have hj := (List.getElem?_eq_some_iff.1 h).1
  rw [List.take_add_one, h]
  show idxA q 0 (l.take j ++ [e]) = _
  rw [idxA_snoc, List.length_take, Nat.min_eq_left (by omega), Nat.zero_add]
theorem idxA_mem (q : α → Bool) : ∀ (l : List α) (k : Nat) (x : Int), x ∈ idxA q k l ↔ ∃ (i : Nat) (e : α), l[i]? = some e ∧ q e = true ∧ x = ((k + i : Nat) : Int) := by
  intro l
  induction l with
  | nil => intro k x; simp [idxA]
  | cons e l ih =>
    intro k x
    rw [idxA, List.mem_append, ih]
    constructor
    · rintro (h | ⟨i, e', h1, h2, h3⟩)
      · split at h
        · exact ⟨0, e, rfl, by assumption, by rw [List.mem_singleton.1 h]; simp⟩
        · cases h
      · exact ⟨i + 1, e', by simpa using h1, h2, by rw [h3]; congr 1; omega⟩
    · rintro ⟨i, e', h1, h2, h3⟩
      cases i with
      | zero =>
        left
        simp only [List.getElem?_cons_zero, Option.some.injEq] at h1
        subst h1
        rw [if_pos h2, h3]; simp
      | succ i => right; exact ⟨i, e', by simpa using h1, h2, by rw [h3]; congr 1; omega⟩
theorem idxA_sorted (q : α → Bool) : ∀ (l : List α) (k : Nat), (idxA q k l).Pairwise (· < ·) := by
  intro l
  induction l with
  | nil => intro k; exact List.Pairwise.nil
  | cons e l ih =>
    intro k
    rw [idxA, List.pairwise_append]
    refine ⟨by split <;> simp, ih (k + 1), fun a ha b hb => ?_⟩
    split at ha
    · rw [List.mem_singleton] at ha
      obtain ⟨i, _, _, _, h⟩ := (idxA_mem q l (k + 1) b).1 hb
      omega
    · cases ha
theorem idxA_len (q : α → Bool) : ∀ (l : List α) (k : Nat), (idxA q k l).length ≤ l.length := by
  intro l
  induction l with
  | nil => intro k; simp [idxA]
  | cons e l ih =>
    intro k
    rw [idxA, List.length_append, List.length_cons]
    have := ih (k + 1)
    split <;> simp <;> omega

/-- Put together and set in order. -/
theorem idxA_or (p q : α → Bool) (l : List α) (k : Nat) (hd : ∀ e ∈ l, ¬ (p e = true ∧ q e = true)) : (idxA p k l ++ idxA q k l).mergeSort (fun x y => decide (x ≤ y)) = idxA (fun e => p e || q e) k l := by
  have hperm : ∀ (l : List α) (k : Nat), (∀ e ∈ l, ¬ (p e = true ∧ q e = true)) → (idxA p k l ++ idxA q k l).Perm (idxA (fun e => p e || q e) k l) := by
    intro l
    induction l with
    | nil => intro k _; exact .refl _
    | cons e l ih =>
      intro k hd
      have hi := ih (k + 1) fun x hx => hd x (List.mem_cons_of_mem _ hx)
      have h0 := hd e (List.mem_cons_self ..)
      rw [idxA, idxA, idxA]
      cases hp : p e <;> cases hq : q e
      · simpa using hi
      · simp only [Bool.false_eq_true, if_false, List.nil_append, if_true, Bool.or_true, List.singleton_append]
        exact List.perm_middle.trans (hi.cons _)
      · simp only [Bool.false_eq_true, if_false, List.nil_append, if_true, Bool.or_false, List.singleton_append, List.cons_append]
        exact hi.cons _
      · exact absurd ⟨hp, hq⟩ h0
  refine List.Perm.eq_of_pairwise (le := fun x y : Int => x ≤ y) (fun a b _ _ h1 h2 => by omega) ?_ ?_ ((List.mergeSort_perm _ _).trans (hperm l k hd))
  · have := List.pairwise_mergeSort (le := fun x y : Int => decide (x ≤ y)) (fun a b c h1 h2 => by simp only [decide_eq_true_eq] at *; omega) (fun a b => by simp; omega) (idxA p k l ++ idxA q k l)
    exact this.imp fun h => by simpa using h
  · exact (idxA_sorted _ l k).imp fun h => by omega

end
end Go.Proofs.YtkcpoiploighiaaDoor
