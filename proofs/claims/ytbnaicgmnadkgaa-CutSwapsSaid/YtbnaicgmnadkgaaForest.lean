/-
  Plain law: what hangs together by edges; forests; how many parts.
-/
set_option linter.unusedVariables false
set_option linter.unusedSimpArgs false
namespace Go.Proofs.Ytbnaicgmnadkgaa

/-- The two ends of an edge. -/
abbrev E2 := Nat × Nat

/-- One edge more: the greater part comes into the lesser one. -/
def joinF (p : Nat → Nat) (e : E2) : Nat → Nat := fun v => if p v = max (p e.1) (p e.2) then min (p e.1) (p e.2) else p v
/-- Of each vertex the least one of its part. -/
def partF (ks : List E2) : Nat → Nat := ks.foldl joinF id
theorem partF_nil : partF [] = id := rfl
theorem partF_snoc (ks : List E2) (e : E2) : partF (ks ++ [e]) = joinF (partF ks) e := by unfold partF; rw [List.foldl_append]; rfl

theorem snocInd {α : Type} {P : List α → Prop} (h0 : P []) (h1 : ∀ l x, P l → P (l ++ [x])) : ∀ l, P l := by
  intro l
  have : ∀ r : List α, P r.reverse := by
    intro r
    induction r with
    | nil => exact h0
    | cons x r ih => rw [List.reverse_cons]; exact h1 _ _ ih
  have := this l.reverse
  rwa [List.reverse_reverse] at this

/-- It never rises, and is its own. -/
theorem partF_low : ∀ ks : List E2, (∀ v, partF ks v ≤ v) ∧ ∀ v, partF ks (partF ks v) = partF ks v := by
  refine snocInd ⟨fun v => Nat.le_refl _, fun v => rfl⟩ fun ks e ⟨h1, h2⟩ => ?_
  rw [partF_snoc]
  constructor
  · intro v
    unfold joinF
    have := h1 v
    split <;> omega
  · intro v
    have a := h2 v
    have b := h2 e.1
    have c := h2 e.2
    unfold joinF
    by_cases hv : partF ks v = max (partF ks e.1) (partF ks e.2)
    · rw [if_pos hv]
      by_cases hm : partF ks e.1 ≤ partF ks e.2
      · rw [Nat.min_eq_left hm, Nat.max_eq_right hm, b]
        split <;> rfl
      · rw [Nat.min_eq_right (by omega), Nat.max_eq_left (by omega), c]
        split <;> rfl
    · rw [if_neg hv, a, if_neg hv]
theorem partF_le (ks : List E2) (v : Nat) : partF ks v ≤ v := (partF_low ks).1 v
theorem partF_idem (ks : List E2) (v : Nat) : partF ks (partF ks v) = partF ks v := (partF_low ks).2 v

/-- Do two hang together? -/
def Hang (ks : List E2) (u v : Nat) : Prop := partF ks u = partF ks v
theorem Hang.rfl {ks : List E2} {u : Nat} : Hang ks u u := Eq.refl _
theorem Hang.symm {ks : List E2} {u v : Nat} (h : Hang ks u v) : Hang ks v u := Eq.symm h
theorem Hang.trans {ks : List E2} {u v x : Nat} (h : Hang ks u v) (k : Hang ks v x) : Hang ks u x := Eq.trans h k
theorem hang_root (ks : List E2) (v : Nat) : Hang ks (partF ks v) v := partF_idem ks v
instance (ks : List E2) (u v : Nat) : Decidable (Hang ks u v) := inferInstanceAs (Decidable (_ = _))

theorem hang_snoc (ks : List E2) (e : E2) (u v : Nat) : Hang (ks ++ [e]) u v ↔ Hang ks u v ∨ (Hang ks u e.1 ∧ Hang ks v e.2) ∨ (Hang ks u e.2 ∧ Hang ks v e.1) := by
  unfold Hang
  rw [partF_snoc]
  unfold joinF
  rcases Nat.le_total (partF ks e.1) (partF ks e.2) with h | h
  · rw [Nat.min_eq_left h, Nat.max_eq_right h]
    split <;> split <;> omega
  · rw [Nat.min_eq_right h, Nat.max_eq_left h]
    split <;> split <;> omega

theorem hang_mem {ks : List E2} {e : E2} (h : e ∈ ks) : Hang ks e.1 e.2 := by
  revert h
  refine snocInd (P := fun ks => e ∈ ks → Hang ks e.1 e.2) (by simp) (fun ks x ih h => ?_) ks
  rw [hang_snoc]
  rcases List.mem_append.1 h with h | h
  · exact .inl (ih h)
  · rw [List.mem_singleton] at h
    subst h
    exact .inr (.inl ⟨Hang.rfl, Hang.rfl⟩)

/-- The least of all ways to hang together. -/
theorem hang_least {ks : List E2} {Q : Nat → Nat → Prop} (hr : ∀ u, Q u u) (hs : ∀ u v, Q u v → Q v u) (ht : ∀ u v x, Q u v → Q v x → Q u x) (he : ∀ e ∈ ks, Q e.1 e.2) {u v : Nat} (h : Hang ks u v) : Q u v := by
  revert he u v
  refine snocInd (P := fun ks => (∀ e ∈ ks, Q e.1 e.2) → ∀ {u v : Nat}, Hang ks u v → Q u v) ?_ ?_ ks
  · intro _ u v h
    have : u = v := h
    subst this
    exact hr u
  · intro ks x ih he u v h
    have ih' := fun {u v} => @ih (fun e h => he e (List.mem_append_left _ h)) u v
    have hx := he x (by simp)
    rw [hang_snoc] at h
    rcases h with h | ⟨h1, h2⟩ | ⟨h1, h2⟩
    · exact ih' h
    · exact ht _ _ _ (ih' h1) (ht _ _ _ hx (hs _ _ (ih' h2)))
    · exact ht _ _ _ (ih' h1) (ht _ _ _ (hs _ _ hx) (hs _ _ (ih' h2)))

theorem hang_mono {ks ks' : List E2} (h : ∀ e ∈ ks, Hang ks' e.1 e.2) {u v : Nat} (k : Hang ks u v) : Hang ks' u v :=
  hang_least (fun _ => Hang.rfl) (fun _ _ => Hang.symm) (fun _ _ _ => Hang.trans) h k
theorem hang_sub {ks ks' : List E2} (h : ∀ e ∈ ks, e ∈ ks') {u v : Nat} (k : Hang ks u v) : Hang ks' u v := hang_mono (fun e he => hang_mem (h e he)) k

/-- The roots are the least of their parts. -/
theorem root_iff (ks : List E2) (v : Nat) : partF ks v = v ↔ ∀ u, Hang ks u v → v ≤ u := by
  constructor
  · intro h u hu
    have : partF ks u = v := Eq.trans hu h
    have := partF_le ks u
    omega
  · intro h
    have h1 := h _ (hang_root ks v)
    have := partF_le ks v
    omega

/-- What hangs together alike has the same roots. -/
theorem partF_eq {ks ks' : List E2} (h : ∀ u v, Hang ks u v ↔ Hang ks' u v) : partF ks = partF ks' := by
  funext v
  have h1 : Hang ks' (partF ks v) v := (h _ _).1 (hang_root ks v)
  have h2 : Hang ks (partF ks' v) v := (h _ _).2 (hang_root ks' v)
  have a1 : partF ks' (partF ks v) = partF ks' v := h1
  have a2 : partF ks (partF ks' v) = partF ks v := h2
  have := partF_le ks' (partF ks v)
  have := partF_le ks (partF ks' v)
  omega

/-- How many parts there are among the first n vertices. -/
def cls (n : Nat) (ks : List E2) : Nat := ((List.range n).filter fun v => partF ks v == v).length

theorem filter_len_le {α : Type} (p q : α → Bool) : ∀ l : List α, (∀ x ∈ l, p x = true → q x = true) → (l.filter p).length ≤ (l.filter q).length := by
  intro l
  induction l with
  | nil => intro _; simp
  | cons x l ih =>
    intro h
    have h1 := ih fun y hy => h y (List.mem_cons_of_mem _ hy)
    have h2 := h x (List.mem_cons_self ..)
    rw [List.filter_cons, List.filter_cons]
    cases hp : p x
    · cases hq : q x <;> simp <;> omega
    · rw [h2 hp]; simp; omega
theorem filter_len_eq {α : Type} (p q : α → Bool) : ∀ l : List α, (∀ x ∈ l, p x = true → q x = true) → (l.filter p).length = (l.filter q).length → ∀ x ∈ l, q x = true → p x = true := by
  intro l
  induction l with
  | nil => intro _ _ x hx; cases hx
  | cons x l ih =>
    intro h hl y hy hqy
    have h1 := filter_len_le p q l fun y hy => h y (List.mem_cons_of_mem _ hy)
    have h2 := h x (List.mem_cons_self ..)
    rw [List.filter_cons, List.filter_cons] at hl
    cases hp : p x
    · cases hq : q x
      · rw [hp, hq] at hl
        rcases List.mem_cons.1 hy with rfl | hy
        · rw [hqy] at hq; cases hq
        · exact ih (fun z hz => h z (List.mem_cons_of_mem _ hz)) (by simpa using hl) y hy hqy
      · rw [hp, hq] at hl; simp at hl; omega
    · rw [hp, h2 hp] at hl
      rcases List.mem_cons.1 hy with rfl | hy
      · exact hp
      · exact ih (fun z hz => h z (List.mem_cons_of_mem _ hz)) (by simpa using hl) y hy hqy

/-- What hangs together more has fewer parts; as many only if it hangs together alike. -/
theorem cls_le (n : Nat) {ks ks' : List E2} (h : ∀ u v, Hang ks u v → Hang ks' u v) : cls n ks' ≤ cls n ks := by
  refine filter_len_le _ _ _ fun v _ hv => ?_
  rw [beq_iff_eq, root_iff] at hv ⊢
  exact fun u hu => hv u (h u v hu)
theorem cls_eq {n : Nat} {ks ks' : List E2} (h : ∀ u v, Hang ks u v → Hang ks' u v) (hc : cls n ks' = cls n ks) {u v : Nat} (hu : u < n) (hv : v < n) (k : Hang ks' u v) : Hang ks u v := by
  have key := filter_len_eq (fun v => partF ks' v == v) (fun v => partF ks v == v) (List.range n) (fun v _ hv => by
    rw [beq_iff_eq, root_iff] at hv ⊢
    exact fun u hu => hv u (h u v hu)) hc
  have root : ∀ x, x < n → partF ks' x = partF ks x := fun x hx => by
    have hr := partF_le ks x
    have h1 := key (partF ks x) (List.mem_range.2 (by omega)) (by rw [beq_iff_eq]; exact partF_idem ks x)
    rw [beq_iff_eq] at h1
    have h2 : partF ks' (partF ks x) = partF ks' x := h _ _ (hang_root ks x)
    omega
  show partF ks u = partF ks v
  rw [← root u hu, ← root v hv]
  exact k

/-- Edges that close no ring, one behind the other. -/
inductive Acyc : List E2 → Prop
  | nil : Acyc []
  | snoc (ks : List E2) (e : E2) (h : Acyc ks) (he : ¬ Hang ks e.1 e.2) : Acyc (ks ++ [e])

theorem acyc_snoc {ks : List E2} {e : E2} : Acyc (ks ++ [e]) ↔ Acyc ks ∧ ¬ Hang ks e.1 e.2 := by
  constructor
  · intro h
    generalize hk : ks ++ [e] = l at h
    cases h with
    | nil => simp at hk
    | snoc ks' e' h he =>
      have := List.append_inj' hk rfl
      obtain ⟨h1, h2⟩ := this
      simp at h2
      subst h1; subst h2
      exact ⟨h, he⟩
  · rintro ⟨h, he⟩; exact .snoc ks e h he

/-- An edge more is one part fewer, if it closes no ring. -/
theorem cls_snoc {n : Nat} {ks : List E2} {e : E2} (h1 : e.1 < n) (h2 : e.2 < n) (hn : ¬ Hang ks e.1 e.2) : cls n (ks ++ [e]) + 1 = cls n ks := by
  unfold cls
  have hm : max (partF ks e.1) (partF ks e.2) < n := by have := partF_le ks e.1; have := partF_le ks e.2; omega
  have hne : partF ks e.1 ≠ partF ks e.2 := hn
  have hroot : partF ks (max (partF ks e.1) (partF ks e.2)) = max (partF ks e.1) (partF ks e.2) := by
    rcases Nat.le_total (partF ks e.1) (partF ks e.2) with h | h
    · rw [Nat.max_eq_right h]; exact partF_idem ks _
    · rw [Nat.max_eq_left h]; exact partF_idem ks _
  generalize hM : max (partF ks e.1) (partF ks e.2) = M at *
  have hq : ∀ v, (partF (ks ++ [e]) v == v) = ((partF ks v == v) && !(v == M)) := by
    intro v
    rw [partF_snoc]
    unfold joinF
    rw [hM]
    by_cases hv : partF ks v = M
    · rw [if_pos hv]
      by_cases hvM : v = M
      · have : ¬ (min (partF ks e.1) (partF ks e.2) = v) := by omega
        simp [hvM]; omega
      · have h3 : ¬ (partF ks v = v) := by omega
        have h4 : min (partF ks e.1) (partF ks e.2) ≠ v := by
          intro h
          have : partF ks v = v := by
            rw [← h]
            rcases Nat.le_total (partF ks e.1) (partF ks e.2) with h | h
            · rw [Nat.min_eq_left h]; exact partF_idem ks _
            · rw [Nat.min_eq_right h]; exact partF_idem ks _
          exact h3 this
        rw [beq_eq_false_iff_ne.2 h4, beq_eq_false_iff_ne.2 h3]; rfl
    · rw [if_neg hv]
      have : v ≠ M := fun h => hv (by rw [h]; exact hroot)
      simp [this]
  have hcount : ∀ l : List Nat, l.Nodup → M ∈ l → (l.filter fun v => partF (ks ++ [e]) v == v).length + 1 = (l.filter fun v => partF ks v == v).length := by
    intro l
    induction l with
    | nil => intro _ h; cases h
    | cons x l ih =>
      intro hnd hmem
      rw [List.nodup_cons] at hnd
      rw [List.filter_cons, List.filter_cons, hq]
      by_cases hx : x = M
      · subst hx
        have hsame : (l.filter fun v => partF (ks ++ [e]) v == v) = (l.filter fun v => partF ks v == v) := by
          apply List.filter_congr
          intro y hy
          rw [hq]
          have : y ≠ x := fun h => hnd.1 (h ▸ hy)
          simp [this]
        rw [hsame]
        simp [hroot]
      · have hm' : M ∈ l := by
          rcases List.mem_cons.1 hmem with h | h
          · exact absurd h.symm hx
          · exact h
        have := ih hnd.2 hm'
        rw [beq_eq_false_iff_ne.2 hx, Bool.not_false, Bool.and_true]
        cases (partF ks x == x) <;> simp <;> omega
  exact hcount _ List.nodup_range (List.mem_range.2 hm)

theorem cls_acyc {n : Nat} : ∀ {ks : List E2}, Acyc ks → (∀ e ∈ ks, e.1 < n ∧ e.2 < n) → cls n ks + ks.length = n := by
  intro ks h
  induction h with
  | nil => intro _; unfold cls; rw [partF_nil, List.filter_eq_self.2 (fun v _ => by simp)]; simp
  | snoc ks e h he ih =>
    intro hb
    have h1 := ih fun x hx => hb x (List.mem_append_left _ hx)
    obtain ⟨h2, h3⟩ := hb e (by simp)
    have := cls_snoc h2 h3 he
    rw [List.length_append, List.length_singleton]
    omega

/-- What is left of a forest is one. -/
theorem acyc_sub {ks ks' : List E2} (h : Acyc ks) (hs : ks'.Sublist ks) : Acyc ks' := by
  induction h generalizing ks' with
  | nil => rw [List.sublist_nil.1 hs]; exact .nil
  | snoc ks e h he ih =>
    rcases List.sublist_append_iff.1 hs with ⟨l1, l2, rfl, h1, h2⟩
    have hl := ih h1
    rcases l2 with _ | ⟨x, l2⟩
    · simpa using hl
    · have h3 := h2.length_le
      simp at h3
      subst h3
      have : x = e := by
        have := h2.subset (List.mem_singleton.2 rfl)
        simpa using this
      subst this
      exact .snoc _ _ hl fun hh => he (hang_sub (fun y hy => h1.subset hy) hh)

/-- The same edges in another order. -/
theorem hang_perm {ks ks' : List E2} (h : ks.Perm ks') (u v : Nat) : Hang ks u v ↔ Hang ks' u v := ⟨hang_sub fun e he => h.mem_iff.1 he, hang_sub fun e he => h.mem_iff.2 he⟩

/-! ### Numbers counted from below -/

def cnt (A : List Int) (t : Int) : Nat := (A.filter fun x => decide (x ≤ t)).length

theorem cnt_perm {A B : List Int} (h : A.Perm B) (t : Int) : cnt A t = cnt B t := (h.filter _).length_eq
theorem cnt_cons (x : Int) (A : List Int) (t : Int) : cnt (x :: A) t = (if x ≤ t then 1 else 0) + cnt A t := by
  unfold cnt
  rw [List.filter_cons]
  by_cases h : x ≤ t
  · simp [h]; omega
  · simp [h]
theorem cnt_le (A : List Int) (t : Int) : cnt A t ≤ A.length := List.length_filter_le _ _
theorem cnt_all {A : List Int} {t : Int} (h : ∀ x ∈ A, x ≤ t) : cnt A t = A.length := by
  unfold cnt
  rw [List.filter_eq_self.2 (fun x hx => by simpa using h x hx)]
theorem all_cnt {A : List Int} {t : Int} (h : cnt A t = A.length) : ∀ x ∈ A, x ≤ t := by
  intro x hx
  have := filter_len_eq (fun x => decide (x ≤ t)) (fun _ => true) A (fun _ _ _ => rfl) (by rw [show A.filter (fun _ => true) = A from List.filter_eq_self.2 (fun _ _ => rfl)]; exact h) x hx rfl
  simpa using this
theorem sum_perm {A B : List Int} (h : A.Perm B) : A.sum = B.sum := by
  induction h with
  | nil => rfl
  | cons x _ ih => rw [List.sum_cons, List.sum_cons, ih]
  | swap x y l => simp only [List.sum_cons]; omega
  | trans _ _ a b => exact a.trans b

theorem exists_max : ∀ {A : List Int}, A ≠ [] → ∃ a ∈ A, ∀ x ∈ A, x ≤ a := by
  intro A
  induction A with
  | nil => intro h; exact absurd rfl h
  | cons x A ih =>
    intro _
    by_cases h : A = []
    · subst h; exact ⟨x, by simp, by simp⟩
    · obtain ⟨a, ha, hm⟩ := ih h
      by_cases hx : a ≤ x
      · exact ⟨x, by simp, fun y hy => (List.mem_cons.1 hy).elim (fun h => by omega) (fun h => Int.le_trans (hm y h) hx)⟩
      · exact ⟨a, by simp [ha], fun y hy => (List.mem_cons.1 hy).elim (fun h => by omega) (fun h => hm y h)⟩

/-- More small numbers, a lesser sum; one sum only with as many. -/
theorem sum_le_of_cnt : ∀ (k : Nat) {A B : List Int}, A.length = k → B.length = k → (∀ t, cnt B t ≤ cnt A t) → A.sum ≤ B.sum ∧ (A.sum = B.sum → ∀ t, cnt A t = cnt B t) := by
  intro k
  induction k with
  | zero =>
    intro A B hA hB _
    obtain rfl := List.length_eq_zero_iff.1 hA
    obtain rfl := List.length_eq_zero_iff.1 hB
    exact ⟨Int.le_refl _, fun _ _ => rfl⟩
  | succ k ih =>
    intro A B hA hB h
    obtain ⟨a, ha, hma⟩ := exists_max (A := A) (by intro e; rw [e] at hA; simp at hA)
    obtain ⟨b, hb, hmb⟩ := exists_max (A := B) (by intro e; rw [e] at hB; simp at hB)
    have pA := List.perm_cons_erase ha
    have pB := List.perm_cons_erase hb
    have lA : (A.erase a).length = k := by have := pA.length_eq; simp at this; omega
    have lB : (B.erase b).length = k := by have := pB.length_eq; simp at this; omega
    have hab : a ≤ b := by
      have h1 := h b
      rw [cnt_all hmb] at h1
      have h2 := cnt_le A b
      exact all_cnt (by omega) a ha
    have hcA : ∀ t, cnt A t = (if a ≤ t then 1 else 0) + cnt (A.erase a) t := fun t => by rw [cnt_perm pA, cnt_cons]
    have hcB : ∀ t, cnt B t = (if b ≤ t then 1 else 0) + cnt (B.erase b) t := fun t => by rw [cnt_perm pB, cnt_cons]
    have hle : ∀ t, cnt (B.erase b) t ≤ cnt (A.erase a) t := by
      intro t
      have h0 := h t
      rw [hcA, hcB] at h0
      by_cases h1 : a ≤ t
      · by_cases h2 : b ≤ t
        · rw [if_pos h1, if_pos h2] at h0; omega
        · have : cnt (A.erase a) t = (A.erase a).length := cnt_all fun x hx => Int.le_trans (hma x (List.mem_of_mem_erase hx)) h1
          have := cnt_le (B.erase b) t
          omega
      · rw [if_neg h1, if_neg (show ¬ b ≤ t by omega)] at h0; omega
    obtain ⟨i1, i2⟩ := ih lA lB hle
    rw [sum_perm pA, sum_perm pB, List.sum_cons, List.sum_cons]
    refine ⟨by omega, fun he t => ?_⟩
    have e1 : a = b := by omega
    have e2 := i2 (by omega) t
    rw [hcA, hcB, e2, e1]

/-! ### Forests with weights -/

section
variable {α : Type} (e : α → E2) (w : α → Int)

/-- Those not heavier. -/
def sel (T : List α) (t : Int) : List α := T.filter fun i => decide (w i ≤ t)
theorem cnt_map (T : List α) (t : Int) : cnt (T.map w) t = (sel w T t).length := by
  unfold cnt sel
  induction T with
  | nil => rfl
  | cons x T ih => rw [List.map_cons, List.filter_cons, List.filter_cons]; split <;> simp_all

/-- No edge is lighter than one of the way that it closes. -/
def Loc (E T : List α) : Prop := ∀ i ∈ E, Hang ((sel w T (w i)).map e) (e i).1 (e i).2

variable {e w}
theorem sel_acyc {T : List α} (h : Acyc (T.map e)) (t : Int) : Acyc ((sel w T t).map e) := acyc_sub h (List.filter_sublist.map e)
theorem sel_sub {E T : List α} (h : ∀ i ∈ T, i ∈ E) (t : Int) : ∀ x ∈ (sel w T t).map e, x ∈ (sel w E t).map e := by
  intro x hx
  obtain ⟨i, hi, rfl⟩ := List.mem_map.1 hx
  rw [sel, List.mem_filter] at hi
  exact List.mem_map.2 ⟨i, List.mem_filter.2 ⟨h i hi.1, hi.2⟩, rfl⟩

theorem sel_len {n : Nat} {T : List α} (ha : Acyc (T.map e)) (hb : ∀ i ∈ T, (e i).1 < n ∧ (e i).2 < n) (t : Int) : cls n ((sel w T t).map e) + (sel w T t).length = n := by
  have := cls_acyc (n := n) (sel_acyc (w := w) ha t) (fun x hx => by
    obtain ⟨i, hi, rfl⟩ := List.mem_map.1 hx
    exact hb i (List.mem_filter.1 hi).1)
  rwa [List.length_map] at this

theorem loc_iff {n : Nat} {E T : List α} (hs : ∀ i ∈ T, i ∈ E) (ha : Acyc (T.map e)) (hb : ∀ i ∈ E, (e i).1 < n ∧ (e i).2 < n) :
    Loc e w E T ↔ ∀ t, cls n ((sel w E t).map e) + (sel w T t).length = n := by
  have hbT : ∀ i ∈ T, (e i).1 < n ∧ (e i).2 < n := fun i hi => hb i (hs i hi)
  constructor
  · intro h t
    have h1 := sel_len (w := w) ha hbT t
    have h2 : ∀ u v, Hang ((sel w E t).map e) u v ↔ Hang ((sel w T t).map e) u v := fun u v => by
      refine ⟨hang_mono fun x hx => ?_, hang_sub (sel_sub hs t)⟩
      obtain ⟨i, hi, rfl⟩ := List.mem_map.1 hx
      rw [sel, List.mem_filter] at hi
      have hw : w i ≤ t := by simpa using hi.2
      refine hang_sub (fun y hy => ?_) (h i hi.1)
      obtain ⟨j, hj, rfl⟩ := List.mem_map.1 hy
      rw [sel, List.mem_filter] at hj
      have hjw : w j ≤ w i := by simpa using hj.2
      exact List.mem_map.2 ⟨j, List.mem_filter.2 ⟨hj.1, by simp; omega⟩, rfl⟩
    have h3 : cls n ((sel w E t).map e) = cls n ((sel w T t).map e) := by
      unfold cls
      rw [partF_eq h2]
    omega
  · intro h i hi
    have h1 := sel_len (w := w) ha hbT (w i)
    have h2 := h (w i)
    refine cls_eq (n := n) (fun u v => hang_sub (sel_sub hs (w i))) (by omega) (hb i hi).1 (hb i hi).2 ?_
    exact hang_mem (List.mem_map.2 ⟨i, List.mem_filter.2 ⟨hi, by simp⟩, rfl⟩)

/-- The lightest forests are those in which no edge is lighter than one of the way that it closes. -/
theorem loc_least {n : Nat} {E K T : List α} (hsK : ∀ i ∈ K, i ∈ E) (haK : Acyc (K.map e)) (hsT : ∀ i ∈ T, i ∈ E) (haT : Acyc (T.map e)) (hb : ∀ i ∈ E, (e i).1 < n ∧ (e i).2 < n)
    (hlen : K.length = T.length) (hK : Loc e w E K) : (K.map w).sum ≤ (T.map w).sum ∧ ((K.map w).sum = (T.map w).sum ↔ Loc e w E T) := by
  have hk := (loc_iff (w := w) hsK haK hb).1 hK
  have hle : ∀ t, cnt (T.map w) t ≤ cnt (K.map w) t := fun t => by
    rw [cnt_map, cnt_map]
    have h1 := hk t
    have h2 := sel_len (w := w) haT (fun i hi => hb i (hsT i hi)) t
    have h3 := cls_le n (ks := (sel w T t).map e) (ks' := (sel w E t).map e) (fun u v => hang_sub (sel_sub hsT t))
    omega
  obtain ⟨g1, g2⟩ := sum_le_of_cnt K.length (A := K.map w) (B := T.map w) (by simp) (by simp [hlen]) hle
  refine ⟨g1, fun h => ?_, fun h => ?_⟩
  · rw [loc_iff (n := n) hsT haT hb]
    intro t
    have := g2 h t
    rw [cnt_map, cnt_map] at this
    rw [← this]
    exact hk t
  · have ht := (loc_iff (w := w) hsT haT hb).1 h
    obtain ⟨g3, _⟩ := sum_le_of_cnt K.length (A := T.map w) (B := K.map w) (by simp [hlen]) (by simp) (fun t => by
      rw [cnt_map, cnt_map]
      have h1 := hk t
      have h2 := ht t
      omega)
    omega

/-! ### Edges taken one by one, if they close no ring -/

variable (e) in
def greedy (L : List α) : List α := L.foldl (fun out i => if Hang (out.map e) (e i).1 (e i).2 then out else out ++ [i]) []
theorem greedy_snoc (L : List α) (i : α) : greedy e (L ++ [i]) = if Hang ((greedy e L).map e) (e i).1 (e i).2 then greedy e L else greedy e L ++ [i] := by
  unfold greedy
  rw [List.foldl_append]
  rfl
theorem greedy_ok : ∀ L : List α, Acyc ((greedy e L).map e) ∧ (∀ i ∈ greedy e L, i ∈ L) ∧ ∀ i ∈ L, Hang ((greedy e L).map e) (e i).1 (e i).2 := by
  refine snocInd ⟨.nil, by simp [greedy], by simp⟩ fun L i ⟨h1, h2, h3⟩ => ?_
  rw [greedy_snoc]
  split
  · rename_i hh
    refine ⟨h1, fun x hx => List.mem_append_left _ (h2 x hx), fun x hx => ?_⟩
    rcases List.mem_append.1 hx with hx | hx
    · exact h3 x hx
    · rw [List.mem_singleton.1 hx]; exact hh
  · rename_i hh
    rw [List.map_append]
    refine ⟨.snoc _ _ h1 hh, fun x hx => ?_, fun x hx => ?_⟩
    · rcases List.mem_append.1 hx with hx | hx
      · exact List.mem_append_left _ (h2 x hx)
      · exact List.mem_append_right _ hx
    · rcases List.mem_append.1 hx with hx | hx
      · exact hang_sub (fun y hy => List.mem_append_left _ hy) (h3 x hx)
      · rw [List.mem_singleton.1 hx]; exact hang_mem (by simp)
theorem greedy_pre (L1 : List α) : ∀ L2 : List α, ∀ i ∈ greedy e L1, i ∈ greedy e (L1 ++ L2) := by
  refine snocInd (by simp) fun L2 x ih i hi => ?_
  rw [← List.append_assoc, greedy_snoc]
  split
  · exact ih i hi
  · exact List.mem_append_left _ (ih i hi)

/-- Taken in the order of their weights: the least. -/
theorem greedy_loc {L : List α} (hs : L.Pairwise fun i j => w i ≤ w j) : Loc e w L (greedy e L) := by
  intro i hi
  obtain ⟨L1, L2, rfl⟩ := List.append_of_mem hi
  have hle : ∀ j ∈ L1 ++ [i], w j ≤ w i := by
    intro j hj
    rcases List.mem_append.1 hj with hj | hj
    · rw [List.pairwise_append] at hs
      exact hs.2.2 j hj i (by simp)
    · rw [List.mem_singleton.1 hj]; exact Int.le_refl _
  obtain ⟨_, g2, g3⟩ := greedy_ok (e := e) (L1 ++ [i])
  refine hang_sub (fun x hx => ?_) (g3 i (by simp))
  obtain ⟨j, hj, rfl⟩ := List.mem_map.1 hx
  have := greedy_pre (e := e) (L1 ++ [i]) L2 j hj
  rw [List.append_assoc] at this
  exact List.mem_map.2 ⟨j, List.mem_filter.2 ⟨this, by simpa using hle j (g2 j hj)⟩, rfl⟩

/-- As many edges as parts are lost. -/
theorem span_len {n : Nat} {E T : List α} (hs : ∀ i ∈ T, i ∈ E) (ha : Acyc (T.map e)) (hb : ∀ i ∈ E, (e i).1 < n ∧ (e i).2 < n) (hh : ∀ i ∈ E, Hang (T.map e) (e i).1 (e i).2) : cls n (E.map e) + T.length = n := by
  have h1 := cls_acyc (n := n) ha (fun x hx => by
    obtain ⟨i, hi, rfl⟩ := List.mem_map.1 hx
    exact hb i (hs i hi))
  have h2 : ∀ u v, Hang (E.map e) u v ↔ Hang (T.map e) u v := fun u v => ⟨hang_mono fun x hx => by
    obtain ⟨i, hi, rfl⟩ := List.mem_map.1 hx
    exact hh i hi, hang_sub fun x hx => by
    obtain ⟨i, hi, rfl⟩ := List.mem_map.1 hx
    exact List.mem_map.2 ⟨i, hs i hi, rfl⟩⟩
  have h3 : cls n (E.map e) = cls n (T.map e) := by unfold cls; rw [partF_eq h2]
  rw [List.length_map] at h1
  omega

end

section
variable {α : Type} {e : α → E2}

theorem hang_cons {T R : List α} {i : α} (h : T.Perm (i :: R)) (u v : Nat) : Hang (T.map e) u v ↔ Hang (R.map e) u v ∨ (Hang (R.map e) u (e i).1 ∧ Hang (R.map e) v (e i).2) ∨ (Hang (R.map e) u (e i).2 ∧ Hang (R.map e) v (e i).1) := by
  have hp : (T.map e).Perm (R.map e ++ [e i]) := (h.map e).trans (by rw [List.map_cons]; exact (List.perm_append_singleton _ _).symm)
  rw [hang_perm hp, hang_snoc]

/-- Its ends hang together by nothing else. -/
theorem hang_rest {n : Nat} {T R : List α} {i : α} (ha : Acyc (T.map e)) (hb : ∀ j ∈ T, (e j).1 < n ∧ (e j).2 < n) (h : T.Perm (i :: R)) (hs : R.Sublist T) : ¬ Hang (R.map e) (e i).1 (e i).2 := by
  intro hh
  have h1 := cls_acyc (n := n) ha (fun x hx => by obtain ⟨j, hj, rfl⟩ := List.mem_map.1 hx; exact hb j hj)
  have h2 := cls_acyc (n := n) (acyc_sub ha (hs.map e)) (fun x hx => by obtain ⟨j, hj, rfl⟩ := List.mem_map.1 hx; exact hb j (hs.subset hj))
  have h3 : cls n (T.map e) = cls n (R.map e) := by
    unfold cls
    rw [partF_eq fun u v => ?_]
    refine ⟨hang_mono fun x hx => ?_, hang_sub fun x hx => ?_⟩
    · obtain ⟨j, hj, rfl⟩ := List.mem_map.1 hx
      rcases List.mem_cons.1 (h.mem_iff.1 hj) with rfl | hj
      · exact hh
      · exact hang_mem (List.mem_map.2 ⟨j, hj, rfl⟩)
    · obtain ⟨j, hj, rfl⟩ := List.mem_map.1 hx
      exact List.mem_map.2 ⟨j, hs.subset hj, rfl⟩
  have h4 := h.length_eq
  rw [List.length_map] at h1 h2
  simp at h4
  omega

/-- All but the one at a place. -/
def but (T : List α) (k : Nat) : List α := T.take k ++ T.drop (k + 1)
theorem but_sub (T : List α) (k : Nat) : (but T k).Sublist T := by
  unfold but
  conv => rhs; rw [← List.take_append_drop k T]
  refine (List.Sublist.refl _).append ?_
  rw [← List.drop_drop]
  exact List.drop_sublist 1 _
theorem but_perm {T : List α} {k : Nat} {i : α} (h : T[k]? = some i) : T.Perm (i :: but T k) := by
  obtain ⟨hk, rfl⟩ := List.getElem?_eq_some_iff.1 h
  unfold but
  conv => lhs; rw [← List.take_append_drop k T, List.drop_eq_getElem_cons hk]
  exact List.perm_middle

/-- The edge at a place is one of the way from u to v. -/
def Sep (e : α → E2) (T : List α) (k : Nat) (u v : Nat) : Prop := ¬ Hang ((but T k).map e) u v
def Touch (p : E2) (u : Nat) : Prop := p.1 = u ∨ p.2 = u
def other (p : E2) (u : Nat) : Nat := p.1 + p.2 - u

/-- Of the edges that touch u just one is of the way from u to v. -/
theorem sep_one {n : Nat} {T : List α} (ha : Acyc (T.map e)) (hb : ∀ j ∈ T, (e j).1 < n ∧ (e j).2 < n) {u v k k' : Nat} {i i' : α} (hi : T[k]? = some i) (hi' : T[k']? = some i') (hh : Hang (T.map e) u v)
    (t : Touch (e i) u) (t' : Touch (e i') u) (s : Sep e T k u v) (s' : Sep e T k' u v) : k = k' := by
  apply Classical.byContradiction
  intro hne
  -- x: the other end of i; y: that of i'
  have side : ∀ {k : Nat} {i : α}, T[k]? = some i → Touch (e i) u → Sep e T k u v → ∃ x, (∀ ks, e i ∈ ks → Hang ks u x) ∧ Hang ((but T k).map e) x v ∧ ¬ Hang ((but T k).map e) u x := by
    intro k i hi t s
    have hc := (hang_cons (but_perm hi) u v).1 hh
    have hr := hang_rest ha hb (but_perm hi) (but_sub T k)
    rcases t with t | t
    · refine ⟨(e i).2, fun ks hk => t ▸ hang_mem hk, ?_, by rw [← t]; exact hr⟩
      rcases hc with h | ⟨h1, h2⟩ | ⟨h1, h2⟩
      · exact absurd h s
      · exact h2.symm
      · exact absurd (by rw [← t] at h1; exact h1) hr
    · refine ⟨(e i).1, fun ks hk => t ▸ (hang_mem hk).symm, ?_, by rw [← t]; exact fun h => hr h.symm⟩
      rcases hc with h | ⟨h1, h2⟩ | ⟨h1, h2⟩
      · exact absurd h s
      · exact absurd (by rw [← t] at h1; exact h1.symm) hr
      · exact h2.symm
  obtain ⟨x, x1, x2, x3⟩ := side hi t s
  obtain ⟨y, y1, y2, y3⟩ := side hi' t' s'
  -- i' is among the rest of i
  have hmem : ∀ {k k' : Nat} {i' : α}, k ≠ k' → T[k']? = some i' → i' ∈ but T k := by
    intro k k' i' hne hi'
    unfold but
    rw [List.mem_append]
    by_cases hlt : k' < k
    · left
      exact List.mem_of_getElem? (i := k') (by rw [List.getElem?_take, if_pos hlt]; exact hi')
    · right
      exact List.mem_of_getElem? (i := k' - (k + 1)) (by rw [List.getElem?_drop, show k + 1 + (k' - (k + 1)) = k' by omega]; exact hi')
  have m1 := hmem hne hi'
  -- by the rest of i the vertices u and y hang together, by that of i' u and x
  have h1 : Hang ((but T k).map e) u y := y1 _ (List.mem_map.2 ⟨i', m1, rfl⟩)
  have h2 : Hang ((but T k').map e) u x := x1 _ (List.mem_map.2 ⟨i, hmem (Ne.symm hne) hi, rfl⟩)
  -- the rest of i, without i'
  obtain ⟨m, hm⟩ := List.getElem?_of_mem m1
  have p := but_perm hm
  have c := (hang_cons p x v).1 x2
  have sub : ∀ {a b : Nat}, Hang ((but (but T k) m).map e) a b → Hang ((but T k').map e) a b := by
    intro a b h
    refine hang_sub (fun z hz => ?_) h
    obtain ⟨j, hj, rfl⟩ := List.mem_map.1 hz
    have hT : T.Perm (i :: i' :: but (but T k) m) := (but_perm hi).trans (p.cons i)
    have hT' := but_perm hi'
    have q : (but T k').Perm (i :: but (but T k) m) := by
      have := (hT'.symm.trans (hT.trans (List.Perm.swap i' i _)))
      exact List.Perm.cons_inv this
    exact List.mem_map.2 ⟨j, q.mem_iff.2 (List.mem_cons_of_mem _ hj), rfl⟩
  have subk : ∀ {a b : Nat}, Hang ((but (but T k) m).map e) a b → Hang ((but T k).map e) a b := by
    intro a b h
    refine hang_sub (fun z hz => ?_) h
    obtain ⟨j, hj, rfl⟩ := List.mem_map.1 hz
    exact List.mem_map.2 ⟨j, (but_sub _ m).subset hj, rfl⟩
  have ends : (e i').1 = u ∧ True ∨ (e i').2 = u ∧ True := t'.elim (fun h => .inl ⟨h, trivial⟩) (fun h => .inr ⟨h, trivial⟩)
  rcases c with c | ⟨c1, c2⟩ | ⟨c1, c2⟩
  · exact s' (h2.trans (sub c))
  · rcases t' with t' | t'
    · rw [t'] at c1; exact x3 (subk c1).symm
    · rw [t'] at c2; exact s (subk c2).symm
  · rcases t' with t' | t'
    · rw [t'] at c2; exact s (subk c2).symm
    · rw [t'] at c1; exact x3 (subk c1).symm

/-- A way from u to v by edges of T. -/
inductive Way (e : α → E2) : Nat → Nat → List α → Prop
  | nil (u : Nat) : Way e u u []
  | cons (u v : Nat) (i : α) (l : List α) (t : Touch (e i) u) (h : Way e (other (e i) u) v l) : Way e u v (i :: l)

theorem touch_hang {ks : List E2} {p : E2} {u : Nat} (t : Touch p u) (h : p ∈ ks) : Hang ks u (other p u) := by
  unfold other
  rcases t with t | t
  · subst t; rw [show p.1 + p.2 - p.1 = p.2 by omega]; exact hang_mem h
  · subst t; rw [show p.1 + p.2 - p.2 = p.1 by omega]; exact (hang_mem h).symm

theorem Way.hang {u v : Nat} {l : List α} (h : Way e u v l) {R : List α} (hs : ∀ i ∈ l, i ∈ R) : Hang (R.map e) u v := by
  induction h with
  | nil u => exact Hang.rfl
  | cons u v i l t h ih => exact (touch_hang t (List.mem_map.2 ⟨i, hs i (by simp), rfl⟩)).trans (ih fun j hj => hs j (List.mem_cons_of_mem _ hj))

theorem Way.app {u v x : Nat} {l l' : List α} (h : Way e u v l) (h' : Way e v x l') : Way e u x (l ++ l') := by
  induction h with
  | nil u => exact h'
  | cons u v i l t h ih => exact .cons _ _ _ _ t (ih h')

theorem other_touch {p : E2} {u : Nat} (t : Touch p u) : Touch p (other p u) ∧ other p (other p u) = u := by
  unfold other Touch at *
  omega

theorem Way.rev {u v : Nat} {l : List α} (h : Way e u v l) : Way e v u l.reverse := by
  induction h with
  | nil u => exact .nil u
  | cons u v i l t h ih =>
    rw [List.reverse_cons]
    obtain ⟨t1, t2⟩ := other_touch t
    exact ih.app (.cons _ _ _ _ t1 (by rw [t2]; exact .nil u))

/-- No edge of a way that has none twice can be done without. -/
theorem Way.sep {n : Nat} {T : List α} (ha : Acyc (T.map e)) (hb : ∀ j ∈ T, (e j).1 < n ∧ (e j).2 < n) {u v : Nat} {l : List α} (h : Way e u v l) (hs : ∀ i ∈ l, i ∈ T) (hn : l.Nodup) {k : Nat} {i : α} (hi : T[k]? = some i) (hl : i ∈ l) :
    Sep e T k u v := by
  intro hh
  have hr := hang_rest ha hb (but_perm hi) (but_sub T k)
  have inb : ∀ j, j ∈ T → j ≠ i → j ∈ but T k := fun j hj hne => by
    rcases List.mem_cons.1 ((but_perm hi).mem_iff.1 hj) with h | h
    · exact absurd h hne
    · exact h
  have key : ∀ {u v : Nat} {l : List α}, Way e u v l → (∀ j ∈ l, j ∈ T) → l.Nodup → i ∈ l → Hang ((but T k).map e) u v → False := by
    intro u v l h
    induction h with
    | nil u => intro _ _ h; cases h
    | cons u v j l t h ih =>
      intro hs hn hl hh
      rw [List.nodup_cons] at hn
      rcases List.mem_cons.1 hl with rfl | hl
      · have h2 := h.hang (R := but T k) fun x hx => inb x (hs x (List.mem_cons_of_mem _ hx)) fun e => hn.1 (e ▸ hx)
        have h3 := hh.trans h2.symm
        unfold other at h3
        rcases t with t | t
        · subst t; rw [show (e i).1 + (e i).2 - (e i).1 = (e i).2 by omega] at h3; exact hr h3
        · subst t; rw [show (e i).1 + (e i).2 - (e i).2 = (e i).1 by omega] at h3; exact hr h3.symm
      · have hne : j ≠ i := fun e => hn.1 (e ▸ hl)
        have h1 := touch_hang t (List.mem_map.2 ⟨j, inb j (hs j (by simp)) hne, rfl⟩)
        exact ih (fun x hx => hs x (List.mem_cons_of_mem _ hx)) hn.2 hl (h1.symm.trans hh)
  exact key h hs hn hl hh

end

end Go.Proofs.Ytbnaicgmnadkgaa
