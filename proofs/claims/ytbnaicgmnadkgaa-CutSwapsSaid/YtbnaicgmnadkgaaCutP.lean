/-
  Plain law: forests of a graph, told by its edges' numbers.
-/
import Derived.Test.YtbnaicgmnadkgaaForest
set_option linter.unusedVariables false
set_option linter.unusedSimpArgs false
namespace Go.Proofs.Ytbnaicgmnadkgaa

/-- As many parts fewer as there are edges: no ring. -/
theorem cls_ge {n : Nat} : ∀ ks : List E2, (∀ e ∈ ks, e.1 < n ∧ e.2 < n) → n ≤ cls n ks + ks.length := by
  refine snocInd (fun _ => ?_) fun ks e ih hb => ?_
  · unfold cls; rw [partF_nil, List.filter_eq_self.2 (fun v _ => by simp)]; simp
  · have h1 := ih fun x hx => hb x (List.mem_append_left _ hx)
    obtain ⟨h2, h3⟩ := hb e (by simp)
    rw [List.length_append, List.length_singleton]
    by_cases hh : Hang ks e.1 e.2
    · have : cls n (ks ++ [e]) = cls n ks := by
        unfold cls
        rw [partF_eq fun u v => (hang_snoc ks e u v).trans ⟨fun h => ?_, fun h => .inl h⟩]
        rcases h with h | ⟨h1, h2⟩ | ⟨h1, h2⟩
        · exact h
        · exact h1.trans (hh.trans h2.symm)
        · exact h1.trans (hh.symm.trans h2.symm)
      omega
    · have := cls_snoc h2 h3 hh
      omega
theorem acyc_iff {n : Nat} : ∀ ks : List E2, (∀ e ∈ ks, e.1 < n ∧ e.2 < n) → (Acyc ks ↔ cls n ks + ks.length = n) := by
  intro ks hb
  refine ⟨fun h => cls_acyc h hb, ?_⟩
  revert hb
  refine snocInd (P := fun ks => (∀ e ∈ ks, e.1 < n ∧ e.2 < n) → cls n ks + ks.length = n → Acyc ks) (fun _ _ => .nil) (fun ks e ih hb hc => ?_) ks
  have hb' := fun x hx => hb x (List.mem_append_left _ hx)
  obtain ⟨h2, h3⟩ := hb e (by simp)
  have hge := cls_ge ks hb'
  rw [List.length_append, List.length_singleton] at hc
  by_cases hh : Hang ks e.1 e.2
  · exfalso
    have : cls n (ks ++ [e]) = cls n ks := by
      unfold cls
      rw [partF_eq fun u v => (hang_snoc ks e u v).trans ⟨fun h => ?_, fun h => .inl h⟩]
      rcases h with h | ⟨h1, h2⟩ | ⟨h1, h2⟩
      · exact h
      · exact h1.trans (hh.trans h2.symm)
      · exact h1.trans (hh.symm.trans h2.symm)
    omega
  · have := cls_snoc h2 h3 hh
    exact .snoc _ _ (ih hb' (by omega)) hh
theorem acyc_perm {n : Nat} {ks ks' : List E2} (hp : ks.Perm ks') (hb : ∀ e ∈ ks, e.1 < n ∧ e.2 < n) (h : Acyc ks) : Acyc ks' := by
  rw [acyc_iff (n := n) ks' (fun e he => hb e (hp.mem_iff.2 he))]
  have h1 := (acyc_iff ks hb).1 h
  have h2 : cls n ks' = cls n ks := by unfold cls; rw [partF_eq fun u v => (hang_perm hp u v).symm]
  rw [h2, ← hp.length_eq]
  exact h1

section
variable {α : Type} {e : α → E2} {w : α → Int}

/-- A forest has no edge twice. -/
theorem acyc_nodup : ∀ {T : List α}, Acyc (T.map e) → T.Nodup := by
  intro T
  refine snocInd (P := fun T => Acyc (T.map e) → T.Nodup) (fun _ => by simp) (fun T i ih h => ?_) T
  rw [List.map_append, List.map_singleton, acyc_snoc] at h
  rw [List.nodup_append]
  refine ⟨ih h.1, by simp, fun x hx y hy hxy => ?_⟩
  rw [List.mem_singleton] at hy
  subst hy; subst hxy
  exact h.2 (hang_mem (List.mem_map.2 ⟨x, hx, rfl⟩))

/-- The way that an edge closes bears nothing heavier: just if the edge's ends hang together by what is not heavier. -/
theorem way_loc {n : Nat} {T : List α} (ha : Acyc (T.map e)) (hb : ∀ j ∈ T, (e j).1 < n ∧ (e j).2 < n) {u v : Nat} {l : List α} (h : Way e u v l) (hs : ∀ i ∈ l, i ∈ T) (hn : l.Nodup) (t : Int) :
    (∀ i ∈ l, w i ≤ t) ↔ Hang ((sel w T t).map e) u v := by
  constructor
  · intro hl
    exact h.hang fun i hi => List.mem_filter.2 ⟨hs i hi, by simpa using hl i hi⟩
  · intro hh i hi
    apply Classical.byContradiction
    intro hw
    obtain ⟨k, hk⟩ := List.getElem?_of_mem (hs i hi)
    refine h.sep ha hb hs hn hk hi (hang_sub (fun x hx => ?_) hh)
    obtain ⟨j, hj, rfl⟩ := List.mem_map.1 hx
    rw [sel, List.mem_filter] at hj
    have hjw : w j ≤ t := by simpa using hj.2
    refine List.mem_map.2 ⟨j, ?_, rfl⟩
    rcases List.mem_cons.1 ((but_perm hk).mem_iff.1 hj.1) with rfl | h
    · exact absurd hjw hw
    · exact h

/-- The way that an edge of the forest closes is itself. -/
theorem way_self [DecidableEq α] {n : Nat} {T : List α} (ha : Acyc (T.map e)) (hb : ∀ j ∈ T, (e j).1 < n ∧ (e j).2 < n) {i : α} (hi : i ∈ T) {l : List α} (h : Way e (e i).1 (e i).2 l) (hs : ∀ j ∈ l, j ∈ T) (hn : l.Nodup) (h0 : l ≠ []) : l = [i] := by
  have hall : ∀ j ∈ l, j = i := by
    intro j hj
    apply Classical.byContradiction
    intro hne
    obtain ⟨k, hk⟩ := List.getElem?_of_mem (hs j hj)
    refine h.sep ha hb hs hn hk hj (hang_mem (e := e i) (List.mem_map.2 ⟨i, ?_, rfl⟩))
    rcases List.mem_cons.1 ((but_perm hk).mem_iff.1 hi) with h | h
    · exact absurd h.symm hne
    · exact h
  cases l with
  | nil => exact absurd rfl h0
  | cons x l =>
    have := hall x (by simp)
    subst this
    cases l with
    | nil => rfl
    | cons y l =>
      have hy := hall y (by simp)
      rw [List.nodup_cons] at hn
      exact absurd (by rw [hy]; simp) hn.1

/-- An edge put in place of one of the way that it closes. -/
theorem swap_forest [DecidableEq α] {n : Nat} {T : List α} (ha : Acyc (T.map e)) (hb : ∀ j ∈ T, (e j).1 < n ∧ (e j).2 < n) {i o : α} (hbi : (e i).1 < n ∧ (e i).2 < n) {l : List α} (h : Way e (e i).1 (e i).2 l) (hs : ∀ j ∈ l, j ∈ T) (hn : l.Nodup) (ho : o ∈ l) :
    Acyc ((i :: T.filter (· ≠ o)).map e) ∧ (i :: T.filter (· ≠ o)).length = T.length ∧ ∀ u v, Hang ((i :: T.filter (· ≠ o)).map e) u v ↔ Hang (T.map e) u v := by
  obtain ⟨k, hk⟩ := List.getElem?_of_mem (hs o ho)
  have hp := but_perm hk
  have hnd := acyc_nodup ha
  have hnd2 : (o :: but T k).Nodup := hnd.perm hp
  rw [List.nodup_cons] at hnd2
  have hf : (T.filter (· ≠ o)).Perm (but T k) := by
    have h1 := hp.filter (fun x => decide (x ≠ o))
    rw [List.filter_cons] at h1
    simp only [ne_eq, not_true_eq_false, decide_false, Bool.false_eq_true, if_false] at h1
    have h2 : (but T k).filter (fun x => decide (¬ x = o)) = but T k := List.filter_eq_self.2 fun x hx => by
      have : x ≠ o := fun e' => hnd2.1 (e' ▸ hx)
      simpa using this
    rw [h2] at h1
    exact h1
  have hsep := h.sep ha hb hs hn hk ho
  have hperm : ((i :: T.filter (· ≠ o)).map e).Perm ((but T k).map e ++ [e i]) := by
    rw [List.map_cons]
    exact ((hf.map e).cons _).trans (List.perm_append_singleton _ _).symm
  have hb' : ∀ x ∈ (but T k).map e ++ [e i], x.1 < n ∧ x.2 < n := fun x hx => by
    rcases List.mem_append.1 hx with hx | hx
    · obtain ⟨j, hj, rfl⟩ := List.mem_map.1 hx
      exact hb j ((but_sub T k).subset hj)
    · rw [List.mem_singleton.1 hx]; exact hbi
  refine ⟨acyc_perm hperm.symm hb' (.snoc _ _ (acyc_sub ha ((but_sub T k).map e)) hsep), ?_, fun u v => ?_⟩
  · have := hf.length_eq
    have h2 := hp.length_eq
    simp only [List.length_cons] at h2 ⊢
    omega
  · have hT : Hang (T.map e) (e i).1 (e i).2 := h.hang hs
    have hsubT : ∀ x ∈ (but T k).map e, x ∈ T.map e := fun x hx => by
      obtain ⟨j, hj, rfl⟩ := List.mem_map.1 hx
      exact List.mem_map.2 ⟨j, (but_sub T k).subset hj, rfl⟩
    have mid : Hang ((but T k).map e ++ [e i]) u v ↔ Hang (T.map e) u v := by
      constructor
      · refine hang_mono fun x hx => ?_
        rcases List.mem_append.1 hx with hx | hx
        · exact hang_mem (hsubT x hx)
        · rw [List.mem_singleton.1 hx]; exact hT
      · refine hang_mono fun x hx => ?_
        obtain ⟨j, hj, rfl⟩ := List.mem_map.1 hx
        rcases List.mem_cons.1 (hp.mem_iff.1 hj) with rfl | hj
        · have ei : Hang ((but T k).map e ++ [e i]) (e i).1 (e i).2 := hang_mem (by simp)
          have up : ∀ {a b : Nat}, Hang ((but T k).map e) a b → Hang ((but T k).map e ++ [e i]) a b := fun h => hang_sub (fun y hy => List.mem_append_left _ hy) h
          rcases (hang_cons hp (e i).1 (e i).2).1 hT with h | ⟨h1, h2⟩ | ⟨h1, h2⟩
          · exact absurd h hsep
          · exact (up h1).symm.trans (ei.trans (up h2))
          · exact (up h2).symm.trans (ei.symm.trans (up h1))
        · exact hang_mem (List.mem_append_left _ (List.mem_map.2 ⟨j, hj, rfl⟩))
    exact (hang_perm hperm u v).trans mid

end
end Go.Proofs.Ytbnaicgmnadkgaa
