/-
  Plain law: a forest with a way up from each vertex; the way from one vertex to another one.
-/
import Derived.Test.YtbnaicgmnadkgaaForest
set_option linter.unusedVariables false
set_option linter.unusedSimpArgs false
namespace Go.Proofs.Ytbnaicgmnadkgaa

section
variable {α : Type}

/-- Of each vertex that is no topmost one: the edge to the vertex above it. -/
structure Rooted (n : Nat) (e : α → E2) (T : List α) (up : Nat → α) (deep part : Nat → Nat) : Prop where
  step : ∀ v, v < n → (part v = v ∧ deep v = 0) ∨ (up v ∈ T ∧ Touch (e (up v)) v ∧ other (e (up v)) v < n ∧ deep v = deep (other (e (up v)) v) + 1 ∧ part (other (e (up v)) v) = part v)
  same : ∀ i ∈ T, part (e i).1 = part (e i).2
  low : ∀ v, v < n → part v < n

variable {n : Nat} {e : α → E2} {T : List α} {up : Nat → α} {deep part : Nat → Nat}

theorem Rooted.top (h : Rooted n e T up deep part) {v : Nat} (hv : v < n) (hd : deep v = 0) : part v = v := by
  rcases h.step v hv with ⟨h1, _⟩ | ⟨_, _, _, h4, _⟩
  · exact h1
  · omega

/-- Each hangs together with the topmost one of its part. -/
theorem Rooted.hang_top (h : Rooted n e T up deep part) : ∀ (d v : Nat), v < n → deep v = d → Hang (T.map e) v (part v) := by
  intro d
  induction d with
  | zero => intro v hv hd; rw [h.top hv hd]; exact Hang.rfl
  | succ d ih =>
    intro v hv hd
    rcases h.step v hv with ⟨_, h2⟩ | ⟨h1, h2, h3, h4, h5⟩
    · omega
    · have := ih _ h3 (by omega)
      rw [h5] at this
      exact (touch_hang h2 (List.mem_map.2 ⟨_, h1, rfl⟩)).trans this

/-- Of one part just if they hang together. -/
theorem Rooted.part_iff (h : Rooted n e T up deep part) {u v : Nat} (hu : u < n) (hv : v < n) : part u = part v ↔ Hang (T.map e) u v := by
  constructor
  · intro hp
    have h1 := h.hang_top _ u hu rfl
    have h2 := h.hang_top _ v hv rfl
    rw [hp] at h1
    exact h1.trans h2.symm
  · exact hang_least (Q := fun u v => part u = part v) (fun _ => rfl) (fun _ _ => Eq.symm) (fun _ _ _ => Eq.trans) (fun x hx => by
      obtain ⟨i, hi, rfl⟩ := List.mem_map.1 hx
      exact h.same i hi)

/-- Two vertices do not lead up by one edge. -/
theorem Rooted.up_inj (h : Rooted n e T up deep part) {u v : Nat} (hu : u < n) (hv : v < n) (du : deep u ≠ 0) (dv : deep v ≠ 0) (he : up u = up v) : u = v := by
  apply Classical.byContradiction
  intro hne
  rcases h.step u hu with ⟨_, h2⟩ | ⟨_, h2, _, h4, _⟩
  · omega
  rcases h.step v hv with ⟨_, g2⟩ | ⟨_, g2, _, g4, _⟩
  · omega
  rw [← he] at g2 g4
  have e1 : other (e (up u)) u = v := by
    unfold other Touch at *
    omega
  have e2 : other (e (up u)) v = u := by
    unfold other Touch at *
    omega
  rw [e1] at h4
  rw [e2] at g4
  omega

/-- How far the way has come: from a0 up to a, from b0 up to b. -/
structure Climb (n : Nat) (e : α → E2) (T : List α) (up : Nat → α) (deep part : Nat → Nat) (a0 b0 a b : Nat) (fv bv : List Nat) : Prop where
  an : a < n
  bn : b < n
  same : part a = part b
  front : Way e a0 a (fv.map up)
  back : Way e b0 b (bv.map up)
  fl : ∀ v ∈ fv, v < n ∧ deep v ≠ 0 ∧ deep a < deep v ∧ deep b ≤ deep v ∧ v ≠ b
  bl : ∀ v ∈ bv, v < n ∧ deep v ≠ 0 ∧ deep a < deep v ∧ deep b < deep v
  nd : (fv ++ bv).Nodup

theorem Climb.start {a b : Nat} (ha : a < n) (hb : b < n) (hp : part a = part b) : Climb n e T up deep part a b a b [] [] :=
  ⟨ha, hb, hp, .nil a, .nil b, by simp, by simp, by simp⟩

theorem Climb.left {a0 b0 a b : Nat} {fv bv : List Nat} (h : Rooted n e T up deep part) (c : Climb n e T up deep part a0 b0 a b fv bv) (hab : a ≠ b) (hd : deep b ≤ deep a) :
    up a ∈ T ∧ Touch (e (up a)) a ∧ deep (other (e (up a)) a) < deep a ∧ Climb n e T up deep part a0 b0 (other (e (up a)) a) b (fv ++ [a]) bv := by
  rcases h.step a c.an with ⟨h1, h2⟩ | ⟨h1, h2, h3, h4, h5⟩
  · exfalso
    have := h.top c.bn (by omega)
    have := c.same
    omega
  · refine ⟨h1, h2, by omega, h3, c.bn, h5.trans c.same, ?_, c.back, fun v hv => ?_, fun v hv => ?_, ?_⟩
    · rw [List.map_append]
      exact c.front.app (.cons _ _ _ _ h2 (.nil _))
    · rcases List.mem_append.1 hv with hv | hv
      · obtain ⟨g1, g2, g3, g4, g5⟩ := c.fl v hv
        exact ⟨g1, g2, by omega, g4, g5⟩
      · rw [List.mem_singleton.1 hv]
        exact ⟨c.an, by omega, by omega, hd, hab⟩
    · obtain ⟨g1, g2, g3, g4⟩ := c.bl v hv
      exact ⟨g1, g2, by omega, g4⟩
    · have hn := c.nd
      rw [List.nodup_append] at hn
      rw [List.append_assoc, List.singleton_append, List.nodup_append, List.nodup_cons]
      refine ⟨hn.1, ⟨fun hm => ?_, hn.2.1⟩, fun x hx y hy => ?_⟩
      · have := c.bl a hm; omega
      · rcases List.mem_cons.1 hy with rfl | hy
        · intro e; have := c.fl x hx; rw [e] at this; omega
        · exact hn.2.2 x hx y hy

theorem Climb.right {a0 b0 a b : Nat} {fv bv : List Nat} (h : Rooted n e T up deep part) (c : Climb n e T up deep part a0 b0 a b fv bv) (hd : deep a < deep b) :
    up b ∈ T ∧ Touch (e (up b)) b ∧ deep (other (e (up b)) b) < deep b ∧ Climb n e T up deep part a0 b0 a (other (e (up b)) b) fv (bv ++ [b]) := by
  rcases h.step b c.bn with ⟨h1, h2⟩ | ⟨h1, h2, h3, h4, h5⟩
  · omega
  · refine ⟨h1, h2, by omega, c.an, h3, c.same.trans h5.symm, c.front, ?_, fun v hv => ?_, fun v hv => ?_, ?_⟩
    · rw [List.map_append]
      exact c.back.app (.cons _ _ _ _ h2 (.nil _))
    · obtain ⟨g1, g2, g3, g4, g5⟩ := c.fl v hv
      exact ⟨g1, g2, g3, by omega, fun e => by rw [e] at g4; omega⟩
    · rcases List.mem_append.1 hv with hv | hv
      · obtain ⟨g1, g2, g3, g4⟩ := c.bl v hv
        exact ⟨g1, g2, g3, by omega⟩
      · rw [List.mem_singleton.1 hv]
        exact ⟨c.bn, by omega, by omega, by omega⟩
    · have hn := c.nd
      rw [← List.append_assoc, List.nodup_append]
      refine ⟨hn, by simp, fun x hx y hy => ?_⟩
      rw [List.mem_singleton] at hy
      subst hy
      intro e
      subst e
      rcases List.mem_append.1 hx with hx | hx
      · exact (c.fl x hx).2.2.2.2 rfl
      · have := (c.bl x hx).2.2.2; omega

theorem nodup_map_on {β : Type} (f : Nat → β) : ∀ l : List Nat, l.Nodup → (∀ u ∈ l, ∀ v ∈ l, f u = f v → u = v) → (l.map f).Nodup := by
  intro l
  induction l with
  | nil => intro _ _; simp
  | cons x l ih =>
    intro hn hi
    rw [List.nodup_cons] at hn
    rw [List.map_cons, List.nodup_cons]
    refine ⟨fun hm => ?_, ih hn.2 fun u hu v hv => hi u (List.mem_cons_of_mem _ hu) v (List.mem_cons_of_mem _ hv)⟩
    obtain ⟨y, hy, he⟩ := List.mem_map.1 hm
    have := hi y (List.mem_cons_of_mem _ hy) x (List.mem_cons_self ..) he
    exact hn.1 (this ▸ hy)

/-- Where both have met: the way. -/
theorem Climb.meet {a0 b0 a : Nat} {fv bv : List Nat} (h : Rooted n e T up deep part) (c : Climb n e T up deep part a0 b0 a a fv bv) :
    Way e a0 b0 (fv.map up ++ (bv.map up).reverse) ∧ (∀ i ∈ fv.map up ++ (bv.map up).reverse, i ∈ T) ∧ (fv.map up ++ (bv.map up).reverse).Nodup := by
  have hlt : ∀ v ∈ fv ++ bv, v < n ∧ deep v ≠ 0 := fun v hv => by
    rcases List.mem_append.1 hv with hv | hv
    · exact ⟨(c.fl v hv).1, (c.fl v hv).2.1⟩
    · exact ⟨(c.bl v hv).1, (c.bl v hv).2.1⟩
  refine ⟨c.front.app c.back.rev, fun i hi => ?_, ?_⟩
  · obtain ⟨v, hv, rfl⟩ : ∃ v ∈ fv ++ bv, up v = i := by
      rcases List.mem_append.1 hi with hi | hi
      · obtain ⟨v, hv, h⟩ := List.mem_map.1 hi; exact ⟨v, List.mem_append_left _ hv, h⟩
      · obtain ⟨v, hv, h⟩ := List.mem_map.1 (List.mem_reverse.1 hi); exact ⟨v, List.mem_append_right _ hv, h⟩
    obtain ⟨h1, h2⟩ := hlt v hv
    rcases h.step v h1 with ⟨_, g2⟩ | ⟨g1, _⟩
    · omega
    · exact g1
  · have hm := nodup_map_on up _ c.nd fun u hu v hv he => h.up_inj (hlt u hu).1 (hlt v hv).1 (hlt u hu).2 (hlt v hv).2 he
    rw [List.map_append] at hm
    exact hm.perm ((List.reverse_perm _).symm.append_left _)

end

def upd {β : Type} (f : Nat → β) (k : Nat) (x : β) : Nat → β := fun v => if v = k then x else f v

/-- What is known while it goes on: p (of each vertex its part's topmost, or -1), up, deep; which part grows; which vertices wait; and of which one (if of any) the edges are just looked at, and which are left. -/
structure Dfs (n : Nat) (e : Int → E2) (T : List Int) (p up : Nat → Int) (deep : Nat → Nat) (root : Int) (todo : List Nat) (cur : Option (Nat × List Int)) : Prop where
  step : ∀ v, v < n → p v ≠ -1 → (p v = (v : Int) ∧ deep v = 0) ∨ (up v ∈ T ∧ Touch (e (up v)) v ∧ other (e (up v)) v < n ∧ deep v = deep (other (e (up v)) v) + 1 ∧ p (other (e (up v)) v) = p v)
  low : ∀ v, v < n → p v ≠ -1 → 0 ≤ p v ∧ p v < n
  zero : ∀ v, v < n → p v = -1 → deep v = 0
  wait : ∀ v ∈ todo, v < n ∧ p v = root
  closed : ∀ v, v < n → p v ≠ -1 → v ∉ todo → (∀ r, cur ≠ some (v, r)) → ∀ i ∈ T, Touch (e i) v → p (other (e i) v) = p v
  look : ∀ v r, cur = some (v, r) → v < n ∧ p v = root ∧ ∀ i ∈ T, Touch (e i) v → i ∈ r ∨ p (other (e i) v) = root
  rlow : (todo ≠ [] ∨ cur ≠ none) → 0 ≤ root

variable {n : Nat} {e : Int → E2} {T : List Int} {p up : Nat → Int} {deep : Nat → Nat} {root : Int} {todo : List Nat} {cur : Option (Nat × List Int)}

theorem Dfs.begin (n : Nat) (e : Int → E2) (T : List Int) (up : Nat → Int) : Dfs n e T (fun _ => -1) up (fun _ => 0) (-1) [] none :=
  ⟨fun v _ h => absurd rfl h, fun v _ h => absurd rfl h, fun _ _ _ => rfl, by simp, fun v _ h => absurd rfl h, by simp, by simp⟩

theorem other_lt (hb : ∀ i ∈ T, (e i).1 < n ∧ (e i).2 < n) {i : Int} (hi : i ∈ T) {v : Nat} (t : Touch (e i) v) : other (e i) v < n := by
  have := hb i hi
  unfold other Touch at *
  omega

/-- A part begins. -/
theorem Dfs.top (d : Dfs n e T p up deep root [] none) {v : Nat} (hv : v < n) (hp : p v = -1) : Dfs n e T (upd p v v) (upd up v (-1)) deep v [v] none := by
  have ne : ∀ x, x < n → p x ≠ -1 → x ≠ v := fun x _ h e => h (by rw [e]; exact hp)
  refine ⟨fun x hx h => ?_, fun x hx h => ?_, fun x hx h => ?_, ?_, fun x hx h hn _ i hi t => ?_, by simp, fun _ => by omega⟩
  · unfold upd at h ⊢
    by_cases hxv : x = v
    · subst hxv; rw [if_pos rfl]; exact .inl ⟨rfl, d.zero _ hx hp⟩
    · rw [if_neg hxv] at h ⊢
      rw [if_neg hxv]
      rcases d.step x hx h with h1 | ⟨h1, h2, h3, h4, h5⟩
      · exact .inl h1
      · right
        have : other (e (up x)) x ≠ v := fun e' => by rw [e', hp] at h5; exact h h5.symm
        exact ⟨h1, h2, h3, h4, by rw [if_neg this]; exact h5⟩
  · unfold upd at h ⊢
    by_cases hxv : x = v
    · rw [if_pos hxv]; omega
    · rw [if_neg hxv] at h ⊢; exact d.low x hx h
  · unfold upd at h
    by_cases hxv : x = v
    · rw [if_pos hxv] at h; omega
    · rw [if_neg hxv] at h; exact d.zero x hx h
  · intro x hx
    rw [List.mem_singleton.1 hx]
    exact ⟨hv, by unfold upd; rw [if_pos rfl]⟩
  · have hxv : x ≠ v := fun e => hn (by rw [e]; simp)
    have h' : p x ≠ -1 := by unfold upd at h; rw [if_neg hxv] at h; exact h
    have hc := d.closed x hx h' (by simp) (by simp) i hi t
    unfold upd
    have : other (e i) x ≠ v := fun e' => by rw [e', hp] at hc; exact h' hc.symm
    rw [if_neg this, if_neg hxv]
    exact hc

/-- The last one that waits is looked at. -/
theorem Dfs.pop {v : Nat} (d : Dfs n e T p up deep root (todo ++ [v]) none) {r : List Int} (hr : ∀ i ∈ T, Touch (e i) v → i ∈ r) : Dfs n e T p up deep root todo (some (v, r)) := by
  obtain ⟨hv, hp⟩ := d.wait v (by simp)
  have h0 := d.rlow (.inl (by simp))
  refine ⟨d.step, d.low, d.zero, fun x hx => d.wait x (List.mem_append_left _ hx), fun x hx h hn hc i hi t => ?_, ?_, fun _ => h0⟩
  · have hxv : x ≠ v := fun e => hc r (by rw [e])
    exact d.closed x hx h (by simp [hn, hxv]) (by simp) i hi t
  · intro x r' he
    injection he with he
    injection he with h1 h2
    subst h1; subst h2
    exact ⟨hv, hp, fun i hi t => .inl (hr i hi t)⟩

/-- An edge of it is looked at: the other end may be new. -/
theorem Dfs.edge (hb : ∀ i ∈ T, (e i).1 < n ∧ (e i).2 < n) {v : Nat} {i : Int} {r : List Int} (d : Dfs n e T p up deep root todo (some (v, i :: r))) (hi : i ∈ T) (t : Touch (e i) v) (hw : p (other (e i) v) = -1) :
    Dfs n e T (upd p (other (e i) v) root) (upd up (other (e i) v) i) (upd deep (other (e i) v) (deep v + 1)) root (todo ++ [other (e i) v]) (some (v, r)) := by
  obtain ⟨hv, hp, hcur⟩ := d.look v _ rfl
  have h0 := d.rlow (.inr (by simp))
  have hwn := other_lt hb hi t
  obtain ⟨t1, t2⟩ := other_touch t
  generalize hW : other (e i) v = w at *
  have hvw : v ≠ w := fun e => by rw [e, hw] at hp; omega
  have hpv : p v ≠ -1 := by omega
  refine ⟨fun x hx h => ?_, fun x hx h => ?_, fun x hx h => ?_, fun x hx => ?_, fun x hx h hn hc j hj tj => ?_, ?_, fun _ => h0⟩
  · unfold upd at h ⊢
    by_cases hxw : x = w
    · subst hxw
      right
      simp only [if_pos]
      refine ⟨hi, t1, by rw [t2]; exact hv, ?_, ?_⟩
      · rw [t2, if_neg hvw]
      · rw [t2, if_neg hvw]; exact hp
    · simp only [if_neg hxw] at h ⊢
      rcases d.step x hx h with h1 | ⟨h1, h2, h3, h4, h5⟩
      · exact .inl h1
      · right
        have : other (e (up x)) x ≠ w := fun e' => by rw [e', hw] at h5; exact h h5.symm
        exact ⟨h1, h2, h3, by rw [if_neg this]; exact h4, by rw [if_neg this]; exact h5⟩
  · unfold upd at h ⊢
    by_cases hxw : x = w
    · rw [if_pos hxw]
      have := d.low v hv hpv
      omega
    · rw [if_neg hxw] at h ⊢; exact d.low x hx h
  · unfold upd at h ⊢
    by_cases hxw : x = w
    · rw [if_pos hxw] at h; omega
    · rw [if_neg hxw] at h ⊢; exact d.zero x hx h
  · unfold upd
    rcases List.mem_append.1 hx with hx | hx
    · obtain ⟨h1, h2⟩ := d.wait x hx
      have : x ≠ w := fun e => by rw [e, hw] at h2; omega
      rw [if_neg this]
      exact ⟨h1, h2⟩
    · rw [List.mem_singleton.1 hx, if_pos rfl]
      exact ⟨hwn, rfl⟩
  · have hxw : x ≠ w := fun e => hn (by rw [e]; simp)
    have h' : p x ≠ -1 := by unfold upd at h; rw [if_neg hxw] at h; exact h
    have hc := d.closed x hx h' (fun hm => hn (List.mem_append_left _ hm)) (fun r' he => by
      injection he with he
      injection he with h1 h2
      exact hc r (by rw [h1])) j hj tj
    unfold upd
    have : other (e j) x ≠ w := fun e' => by rw [e', hw] at hc; exact h' hc.symm
    rw [if_neg this, if_neg hxw]
    exact hc
  · intro x r' he
    injection he with he
    injection he with h1 h2
    subst h1; subst h2
    refine ⟨hv, by unfold upd; rw [if_neg hvw]; exact hp, fun j hj tj => ?_⟩
    unfold upd
    rcases hcur j hj tj with h | h
    · rcases List.mem_cons.1 h with rfl | h
      · right; rw [hW, if_pos rfl]
      · exact .inl h
    · right
      split
      · rfl
      · exact h

/-- An edge of it is looked at: the other end is there. -/
theorem Dfs.skip (hb : ∀ i ∈ T, (e i).1 < n ∧ (e i).2 < n) {v : Nat} {i : Int} {r : List Int} (d : Dfs n e T p up deep root todo (some (v, i :: r))) (hi : i ∈ T) (t : Touch (e i) v) (hw : p (other (e i) v) ≠ -1) :
    Dfs n e T p up deep root todo (some (v, r)) := by
  obtain ⟨hv, hp, hcur⟩ := d.look v _ rfl
  have h0 := d.rlow (.inr (by simp))
  have hwn := other_lt hb hi t
  obtain ⟨t1, t2⟩ := other_touch t
  have hroot : p (other (e i) v) = root := by
    apply Classical.byContradiction
    intro hne
    by_cases hvw : other (e i) v = v
    · rw [hvw] at hne; exact hne hp
    have := d.closed _ hwn hw (fun hm => hne (d.wait _ hm).2) (fun r' he => by
      injection he with he
      injection he with h1 h2
      exact hvw h1.symm) i hi t1
    rw [t2] at this
    exact hne (this ▸ hp)
  refine ⟨d.step, d.low, d.zero, d.wait, fun x hx h hn hc j hj tj => ?_, ?_, fun _ => h0⟩
  · exact d.closed x hx h hn (fun r' he => by
      injection he with he
      injection he with h1 h2
      exact hc r (by rw [h1])) j hj tj
  · intro x r' he
    injection he with he
    injection he with h1 h2
    subst h1; subst h2
    refine ⟨hv, hp, fun j hj tj => ?_⟩
    rcases hcur j hj tj with h | h
    · rcases List.mem_cons.1 h with rfl | h
      · exact .inr hroot
      · exact .inl h
    · exact .inr h

/-- All its edges have been looked at. -/
theorem Dfs.over {v : Nat} (d : Dfs n e T p up deep root todo (some (v, []))) : Dfs n e T p up deep root todo none := by
  obtain ⟨hv, hp, hcur⟩ := d.look v _ rfl
  refine ⟨d.step, d.low, d.zero, d.wait, fun x hx h hn _ j hj tj => ?_, by simp, fun _ => d.rlow (.inr (by simp))⟩
  by_cases hxv : x = v
  · subst hxv
    rcases hcur j hj tj with h | h
    · cases h
    · rw [h, hp]
  · exact d.closed x hx h hn (fun r' he => by
      injection he with he
      injection he with h1 h2
      exact hxv h1.symm) j hj tj

/-- All vertices have their part. -/
theorem Dfs.rooted (hb : ∀ i ∈ T, (e i).1 < n ∧ (e i).2 < n) (d : Dfs n e T p up deep root [] none) (hall : ∀ v, v < n → p v ≠ -1) : Rooted n e T up deep (fun v => (p v).toNat) := by
  refine ⟨fun v hv => ?_, fun i hi => ?_, fun v hv => ?_⟩
  · rcases d.step v hv (hall v hv) with ⟨h1, h2⟩ | ⟨h1, h2, h3, h4, h5⟩
    · exact .inl ⟨by omega, h2⟩
    · exact .inr ⟨h1, h2, h3, h4, by rw [h5]⟩
  · have h1 := (hb i hi).1
    have := d.closed _ h1 (hall _ h1) (by simp) (by simp) i hi (.inl rfl)
    unfold other at this
    rw [show (e i).1 + (e i).2 - (e i).1 = (e i).2 by omega] at this
    rw [this]
  · have := d.low v hv (hall v hv)
    omega

end Go.Proofs.Ytbnaicgmnadkgaa
