/-
  The package names: numbers of heaps, some of which count as others: what each function does.
-/
import Derived.Test.YtbnaicgmnadkgaaBase
set_option linter.unusedVariables false
set_option linter.unusedSimpArgs false
namespace Go.Proofs.Ytbnaicgmnadkgaa
open Go Go.Vc

/-- A forest over the numbers below n: where each leads, and its root. -/
structure Forest (into : List Int) (rt d : Nat → Nat) : Prop where
  pos : 0 < into.length
  low : ∀ i, i < into.length → rt i < into.length
  idem : ∀ i, i < into.length → rt (rt i) = rt i
  step : ∀ i, i < into.length → ∃ j : Nat, into[i]? = some (j : Int) ∧ j < into.length ∧ rt j = rt i ∧ (j = i ↔ rt i = i) ∧ (j ≠ i → d j < d i)
  zero : rt 0 = 0
  nz : ∀ i, i < into.length → rt i = 0 → i = 0

/-- Names in memory: how many numbers there are (the place 0 among them), the roots, the most, the count. -/
structure NamesAt (H : Hp) (b s : Nat) (len : Nat) (rt : Nat → Nat) (most : Int) : Prop where
  rep : ∃ sv into cnt, H.own b = some [sv, i64 most, i64 cnt] ∧ Sl H 1 sv len (into.map i64) (some s) ∧ (∃ d, Forest into rt d) ∧ into.length = len
  ne : b ≠ s
  le : (len : Int) - 1 ≤ most
  most : 0 ≤ most ∧ most ≤ 65536

theorem NamesAt.ext {H H' : Hp} {b s len : Nat} {rt : Nat → Nat} {most : Int} {S : Nat → Prop} (h : NamesAt H b s len rt most) (e : Ext S H H') (h1 : ¬ S b) (h2 : ¬ S s) : NamesAt H' b s len rt most := by
  obtain ⟨⟨sv, into, cnt, a1, a2, a3, a4⟩, h3, h4, h5⟩ := h
  exact ⟨⟨sv, into, cnt, e.own a1 h1, a2.ext e (fun x hx => by injection hx with hx; exact hx ▸ h2), a3, a4⟩, h3, h4, h5⟩

theorem names_New_spec (most : Int) (H : Hp) : CallH Try.prog n_names_New [i64 most] H fun v H' => Post (
    Fresh H H' ∧ ((¬ (0 ≤ most ∧ most ≤ 65536) ∧ v = .tuple [.pointer none, i64 31].toArray) ∨
      (0 ≤ most ∧ most ≤ 65536) ∧ ∃ b s, v = .tuple [ptr b, i64 0].toArray ∧ NamesAt H' b s 1 id most ∧ H.size ≤ b ∧ H.size ≤ s ∧ b < H'.size ∧ s < H'.size)) := by
  refine c_names_New ⟨rfl, ?_⟩
  simp (disch := (first | omega | (simp only [size_new, size_newm, size_wr, size_wrm] <;> omega) | fail)) only [go_sem, Nat.reduceBEq, Nat.reduceAdd, Nat.reduceMul, Nat.reduceLeDiff, ↓reduceIte, rd_new_lt, own_new_lt, mp_new_lt, rd_newm_lt, own_newm_lt, mp_newm_lt, rd_wr_ne, own_wr_ne, mp_wr_ne, rd_wrm_ne, own_wrm_ne, mp_wrm_ne, rd_new_eq, own_new_eq, mp_newm_eq, s_names_New]
  refine Both.dec (fun h => ?_) (fun h => ?_) <;> simp (disch := (first | omega | (simp only [size_new, size_newm, size_wr, size_wrm] <;> omega) | fail)) only [go_sem, Nat.reduceBEq, Nat.reduceAdd, Nat.reduceMul, Nat.reduceLeDiff, ↓reduceIte, rd_new_lt, own_new_lt, mp_new_lt, rd_newm_lt, own_newm_lt, mp_newm_lt, rd_wr_ne, own_wr_ne, mp_wr_ne, rd_wrm_ne, own_wrm_ne, mp_wrm_ne, rd_new_eq, own_new_eq, mp_newm_eq]
  · exact ⟨Ext.refl _ _, .inl ⟨by omega, rfl⟩⟩
  · refine Both.dec (fun h2 => ?_) (fun h2 => ?_) <;> simp (disch := (first | omega | (simp only [size_new, size_newm, size_wr, size_wrm] <;> omega) | fail)) only [go_sem, Nat.reduceBEq, Nat.reduceAdd, Nat.reduceMul, Nat.reduceLeDiff, ↓reduceIte, rd_new_lt, own_new_lt, mp_new_lt, rd_newm_lt, own_newm_lt, mp_newm_lt, rd_wr_ne, own_wr_ne, mp_wr_ne, rd_wrm_ne, own_wrm_ne, mp_wrm_ne, rd_new_eq, own_new_eq, mp_newm_eq]
    · exact ⟨Ext.refl _ _, .inl ⟨by omega, rfl⟩⟩
    · refine ⟨((Ext.refl _ _).new _ _).new _ _, .inr ⟨by omega, _, _, rfl, ⟨⟨_, [0], 0, by rw [← size_new H 3 [Value.int .i64 0]]; exact own_new _ _ _,
        (Sl.lit H 3 1 1 [i64 0] rfl).ext ((Ext.refl (fun _ => False) _).new _ _) (fun _ _ h => h), ?_, rfl⟩, ?_, by omega, by omega⟩, ?_, ?_, ?_, ?_⟩⟩
      · exact ⟨fun _ => 0, by simp, fun i hi => hi, fun i hi => rfl, fun i hi => ⟨0, by simp at hi; subst hi; rfl, by simp, by simp at hi; subst hi; rfl, by simp at hi; subst hi; simp, by simp at hi; subst hi; simp⟩, rfl, fun i hi h => h⟩
      all_goals (try simp only [size_new]); omega

theorem forest_bound {into : List Int} {rt d : Nat → Nat} (h : Forest into rt d) {i : Nat} (hi : i < into.length) : ∃ j : Nat, into[i]? = some (j : Int) ∧ j < into.length ∧ rt j = rt i ∧ (j = i ↔ rt i = i) := by
  have hd := h.step
  obtain ⟨j, h1, h2, h3, h4, _⟩ := hd i hi
  exact ⟨j, h1, h2, h3, h4⟩

theorem names_Last_spec {H : Hp} {b s len : Nat} {rt : Nat → Nat} {most : Int} (h : NamesAt H b s len rt most) : CallH Try.prog n_names_Names_Last [ptr b] H fun v H' => Post (v = i64 ((len : Int) - 1) ∧ H = H') := by
  obtain ⟨⟨sv, into, cnt, a1, ⟨a2, l, c, rfl, a3⟩, a4, a5⟩, h1, h2, h3⟩ := h
  refine c_names_Names_Last ⟨rfl, ?_⟩
  simp (disch := (first | omega | (simp only [size_new, size_newm, size_wr, size_wrm] <;> omega) | fail)) only [go_sem, Nat.reduceBEq, Nat.reduceAdd, Nat.reduceMul, Nat.reduceLeDiff, ↓reduceIte, rd_new_lt, own_new_lt, mp_new_lt, rd_newm_lt, own_newm_lt, mp_newm_lt, rd_wr_ne, own_wr_ne, mp_wr_ne, rd_wrm_ne, own_wrm_ne, mp_wrm_ne, rd_new_eq, own_new_eq, mp_newm_eq, s_names_Names_Last, rd_of_own a1]
  rw [wrap64 (by omega) (by omega)]
  exact ⟨rfl, rfl⟩

theorem names_made_spec {H : Hp} {b s len : Nat} {rt : Nat → Nat} {most : Int} (h : NamesAt H b s len rt most) (i : Int) : CallH Try.prog n_names_Names_made [ptr b, i64 i] H fun v H' => Post (v = .bool (decide (0 < i ∧ i < len)) ∧ H = H') := by
  obtain ⟨⟨sv, into, cnt, a1, ⟨a2, l, c, rfl, a3⟩, a4, a5⟩, h1, h2, h3⟩ := h
  refine c_names_Names_made ⟨rfl, ?_⟩
  simp (disch := (first | omega | (simp only [size_new, size_newm, size_wr, size_wrm] <;> omega) | fail)) only [go_sem, Nat.reduceBEq, Nat.reduceAdd, Nat.reduceMul, Nat.reduceLeDiff, ↓reduceIte, rd_new_lt, own_new_lt, mp_new_lt, rd_newm_lt, own_newm_lt, mp_newm_lt, rd_wr_ne, own_wr_ne, mp_wr_ne, rd_wrm_ne, own_wrm_ne, mp_wrm_ne, rd_new_eq, own_new_eq, mp_newm_eq, s_names_Names_made]
  refine Both.dec (fun h => ?_) (fun h => ?_) <;> simp (disch := (first | omega | (simp only [size_new, size_newm, size_wr, size_wrm] <;> omega) | fail)) only [go_sem, Nat.reduceBEq, Nat.reduceAdd, Nat.reduceMul, Nat.reduceLeDiff, ↓reduceIte, rd_new_lt, own_new_lt, mp_new_lt, rd_newm_lt, own_newm_lt, mp_newm_lt, rd_wr_ne, own_wr_ne, mp_wr_ne, rd_wrm_ne, own_wrm_ne, mp_wrm_ne, rd_new_eq, own_new_eq, mp_newm_eq, rd_of_own a1]
  · refine ⟨congrArg Value.bool ?_, rfl⟩
    rw [decide_eq_decide]; omega
  · exact ⟨congrArg Value.bool (decide_eq_false (by omega)).symm, rfl⟩

/-- The cell of a number. -/
theorem into_get {into : List Int} {l : List Value} {n : Nat} (h : l.take (n * 1) = into.map i64) {i j : Nat} (hj : into[i]? = some (j : Int)) : l[i]? = some (i64 j) := by
  have h1 : (into.map i64)[i]? = some (i64 j) := by simp [hj]
  rw [← h] at h1
  rw [List.getElem?_take] at h1
  split at h1
  · exact h1
  · cases h1

theorem names_Has_spec {H : Hp} {b s len : Nat} {rt : Nat → Nat} {most : Int} (h : NamesAt H b s len rt most) (i : Int) :
    CallH Try.prog n_names_Names_Has [ptr b, i64 i] H fun v H' => Post (v = .bool (decide (0 < i ∧ i < len ∧ rt i.toNat = i.toNat)) ∧ H = H') := by
  have hm := names_made_spec h i
  obtain ⟨⟨sv, into, cnt, a1, ⟨a2, l, c, rfl, a3, b1, b2, b3⟩, ⟨d, a4⟩, a5⟩, h1, h2, h3⟩ := h
  refine c_names_Names_Has ⟨rfl, ?_⟩
  simp (disch := (first | omega | (simp only [size_new, size_newm, size_wr, size_wrm] <;> omega) | fail)) only [go_sem, Nat.reduceBEq, Nat.reduceAdd, Nat.reduceMul, Nat.reduceLeDiff, ↓reduceIte, rd_new_lt, own_new_lt, mp_new_lt, rd_newm_lt, own_newm_lt, mp_newm_lt, rd_wr_ne, own_wr_ne, mp_wr_ne, rd_wrm_ne, own_wrm_ne, mp_wrm_ne, rd_new_eq, own_new_eq, mp_newm_eq, s_names_Names_Has]
  refine hm.mono ?_
  rintro _ _ ⟨rfl, rfl⟩
  simp (disch := (first | omega | (simp only [size_new, size_newm, size_wr, size_wrm] <;> omega) | fail)) only [go_sem, Nat.reduceBEq, Nat.reduceAdd, Nat.reduceMul, Nat.reduceLeDiff, ↓reduceIte, rd_new_lt, own_new_lt, mp_new_lt, rd_newm_lt, own_newm_lt, mp_newm_lt, rd_wr_ne, own_wr_ne, mp_wr_ne, rd_wrm_ne, own_wrm_ne, mp_wrm_ne, rd_new_eq, own_new_eq, mp_newm_eq]
  refine Both.dec (fun h => ?_) (fun h => ?_) <;> simp (disch := (first | omega | (simp only [size_new, size_newm, size_wr, size_wrm] <;> omega) | fail)) only [go_sem, Nat.reduceBEq, Nat.reduceAdd, Nat.reduceMul, Nat.reduceLeDiff, ↓reduceIte, rd_new_lt, own_new_lt, mp_new_lt, rd_newm_lt, own_newm_lt, mp_newm_lt, rd_wr_ne, own_wr_ne, mp_wr_ne, rd_wrm_ne, own_wrm_ne, mp_wrm_ne, rd_new_eq, own_new_eq, mp_newm_eq, rd_of_own a1]
  · obtain ⟨j, e1, e2, e3, e4⟩ := forest_bound a4 (i := i.toNat) (by omega)
    refine ⟨by omega, ?_⟩
    simp (disch := (first | omega | (simp only [size_new, size_newm, size_wr, size_wrm] <;> omega) | fail)) only [go_sem, Nat.reduceBEq, Nat.reduceAdd, Nat.reduceMul, Nat.reduceLeDiff, ↓reduceIte, rd_new_lt, own_new_lt, mp_new_lt, rd_newm_lt, own_newm_lt, mp_newm_lt, rd_wr_ne, own_wr_ne, mp_wr_ne, rd_wrm_ne, own_wrm_ne, mp_wrm_ne, rd_new_eq, own_new_eq, mp_newm_eq, rd_of_own a3, Nat.mul_one, into_get b3 e1]
    refine ⟨congrArg Value.bool ?_, rfl⟩
    rw [decide_eq_decide]
    constructor
    · intro hh; exact ⟨h.1, h.2, e4.1 (by omega)⟩
    · rintro ⟨_, _, hh⟩; have := e4.2 hh; omega
  · exact ⟨congrArg Value.bool (decide_eq_false (by omega)).symm, rfl⟩

/-- A root more. -/
theorem Forest.make {into : List Int} {rt d : Nat → Nat} (h : Forest into rt d) : Forest (into ++ [(into.length : Int)]) (fun i => if i = into.length then i else rt i) d := by
  have hd := h.step
  have hp := h.pos
  refine ⟨by simp, fun i hi => ?_, fun i hi => ?_, fun i hi => ?_, ?_, fun i hi hz => ?_⟩
  · simp only [List.length_append, List.length_cons, List.length_nil] at hi ⊢
    split
    · omega
    · have := h.low i (by omega); omega
  · simp only [List.length_append, List.length_cons, List.length_nil] at hi
    by_cases e : i = into.length
    · simp [e]
    · have h1 := h.low i (by omega)
      simp only [if_neg e, if_neg (show rt i ≠ into.length by omega)]
      exact h.idem i (by omega)
  · simp only [List.length_append, List.length_cons, List.length_nil] at hi
    by_cases e : i = into.length
    · subst e
      exact ⟨into.length, by simp, by simp, by simp, by simp, by simp⟩
    · obtain ⟨j, h1, h2, h3, h4, h5⟩ := hd i (by omega)
      refine ⟨j, by rw [List.getElem?_append_left (by omega)]; exact h1, by simp; omega, ?_, ?_, h5⟩
      · simp only [if_neg e, if_neg (show j ≠ into.length by omega)]; exact h3
      · simp only [if_neg e]; exact h4
  · simp only [if_neg (show (0 : Nat) ≠ into.length by omega)]; exact h.zero
  · simp only [List.length_append, List.length_cons, List.length_nil] at hi
    by_cases e : i = into.length
    · simp only [e, if_true] at hz; omega
    · simp only [if_neg e] at hz; exact h.nz i (by omega) hz

/-- The second root is put below the first one. -/
theorem Forest.join {into : List Int} {rt d : Nat → Nat} (h : Forest into rt d) {a b : Nat} (ha : a < into.length) (hb : b < into.length) (ra : rt a = a) (rb : rt b = b) (hab : a ≠ b) (h0 : b ≠ 0) (ha0 : a ≠ 0) :
    Forest (into.set b (a : Int)) (fun i => if rt i = b then a else rt i) (fun i => if rt i = b then d i + d a + 1 else d i) := by
  have hd := h.step
  refine ⟨by simpa using h.pos, fun i hi => ?_, fun i hi => ?_, fun i hi => ?_, ?_, fun i hi hz => ?_⟩
  · simp only [List.length_set] at hi ⊢
    split
    · exact ha
    · exact h.low i hi
  · simp only [List.length_set] at hi
    by_cases e : rt i = b
    · simp only [e, if_true, ra, if_neg hab]
    · simp only [if_neg e, h.idem i hi]
  · simp only [List.length_set] at hi
    obtain ⟨j, h1, h2, h3, h4, h5⟩ := hd i hi
    by_cases e : i = b
    · subst e
      refine ⟨a, by simp [hi], by simpa using ha, ?_, ?_, ?_⟩
      · simp only [ra, rb, if_neg hab, if_true]
      · simp only [rb, if_true]
      · intro _; simp only [ra, rb, if_neg hab, if_true]; omega
    · refine ⟨j, by rw [List.getElem?_set_ne (Ne.symm e)]; exact h1, by simpa using h2, ?_, ?_, ?_⟩
      · simp only [h3]
      · by_cases e2 : rt i = b
        · simp only [e2, if_true]
          constructor
          · intro hji; have := h4.1 hji; omega
          · intro hai; rw [← hai, ra] at e2; exact absurd e2 hab
        · simp only [if_neg e2]; exact h4
      · intro hji
        have := h5 hji
        simp only [h3]
        split <;> omega
  · simp only [h.zero, if_neg (Ne.symm h0)]
  · simp only [List.length_set] at hi
    by_cases e : rt i = b
    · simp only [e, if_true] at hz; exact absurd hz ha0
    · simp only [if_neg e] at hz; exact h.nz i hi hz

/-- A number is put below one that stands higher. -/
theorem Forest.skip {into : List Int} {rt d : Nat → Nat} (h : Forest into rt d) {i j k : Nat} (hi : into[i]? = some (j : Int)) (hj : into[j]? = some (k : Int)) (hne : j ≠ i) :
    Forest (into.set i (k : Int)) rt d ∧ k < into.length ∧ rt k = rt i ∧ d k < d i := by
  have hd := h.step
  have hil : i < into.length := (List.getElem?_eq_some_iff.1 hi).1
  have hjl : j < into.length := (List.getElem?_eq_some_iff.1 hj).1
  obtain ⟨j', e1, e2, e3, e4, e5⟩ := hd i hil
  rw [hi] at e1
  have ej : j' = j := by injection e1 with e1; omega
  subst ej
  obtain ⟨k', f1, f2, f3, f4, f5⟩ := hd j' hjl
  rw [hj] at f1
  have ek : k' = k := by injection f1 with f1; omega
  subst ek
  have hdk : d k' ≤ d j' := by
    by_cases e : k' = j'
    · rw [e]; omega
    · exact Nat.le_of_lt (f5 e)
  have hdj := e5 hne
  have hki : k' ≠ i := fun e => by rw [e] at hdk; omega
  refine ⟨⟨by simpa using h.pos, fun x hx => by simp only [List.length_set] at hx ⊢; exact h.low x hx, fun x hx => h.idem x (by simpa using hx), fun x hx => ?_, h.zero, fun x hx => h.nz x (by simpa using hx)⟩, f2, f3.trans e3, by omega⟩
  simp only [List.length_set] at hx
  by_cases e : x = i
  · subst e
    refine ⟨k', by simp [hx], by simpa using f2, f3.trans e3, ?_, fun _ => by omega⟩
    constructor
    · intro hh; exact absurd hh hki
    · intro hh; exact absurd (e4.2 hh) hne
  · obtain ⟨y, y1, y2, y3, y4, y5⟩ := hd x hx
    exact ⟨y, by rw [List.getElem?_set_ne (Ne.symm e)]; exact y1, by simpa using y2, y3, y4, y5⟩

theorem allOne_ints (l : List Int) : allOne (l.map i64) := by
  intro v hv
  obtain ⟨x, _, rfl⟩ := List.mem_map.1 hv
  rfl

theorem names_Make_spec {H : Hp} {b s len : Nat} {rt : Nat → Nat} {most : Int} (h : NamesAt H b s len rt most) :
    CallH Try.prog n_names_Names_Make [ptr b] H fun v H' => Post (
      ((len : Int) - 1 = most ∧ v = .tuple [i64 0, .bool false].toArray ∧ H = H') ∨
      ((len : Int) - 1 ≠ most ∧ v = .tuple [i64 len, .bool true].toArray ∧ ∃ s', NamesAt H' b s' (len + 1) (fun i => if i = len then i else rt i) most ∧ Ext (fun x => x = b ∨ x = s) H H' ∧ (s' = s ∨ (H.size ≤ s' ∧ s' < H'.size)))) := by
  have hl := names_Last_spec h
  obtain ⟨⟨sv, into, cnt, a1, a2, ⟨d, a4⟩, a5⟩, h1, h2, h3⟩ := h
  have a2' := a2
  obtain ⟨_, l, c, rfl, a3, b1, b2, b3⟩ := a2'
  have hb := own_lt a1
  refine c_names_Names_Make ⟨rfl, ?_⟩
  simp (disch := (first | omega | (simp only [size_new, size_newm, size_wr, size_wrm] <;> omega) | fail)) only [go_sem, Nat.reduceBEq, Nat.reduceAdd, Nat.reduceMul, Nat.reduceLeDiff, ↓reduceIte, rd_new_lt, own_new_lt, mp_new_lt, rd_newm_lt, own_newm_lt, mp_newm_lt, rd_wr_ne, own_wr_ne, mp_wr_ne, rd_wrm_ne, own_wrm_ne, mp_wrm_ne, rd_new_eq, own_new_eq, mp_newm_eq, s_names_Names_Make]
  refine ⟨i64 ((len : Int) - 1), hl.mono fun _ _ h => ⟨h.out.1, h.out.2.symm⟩, ?_⟩
  simp (disch := (first | omega | (simp only [size_new, size_newm, size_wr, size_wrm] <;> omega) | fail)) only [go_sem, Nat.reduceBEq, Nat.reduceAdd, Nat.reduceMul, Nat.reduceLeDiff, ↓reduceIte, rd_new_lt, own_new_lt, mp_new_lt, rd_newm_lt, own_newm_lt, mp_newm_lt, rd_wr_ne, own_wr_ne, mp_wr_ne, rd_wrm_ne, own_wrm_ne, mp_wrm_ne, rd_new_eq, own_new_eq, mp_newm_eq, rd_of_own a1]
  refine Both.dec (fun h => ?_) (fun h => ?_) <;> simp (disch := (first | omega | (simp only [size_new, size_newm, size_wr, size_wrm] <;> omega) | fail)) only [go_sem, Nat.reduceBEq, Nat.reduceAdd, Nat.reduceMul, Nat.reduceLeDiff, ↓reduceIte, rd_new_lt, own_new_lt, mp_new_lt, rd_newm_lt, own_newm_lt, mp_newm_lt, rd_wr_ne, own_wr_ne, mp_wr_ne, rd_wrm_ne, own_wrm_ne, mp_wrm_ne, rd_new_eq, own_new_eq, mp_newm_eq, rd_of_own a1]
  · exact .inl ⟨h, rfl, rfl⟩
  · have hn : (H.new 3 [i64 len]).own b = some [.slice (some ⟨s, 0, none⟩) len c, i64 most, i64 cnt] := by rw [own_new_lt hb]; exact a1
    refine Sl.append (a2.ext ((Ext.refl (fun _ => False) H).new _ _) (fun _ _ h => h)) (Sl.lit H 3 1 1 [i64 len] rfl).rd rfl (allOne_ints [(len : Int)]) (by omega) ?_
    intro v' H2 fp' hs hext hfp
    have hn2 := hext.own hn (fun e => h1 (by injection e with e; exact e.symm))
    have hsz := hext.size
    rw [size_new] at hsz
    obtain ⟨s', rfl⟩ : ∃ s', fp' = some s' := by
      rcases hfp with h | ⟨x, h, _⟩
      · exact ⟨s, h⟩
      · exact ⟨x, h⟩
    have hs2 : s' = s ∨ (H.size ≤ s' ∧ s' < H2.size) := by
      rcases hfp with h | ⟨x, h, h5, h6⟩
      · injection h with h; exact .inl h
      · injection h with h; subst h; rw [size_new] at h5; exact .inr ⟨by omega, h6⟩
    have hbs : b ≠ s' := by
      rcases hs2 with h | h
      · rw [h]; exact h1
      · omega
    have hs' := hs
    obtain ⟨_, l', c', rfl, _⟩ := hs'
    simp (disch := (first | omega | (simp only [size_new, size_newm, size_wr, size_wrm] <;> omega) | fail)) only [go_sem, Nat.reduceBEq, Nat.reduceAdd, Nat.reduceMul, Nat.reduceLeDiff, ↓reduceIte, rd_new_lt, own_new_lt, mp_new_lt, rd_newm_lt, own_newm_lt, mp_newm_lt, rd_wr_ne, own_wr_ne, mp_wr_ne, rd_wrm_ne, own_wrm_ne, mp_wrm_ne, rd_new_eq, own_new_eq, mp_newm_eq, hn2, own_wr_same hn2, rd_wr_same hn2]
    refine .inr ⟨h, rfl, s', ⟨⟨_, into ++ [(len : Int)], _, own_wr_same hn2, by rw [List.map_append]; exact hs.ext ((Ext.refl (fun x => x = b) H2).wr (fun _ => rfl) _) (fun x e => by injection e with e; omega), ⟨d, ?_⟩, by simp [a5]⟩, hbs, ?_, h3⟩, ?_, ?_⟩
    · have := a4.make
      rw [a5] at this
      exact this
    · have : (len : Int) - 1 < most := by omega
      omega
    · refine Ext.wr (Ext.trans' ((Ext.refl (fun x => x = b ∨ x = s) H).new _ _) hext (fun x _ e => .inr (by injection e with e; exact e.symm))) (fun _ => .inl rfl) _
    · rcases hs2 with h | h
      · exact .inl h
      · exact .inr ⟨h.1, by rw [size_wr]; exact h.2⟩

theorem names_Join_spec {H : Hp} {b s len : Nat} {rt : Nat → Nat} {most : Int} (h : NamesAt H b s len rt most) (x y : Int) :
    CallH Try.prog n_names_Names_Join [ptr b, i64 x, i64 y] H fun v H' => Post (
      let ok := (0 < x ∧ x < len ∧ rt x.toNat = x.toNat) ∧ (0 < y ∧ y < len ∧ rt y.toNat = y.toNat) ∧ x ≠ y
      (¬ ok ∧ v = .bool false ∧ H = H') ∨
      (ok ∧ v = .bool true ∧ NamesAt H' b s len (fun i => if rt i = y.toNat then x.toNat else rt i) most ∧ Ext (fun z => z = b ∨ z = s) H H')) := by
  have hx := names_Has_spec h x
  have hy := names_Has_spec h y
  obtain ⟨⟨sv, into, cnt, a1, a2, ⟨d, a4⟩, a5⟩, h1, h2, h3⟩ := h
  obtain ⟨e0, l, c, rfl, a3, b1, b2, b3⟩ := a2
  refine c_names_Names_Join ⟨rfl, ?_⟩
  simp (disch := (first | omega | (simp only [size_new, size_newm, size_wr, size_wrm] <;> omega) | fail)) only [go_sem, Nat.reduceBEq, Nat.reduceAdd, Nat.reduceMul, Nat.reduceLeDiff, ↓reduceIte, rd_new_lt, own_new_lt, mp_new_lt, rd_newm_lt, own_newm_lt, mp_newm_lt, rd_wr_ne, own_wr_ne, mp_wr_ne, rd_wrm_ne, own_wrm_ne, mp_wrm_ne, rd_new_eq, own_new_eq, mp_newm_eq, s_names_Names_Join]
  refine hx.mono ?_
  rintro _ _ ⟨rfl, rfl⟩
  simp (disch := (first | omega | (simp only [size_new, size_newm, size_wr, size_wrm] <;> omega) | fail)) only [go_sem, Nat.reduceBEq, Nat.reduceAdd, Nat.reduceMul, Nat.reduceLeDiff, ↓reduceIte, rd_new_lt, own_new_lt, mp_new_lt, rd_newm_lt, own_newm_lt, mp_newm_lt, rd_wr_ne, own_wr_ne, mp_wr_ne, rd_wrm_ne, own_wrm_ne, mp_wrm_ne, rd_new_eq, own_new_eq, mp_newm_eq]
  refine Both.dec (fun hx => ?_) (fun hx => ?_) <;> simp (disch := (first | omega | (simp only [size_new, size_newm, size_wr, size_wrm] <;> omega) | fail)) only [go_sem, Nat.reduceBEq, Nat.reduceAdd, Nat.reduceMul, Nat.reduceLeDiff, ↓reduceIte, rd_new_lt, own_new_lt, mp_new_lt, rd_newm_lt, own_newm_lt, mp_newm_lt, rd_wr_ne, own_wr_ne, mp_wr_ne, rd_wrm_ne, own_wrm_ne, mp_wrm_ne, rd_new_eq, own_new_eq, mp_newm_eq]
  · refine hy.mono ?_
    rintro _ _ ⟨rfl, rfl⟩
    simp (disch := (first | omega | (simp only [size_new, size_newm, size_wr, size_wrm] <;> omega) | fail)) only [go_sem, Nat.reduceBEq, Nat.reduceAdd, Nat.reduceMul, Nat.reduceLeDiff, ↓reduceIte, rd_new_lt, own_new_lt, mp_new_lt, rd_newm_lt, own_newm_lt, mp_newm_lt, rd_wr_ne, own_wr_ne, mp_wr_ne, rd_wrm_ne, own_wrm_ne, mp_wrm_ne, rd_new_eq, own_new_eq, mp_newm_eq]
    refine Both.dec (fun hy => ?_) (fun hy => ?_) <;> simp (disch := (first | omega | (simp only [size_new, size_newm, size_wr, size_wrm] <;> omega) | fail)) only [go_sem, Nat.reduceBEq, Nat.reduceAdd, Nat.reduceMul, Nat.reduceLeDiff, ↓reduceIte, rd_new_lt, own_new_lt, mp_new_lt, rd_newm_lt, own_newm_lt, mp_newm_lt, rd_wr_ne, own_wr_ne, mp_wr_ne, rd_wrm_ne, own_wrm_ne, mp_wrm_ne, rd_new_eq, own_new_eq, mp_newm_eq]
    · refine Both.dec (fun hxy => ?_) (fun hxy => ?_) <;> simp (disch := (first | omega | (simp only [size_new, size_newm, size_wr, size_wrm] <;> omega) | fail)) only [go_sem, Nat.reduceBEq, Nat.reduceAdd, Nat.reduceMul, Nat.reduceLeDiff, ↓reduceIte, rd_new_lt, own_new_lt, mp_new_lt, rd_newm_lt, own_newm_lt, mp_newm_lt, rd_wr_ne, own_wr_ne, mp_wr_ne, rd_wrm_ne, own_wrm_ne, mp_wrm_ne, rd_new_eq, own_new_eq, mp_newm_eq]
      · exact .inl ⟨fun hc => hc.2.2 hxy, rfl, rfl⟩
      · have hs : Sl H 1 (.slice (some ⟨s, 0, none⟩) len c) len (into.map i64) (some s) := ⟨e0, l, c, rfl, a3, b1, b2, b3⟩
        simp (disch := (first | omega | (simp only [size_new, size_newm, size_wr, size_wrm] <;> omega) | fail)) only [go_sem, Nat.reduceBEq, Nat.reduceAdd, Nat.reduceMul, Nat.reduceLeDiff, ↓reduceIte, rd_new_lt, own_new_lt, mp_new_lt, rd_newm_lt, own_newm_lt, mp_newm_lt, rd_wr_ne, own_wr_ne, mp_wr_ne, rd_wrm_ne, own_wrm_ne, mp_wrm_ne, rd_new_eq, own_new_eq, mp_newm_eq, rd_of_own a1]
        refine ⟨by omega, ?_⟩
        have hlen : l.length = l.length := rfl
        have hll : len * 1 ≤ l.length := by omega
        simp (disch := (first | omega | (simp only [size_new, size_newm, size_wr, size_wrm] <;> omega) | fail)) only [go_sem, Nat.reduceBEq, Nat.reduceAdd, Nat.reduceMul, Nat.reduceLeDiff, ↓reduceIte, rd_new_lt, own_new_lt, mp_new_lt, rd_newm_lt, own_newm_lt, mp_newm_lt, rd_wr_ne, own_wr_ne, mp_wr_ne, rd_wrm_ne, own_wrm_ne, mp_wrm_ne, rd_new_eq, own_new_eq, mp_newm_eq, a3, Nat.mul_one]
        refine ⟨by omega, ?_⟩
        have hb2 : (H.wr s (l.set y.toNat (i64 x))).own b = some [.slice (some ⟨s, 0, none⟩) len c, i64 most, i64 cnt] := (own_wr_ne (Ne.symm h1)).trans a1
        simp (disch := (first | omega | (simp only [size_new, size_newm, size_wr, size_wrm] <;> omega) | fail)) only [go_sem, Nat.reduceBEq, Nat.reduceAdd, Nat.reduceMul, Nat.reduceLeDiff, ↓reduceIte, rd_new_lt, own_new_lt, mp_new_lt, rd_newm_lt, own_newm_lt, mp_newm_lt, rd_wr_ne, own_wr_ne, mp_wr_ne, rd_wrm_ne, own_wrm_ne, mp_wrm_ne, rd_new_eq, own_new_eq, mp_newm_eq, hb2, rd_of_own hb2]
        have hj := a4.join (a := x.toNat) (b := y.toNat) (by omega) (by omega) hx.2.2 hy.2.2 (by omega) (by omega) (by omega)
        rw [show ((x.toNat : Nat) : Int) = x by omega] at hj
        refine .inr ⟨⟨hx, hy, hxy⟩, rfl, ⟨⟨_, into.set y.toNat x, _, own_wr_same hb2, ?_, ⟨_, hj⟩, by simpa using a5⟩, h1, h2, h3⟩, ?_⟩
        · rw [List.map_set]
          exact (hs.set1 a3 y.toNat (i64 x)).ext ((Ext.refl (fun z => z = b) _).wr (fun _ => rfl) _) (fun z e => by injection e with e; omega)
        · exact ((Ext.refl _ _).wr (fun _ => .inr rfl) _).wr (fun _ => .inl rfl) _
    · exact .inl ⟨fun hc => hy hc.2.1, rfl, rfl⟩
  · exact .inl ⟨fun hc => hx hc.1, rfl, rfl⟩

theorem names_Root_spec {H : Hp} {b s len : Nat} {rt : Nat → Nat} {most : Int} (h : NamesAt H b s len rt most) (i : Int) :
    CallH Try.prog n_names_Names_Root [ptr b, i64 i] H fun v H' => Post (
      (¬ (0 < i ∧ i < len) ∧ v = .tuple [i64 0, .bool false].toArray ∧ H = H') ∨
      ((0 < i ∧ i < len) ∧ v = .tuple [i64 (rt i.toNat), .bool true].toArray ∧ NamesAt H' b s len rt most ∧ Ext (fun z => z = b ∨ z = s) H H')) := by
  have hm := names_made_spec h i
  refine c_names_Names_Root ⟨rfl, ?_⟩
  simp (disch := (first | omega | (simp only [size_new, size_newm, size_wr, size_wrm] <;> omega) | fail)) only [go_sem, Nat.reduceBEq, Nat.reduceAdd, Nat.reduceMul, Nat.reduceLeDiff, ↓reduceIte, rd_new_lt, own_new_lt, mp_new_lt, rd_newm_lt, own_newm_lt, mp_newm_lt, rd_wr_ne, own_wr_ne, mp_wr_ne, rd_wrm_ne, own_wrm_ne, mp_wrm_ne, rd_new_eq, own_new_eq, mp_newm_eq, s_names_Names_Root]
  refine hm.mono ?_
  rintro _ _ ⟨rfl, rfl⟩
  simp (disch := (first | omega | (simp only [size_new, size_newm, size_wr, size_wrm] <;> omega) | fail)) only [go_sem, Nat.reduceBEq, Nat.reduceAdd, Nat.reduceMul, Nat.reduceLeDiff, ↓reduceIte, rd_new_lt, own_new_lt, mp_new_lt, rd_newm_lt, own_newm_lt, mp_newm_lt, rd_wr_ne, own_wr_ne, mp_wr_ne, rd_wrm_ne, own_wrm_ne, mp_wrm_ne, rd_new_eq, own_new_eq, mp_newm_eq]
  refine Both.dec (fun hi => ?_) (fun hi => ?_) <;> simp (disch := (first | omega | (simp only [size_new, size_newm, size_wr, size_wrm] <;> omega) | fail)) only [go_sem, Nat.reduceBEq, Nat.reduceAdd, Nat.reduceMul, Nat.reduceLeDiff, ↓reduceIte, rd_new_lt, own_new_lt, mp_new_lt, rd_newm_lt, own_newm_lt, mp_newm_lt, rd_wr_ne, own_wr_ne, mp_wr_ne, rd_wrm_ne, own_wrm_ne, mp_wrm_ne, rd_new_eq, own_new_eq, mp_newm_eq]
  · obtain ⟨⟨sv, into, cnt, a1, a2, ⟨d, a4⟩, a5⟩, h1, h2, h3⟩ := h
    refine LoopV.intro (fun m env H1 => ∃ (k : Nat) (into : List Int) (sv : Value), env = [(0, ptr b), (1, i64 k)] ∧ k < len ∧ rt k = rt i.toNat ∧ d k = m ∧
      H1.own b = some [sv, i64 most, i64 cnt] ∧ Sl H1 1 sv len (into.map i64) (some s) ∧ Forest into rt d ∧ into.length = len ∧ Ext (fun z => z = b ∨ z = s) H H1) (d i.toNat)
      ⟨i.toNat, into, sv, by rw [show ((i.toNat : Nat) : Int) = i by omega], by omega, rfl, rfl, a1, a2, a4, a5, Ext.refl _ _⟩ ?_
    rintro m env H1 ⟨k, into, sv, rfl, k1, k2, rfl, c1, c2, c4, c5, cx⟩
    have c2' := c2
    obtain ⟨e0, l, c, rfl, c3, e1, e2, e3⟩ := c2'
    obtain ⟨j, j1, j2, j3, j4⟩ := forest_bound c4 (i := k) (by omega)
    simp (disch := (first | omega | (simp only [size_new, size_newm, size_wr, size_wrm] <;> omega) | fail)) only [go_sem, Nat.reduceBEq, Nat.reduceAdd, Nat.reduceMul, Nat.reduceLeDiff, ↓reduceIte, rd_new_lt, own_new_lt, mp_new_lt, rd_newm_lt, own_newm_lt, mp_newm_lt, rd_wr_ne, own_wr_ne, mp_wr_ne, rd_wrm_ne, own_wrm_ne, mp_wrm_ne, rd_new_eq, own_new_eq, mp_newm_eq, rd_of_own c1]
    refine ⟨by omega, ?_⟩
    have jl := into_get e3 j1
    simp (disch := (first | omega | (simp only [size_new, size_newm, size_wr, size_wrm] <;> omega) | fail)) only [go_sem, Nat.reduceBEq, Nat.reduceAdd, Nat.reduceMul, Nat.reduceLeDiff, ↓reduceIte, rd_new_lt, own_new_lt, mp_new_lt, rd_newm_lt, own_newm_lt, mp_newm_lt, rd_wr_ne, own_wr_ne, mp_wr_ne, rd_wrm_ne, own_wrm_ne, mp_wrm_ne, rd_new_eq, own_new_eq, mp_newm_eq, rd_of_own c3, Nat.mul_one, Int.toNat_natCast, jl]
    refine Both.dec (fun hjk => ?_) (fun hjk => ?_) <;> simp (disch := (first | omega | (simp only [size_new, size_newm, size_wr, size_wrm] <;> omega) | fail)) only [go_sem, Nat.reduceBEq, Nat.reduceAdd, Nat.reduceMul, Nat.reduceLeDiff, ↓reduceIte, rd_new_lt, own_new_lt, mp_new_lt, rd_newm_lt, own_newm_lt, mp_newm_lt, rd_wr_ne, own_wr_ne, mp_wr_ne, rd_wrm_ne, own_wrm_ne, mp_wrm_ne, rd_new_eq, own_new_eq, mp_newm_eq, rd_of_own c1]
    · refine .inr ⟨hi, ?_, ⟨⟨_, into, cnt, c1, c2, ⟨d, c4⟩, c5⟩, h1, h2, h3⟩, cx⟩
      have := j4.1 (by omega)
      rw [← k2, this]
      rfl
    · obtain ⟨k', g1, g2, g3, g4⟩ := forest_bound c4 (i := j) j2
      have gl := into_get e3 g1
      have hne : j ≠ k := by omega
      obtain ⟨f1, f2, f3, f4⟩ := c4.skip j1 g1 hne
      refine ⟨by omega, ?_⟩
      simp (disch := (first | omega | (simp only [size_new, size_newm, size_wr, size_wrm] <;> omega) | fail)) only [go_sem, Nat.reduceBEq, Nat.reduceAdd, Nat.reduceMul, Nat.reduceLeDiff, ↓reduceIte, rd_new_lt, own_new_lt, mp_new_lt, rd_newm_lt, own_newm_lt, mp_newm_lt, rd_wr_ne, own_wr_ne, mp_wr_ne, rd_wrm_ne, own_wrm_ne, mp_wrm_ne, rd_new_eq, own_new_eq, mp_newm_eq, rd_of_own c3, Nat.mul_one, Int.toNat_natCast, jl]
      refine ⟨by omega, ?_⟩
      simp (disch := (first | omega | (simp only [size_new, size_newm, size_wr, size_wrm] <;> omega) | fail)) only [go_sem, Nat.reduceBEq, Nat.reduceAdd, Nat.reduceMul, Nat.reduceLeDiff, ↓reduceIte, rd_new_lt, own_new_lt, mp_new_lt, rd_newm_lt, own_newm_lt, mp_newm_lt, rd_wr_ne, own_wr_ne, mp_wr_ne, rd_wrm_ne, own_wrm_ne, mp_wrm_ne, rd_new_eq, own_new_eq, mp_newm_eq, rd_of_own c3, Nat.mul_one, Int.toNat_natCast, gl]
      refine ⟨by omega, ?_⟩
      have hll : k < l.length := by omega
      simp (disch := (first | omega | (simp only [size_new, size_newm, size_wr, size_wrm] <;> omega) | fail)) only [go_sem, Nat.reduceBEq, Nat.reduceAdd, Nat.reduceMul, Nat.reduceLeDiff, ↓reduceIte, rd_new_lt, own_new_lt, mp_new_lt, rd_newm_lt, own_newm_lt, mp_newm_lt, rd_wr_ne, own_wr_ne, mp_wr_ne, rd_wrm_ne, own_wrm_ne, mp_wrm_ne, rd_new_eq, own_new_eq, mp_newm_eq, c3, Nat.mul_one, Int.toNat_natCast]
      refine ⟨by omega, ?_⟩
      have c1' : (H1.wr s (l.set k (i64 k'))).own b = some [.slice (some ⟨s, 0, none⟩) len c, i64 most, i64 cnt] := (own_wr_ne (Ne.symm h1)).trans c1
      have c3' : (H1.wr s (l.set k (i64 k'))).own s = some (l.set k (i64 k')) := own_wr_same c3
      have kl : (l.set k (i64 k'))[k]? = some (i64 k') := by rw [List.getElem?_set_self hll]
      simp (disch := (first | omega | (simp only [size_new, size_newm, size_wr, size_wrm] <;> omega) | fail)) only [go_sem, Nat.reduceBEq, Nat.reduceAdd, Nat.reduceMul, Nat.reduceLeDiff, ↓reduceIte, rd_new_lt, own_new_lt, mp_new_lt, rd_newm_lt, own_newm_lt, mp_newm_lt, rd_wr_ne, own_wr_ne, mp_wr_ne, rd_wrm_ne, own_wrm_ne, mp_wrm_ne, rd_new_eq, own_new_eq, mp_newm_eq, rd_of_own c1']
      refine ⟨by omega, ?_⟩
      simp (disch := (first | omega | (simp only [size_new, size_newm, size_wr, size_wrm] <;> omega) | fail)) only [go_sem, Nat.reduceBEq, Nat.reduceAdd, Nat.reduceMul, Nat.reduceLeDiff, ↓reduceIte, rd_new_lt, own_new_lt, mp_new_lt, rd_newm_lt, own_newm_lt, mp_newm_lt, rd_wr_ne, own_wr_ne, mp_wr_ne, rd_wrm_ne, own_wrm_ne, mp_wrm_ne, rd_new_eq, own_new_eq, mp_newm_eq, rd_of_own c3', Nat.mul_one, Int.toNat_natCast, kl]
      refine ⟨d k', f4, k', into.set k (k' : Int), _, rfl, by omega, f3.trans k2, rfl, c1, ?_, f1, by simpa using c5, cx.trans ((Ext.refl _ _).wr (fun _ => .inr rfl) _)⟩
      rw [List.map_set]
      exact c2.set1 c3 k (i64 k')
  · exact .inl ⟨hi, rfl, rfl⟩

end Go.Proofs.Ytbnaicgmnadkgaa
