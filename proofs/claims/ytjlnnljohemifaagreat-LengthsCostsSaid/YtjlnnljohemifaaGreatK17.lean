/-
  Texts put behind each other by a program: Base, Names, Sift, Clo.
-/
import Derived.Test.YtjlnnljohemifaaGreatK9
import Derived.Test.YtjlnnljohemifaaGreatK12
import Derived.Test.YtjlnnljohemifaaGreatK13
import Derived.Test.YtjlnnljohemifaaGreatK14
import Derived.Test.YtjlnnljohemifaaGreatK15
import Derived.Test.YtjlnnljohemifaaGreatK16
set_option linter.unusedVariables false
set_option linter.unusedSimpArgs false
namespace Go.Vc
open Go
theorem Zs : (∀ (H : Hp) (b : Nat) (l : List Value), (H.wr b l).size = H.size) ∧ (∀ (H : Hp) (b : Nat) (es : List MapEntry) (k : Nat), (H.wrm b es k).size = H.size) ∧ (∀ (H : Hp) (T : TypeId) (l : List Value), (H.new T l).size = H.size + 1) ∧ ∀ H : Hp, H.newm.size = H.size + 1 := ⟨size_wr, size_wrm, size_new, size_newm⟩
theorem Zv : (∀ {H : Hp} {b c : Nat} {l : List Value}, b ≠ c → (H.wr b l).rd c = H.rd c ∧ (H.wr b l).own c = H.own c ∧ (H.wr b l).mp c = H.mp c) ∧ (∀ {H : Hp} {b c : Nat} {es : List MapEntry} {k : Nat}, b ≠ c → (H.wrm b es k).rd c = H.rd c ∧ (H.wrm b es k).own c = H.own c ∧ (H.wrm b es k).mp c = H.mp c) ∧
  (∀ {H : Hp} {c : Nat} {T : TypeId} {l : List Value}, c < H.size → (H.new T l).rd c = H.rd c ∧ (H.new T l).own c = H.own c ∧ (H.new T l).mp c = H.mp c) ∧ (∀ {H : Hp} {c : Nat}, c < H.size → H.newm.rd c = H.rd c ∧ H.newm.own c = H.own c ∧ H.newm.mp c = H.mp c) ∧
  (∀ {H : Hp} {c : Nat} {T : TypeId} {l : List Value}, c = H.size → (H.new T l).rd c = some l ∧ (H.new T l).own c = some l) ∧ ∀ {H : Hp} {c : Nat}, c = H.size → H.newm.mp c = some ([], 0) :=
  ⟨fun h => ⟨rd_wr_ne h, own_wr_ne h, mp_wr_ne h⟩, fun h => ⟨rd_wrm_ne h, own_wrm_ne h, mp_wrm_ne h⟩, fun h => ⟨rd_new_lt h, own_new_lt h, mp_new_lt h⟩, fun h => ⟨rd_newm_lt h, own_newm_lt h, mp_newm_lt h⟩, fun h => ⟨rd_new_eq h, own_new_eq h⟩, fun h => mp_newm_eq h⟩
attribute [go_sem_proc] Nat.reduceBEq Nat.reduceAdd Nat.reduceMul Nat.reduceLeDiff
theorem vs {p q : Prop} (h : q) (e : p = q := by conv => lhs; simp (disch := (first | omega | (simp only [Zs] <;> omega) | fail)) only [go_sem, ↓reduceIte, Zv]) : p := e.mpr h
theorem v1 {p q a0 : Prop} (x0 : a0) (h : q) (e : a0 → p = q := by intro y0; conv => lhs; simp (disch := (first | omega | (simp only [Zs] <;> omega) | fail)) only [go_sem, ↓reduceIte, Zv, y0]) : p := (e x0).mpr h
theorem v2 {p q a0 a1 : Prop} (x0 : a0) (x1 : a1) (h : q) (e : a0 → a1 → p = q := by intro y0 y1; conv => lhs; simp (disch := (first | omega | (simp only [Zs] <;> omega) | fail)) only [go_sem, ↓reduceIte, Zv, y0, y1]) : p := (e x0 x1).mpr h
theorem v3 {p q a0 a1 a2 : Prop} (x0 : a0) (x1 : a1) (x2 : a2) (h : q) (e : a0 → a1 → a2 → p = q := by intro y0 y1 y2; conv => lhs; simp (disch := (first | omega | (simp only [Zs] <;> omega) | fail)) only [go_sem, ↓reduceIte, Zv, y0, y1, y2]) : p := (e x0 x1 x2).mpr h
theorem v4 {p q a0 a1 a2 a3 : Prop} (x0 : a0) (x1 : a1) (x2 : a2) (x3 : a3) (h : q) (e : a0 → a1 → a2 → a3 → p = q := by intro y0 y1 y2 y3; conv => lhs; simp (disch := (first | omega | (simp only [Zs] <;> omega) | fail)) only [go_sem, ↓reduceIte, Zv, y0, y1, y2, y3]) : p := (e x0 x1 x2 x3).mpr h
theorem v5 {p q a0 a1 a2 a3 a4 : Prop} (x0 : a0) (x1 : a1) (x2 : a2) (x3 : a3) (x4 : a4) (h : q) (e : a0 → a1 → a2 → a3 → a4 → p = q := by intro y0 y1 y2 y3 y4; conv => lhs; simp (disch := (first | omega | (simp only [Zs] <;> omega) | fail)) only [go_sem, ↓reduceIte, Zv, y0, y1, y2, y3, y4]) : p := (e x0 x1 x2 x3 x4).mpr h
theorem v6 {p q a0 a1 a2 a3 a4 a5 : Prop} (x0 : a0) (x1 : a1) (x2 : a2) (x3 : a3) (x4 : a4) (x5 : a5) (h : q) (e : a0 → a1 → a2 → a3 → a4 → a5 → p = q := by intro y0 y1 y2 y3 y4 y5; conv => lhs; simp (disch := (first | omega | (simp only [Zs] <;> omega) | fail)) only [go_sem, ↓reduceIte, Zv, y0, y1, y2, y3, y4, y5]) : p := (e x0 x1 x2 x3 x4 x5).mpr h
theorem v9 {p q a0 a1 a2 a3 a4 a5 a6 a7 a8 : Prop} (x0 : a0) (x1 : a1) (x2 : a2) (x3 : a3) (x4 : a4) (x5 : a5) (x6 : a6) (x7 : a7) (x8 : a8) (h : q) (e : a0 → a1 → a2 → a3 → a4 → a5 → a6 → a7 → a8 → p = q := by intro y0 y1 y2 y3 y4 y5 y6 y7 y8; conv => lhs; simp (disch := (first | omega | (simp only [Zs] <;> omega) | fail)) only [go_sem, ↓reduceIte, Zv, y0, y1, y2, y3, y4, y5, y6, y7, y8]) : p := (e x0 x1 x2 x3 x4 x5 x6 x7 x8).mpr h
theorem v11 {p q a0 a1 a2 a3 a4 a5 a6 a7 a8 a9 a10 : Prop} (x0 : a0) (x1 : a1) (x2 : a2) (x3 : a3) (x4 : a4) (x5 : a5) (x6 : a6) (x7 : a7) (x8 : a8) (x9 : a9) (x10 : a10) (h : q) (e : a0 → a1 → a2 → a3 → a4 → a5 → a6 → a7 → a8 → a9 → a10 → p = q := by intro y0 y1 y2 y3 y4 y5 y6 y7 y8 y9 y10; conv => lhs; simp (disch := (first | omega | (simp only [Zs] <;> omega) | fail)) only [go_sem, ↓reduceIte, Zv, y0, y1, y2, y3, y4, y5, y6, y7, y8, y9, y10]) : p := (e x0 x1 x2 x3 x4 x5 x6 x7 x8 x9 x10).mpr h
end Go.Vc
namespace Go.Proofs.YtjlnnljohemifaaGreat
open Go Go.Vc
abbrev i64 (n : Int) : Value := .int .i64 n
abbrev ptr (b : Nat) : Value := .pointer (some ⟨b, 0, none⟩)
abbrev u64 (n : Int) : Value := .int .u64 n
abbrev ent (k s : Int) : Value := .agg [i64 k, u64 s].toArray
structure Forest (into : List Int) (rt d : Nat → Nat) : Prop where
  pos : 0 < into.length
  low : ∀ i, i < into.length → rt i < into.length
  idem : ∀ i, i < into.length → rt (rt i) = rt i
  step : ∀ i, i < into.length → ∃ j : Nat, into[i]? = some (j : Int) ∧ j < into.length ∧ rt j = rt i ∧ (j = i ↔ rt i = i) ∧ (j ≠ i → d j < d i)
  zero : rt 0 = 0
  nz : ∀ i, i < into.length → rt i = 0 → i = 0
structure NamesAt (H : Hp) (b s : Nat) (len : Nat) (rt : Nat → Nat) (most : Int) : Prop where
  rep : ∃ sv into cnt, H.own b = some [sv, i64 most, i64 cnt] ∧ Sl H 1 sv len (into.map i64) (some s) ∧ (∃ d, Forest into rt d) ∧ into.length = len
  ne : b ≠ s
  le : (len : Int) - 1 ≤ most
  most : 0 ≤ most ∧ most ≤ 65536
theorem NamesAt.ext {H H' : Hp} {b s len : Nat} {rt : Nat → Nat} {most : Int} {S : Nat → Prop} (h : NamesAt H b s len rt most) (e : Ext S H H') (h1 : ¬ S b) (h2 : ¬ S s) : NamesAt H' b s len rt most := by
  obtain ⟨⟨sv, into, cnt, a1, a2, a3, a4⟩, h3, h4, h5⟩ := h
  exact ⟨⟨sv, into, cnt, e.own a1 h1, a2.ext e (fun x hx => by injection hx with hx; exact hx ▸ h2), a3, a4⟩, h3, h4, h5⟩
theorem names_New_spec (most : Int) (H : Hp) : CallH Tryz.prog n_names_New [i64 most] H fun v H' => Post (
    Fresh H H' ∧ ((¬ (0 ≤ most ∧ most ≤ 65536) ∧ v = .tuple [.pointer none, i64 31].toArray) ∨
      (0 ≤ most ∧ most ≤ 65536) ∧ ∃ b s, v = .tuple [ptr b, i64 0].toArray ∧ NamesAt H' b s 1 id most ∧ H.size ≤ b ∧ H.size ≤ s ∧ b < H'.size ∧ s < H'.size)) := by
  refine ccT d_names_New ⟨rfl, ?_⟩
  refine v1 s_names_New.eq_1 ?_
  refine Both.dec (fun h => ?_) (fun h => ?_) <;> refine vs ?_
  · exact ⟨Ext.refl _ _, .inl ⟨by omega, rfl⟩⟩
  · refine Both.dec (fun h2 => ?_) (fun h2 => ?_) <;> refine vs ?_
    · exact ⟨Ext.refl _ _, .inl ⟨by omega, rfl⟩⟩
    · refine ⟨((Ext.refl _ _).new _ _).new _ _, .inr ⟨by omega, _, _, rfl, ⟨⟨_, [0], 0, by rw [← size_new H 3 [Value.int .i64 0]]; exact own_new _ _ _,
        (Sl.lit H 3 1 1 [i64 0] rfl).ext ((Ext.refl (fun _ => False) _).new _ _) (fun _ _ h => h), ?_, rfl⟩, ?_, by omega, by omega⟩, ?_, ?_, ?_, ?_⟩⟩
      · exact ⟨fun _ => 0, by simp, fun i hi => hi, fun i hi => rfl, fun i hi => ⟨0, by simp at hi; subst hi; rfl, by simp, by simp at hi; subst hi; rfl, by simp at hi; subst hi; simp, by simp at hi; subst hi; simp⟩, rfl, fun i hi h => h⟩
      all_goals (try simp only [size_new]); omega
theorem forest_bound {into : List Int} {rt d : Nat → Nat} (h : Forest into rt d) {i : Nat} (hi : i < into.length) : ∃ j : Nat, into[i]? = some (j : Int) ∧ j < into.length ∧ rt j = rt i ∧ (j = i ↔ rt i = i) := by
  have hd := h.step
  obtain ⟨j, h1, h2, h3, h4, _⟩ := hd i hi
  exact ⟨j, h1, h2, h3, h4⟩
theorem names_Last_spec {H : Hp} {b s len : Nat} {rt : Nat → Nat} {most : Int} (h : NamesAt H b s len rt most) : CallH Tryz.prog n_names_Names_Last [ptr b] H fun v H' => Post (v = i64 ((len : Int) - 1) ∧ H = H') := by
  obtain ⟨⟨sv, into, cnt, a1, ⟨a2, l, c, rfl, a3⟩, a4, a5⟩, h1, h2, h3⟩ := h
  refine ccT d_names_Names_Last ⟨rfl, ?_⟩
  refine v2 s_names_Names_Last.eq_1 (rd_of_own a1) ?_
  rw [wrap64 (by omega) (by omega)]
  exact ⟨rfl, rfl⟩
theorem names_made_spec {H : Hp} {b s len : Nat} {rt : Nat → Nat} {most : Int} (h : NamesAt H b s len rt most) (i : Int) : CallH Tryz.prog n_names_Names_made [ptr b, i64 i] H fun v H' => Post (v = .bool (decide (0 < i ∧ i < len)) ∧ H = H') := by
  obtain ⟨⟨sv, into, cnt, a1, ⟨a2, l, c, rfl, a3⟩, a4, a5⟩, h1, h2, h3⟩ := h
  refine ccT d_names_Names_made ⟨rfl, ?_⟩
  refine v1 s_names_Names_made.eq_1 ?_
  refine Both.dec (fun h => ?_) (fun h => ?_) <;> refine v1 (rd_of_own a1) ?_
  · refine ⟨congrArg Value.bool ?_, rfl⟩
    rw [decide_eq_decide]; omega
  · exact ⟨congrArg Value.bool (decide_eq_false (by omega)).symm, rfl⟩
theorem into_get {into : List Int} {l : List Value} {n : Nat} (h : l.take (n * 1) = into.map i64) {i j : Nat} (hj : into[i]? = some (j : Int)) : l[i]? = some (i64 j) := by
  have h1 : (into.map i64)[i]? = some (i64 j) := by simp [hj]
  rw [← h] at h1
  rw [List.getElem?_take] at h1
  split at h1
  · exact h1
  · cases h1
theorem names_Has_spec {H : Hp} {b s len : Nat} {rt : Nat → Nat} {most : Int} (h : NamesAt H b s len rt most) (i : Int) :
    CallH Tryz.prog n_names_Names_Has [ptr b, i64 i] H fun v H' => Post (v = .bool (decide (0 < i ∧ i < len ∧ rt i.toNat = i.toNat)) ∧ H = H') := by
  have hm := names_made_spec h i
  obtain ⟨⟨sv, into, cnt, a1, ⟨a2, l, c, rfl, a3, b1, b2, b3⟩, ⟨d, a4⟩, a5⟩, h1, h2, h3⟩ := h
  refine ccT d_names_Names_Has ⟨rfl, ?_⟩
  refine v1 s_names_Names_Has.eq_1 ?_
  refine hm.mono ?_
  rintro _ _ ⟨rfl, rfl⟩
  refine vs ?_
  refine Both.dec (fun h => ?_) (fun h => ?_) <;> refine v1 (rd_of_own a1) ?_
  · obtain ⟨j, e1, e2, e3, e4⟩ := forest_bound a4 (i := i.toNat) (by omega)
    refine ⟨by omega, ?_⟩
    refine v3 (rd_of_own a3) Nat.mul_one (into_get b3 e1) ?_
    refine ⟨congrArg Value.bool ?_, rfl⟩
    rw [decide_eq_decide]
    constructor
    · intro hh; exact ⟨h.1, h.2, e4.1 (by omega)⟩
    · rintro ⟨_, _, hh⟩; have := e4.2 hh; omega
  · exact ⟨congrArg Value.bool (decide_eq_false (by omega)).symm, rfl⟩
theorem Forest.make {into : List Int} {rt d : Nat → Nat} (h : Forest into rt d) : Forest (into ++ [(into.length : Int)]) (fun i => if i = into.length then i else rt i) d := by
  have hd := h.step
  have hp := h.pos
  refine ⟨by simp, fun i hi => ?_, fun i hi => ?_, fun i hi => ?_, ?_, fun i hi hz => ?_⟩
  · simp only [List.length_append, List.length_cons, List.length_nil] at hi ⊢
    split
    · omega
    · have := h.low i (by omega); omega
  · simp only [List.length_append, List.length_cons, List.length_nil] at hi
    by_cases e : i = into.length
    · simp [e]
    · have h1 := h.low i (by omega)
      simp only [if_neg e, if_neg (show rt i ≠ into.length by omega)]
      exact h.idem i (by omega)
  · simp only [List.length_append, List.length_cons, List.length_nil] at hi
    by_cases e : i = into.length
    · subst e
      exact ⟨into.length, by simp, by simp, by simp, by simp, by simp⟩
    · obtain ⟨j, h1, h2, h3, h4, h5⟩ := hd i (by omega)
      refine ⟨j, by rw [List.getElem?_append_left (by omega)]; exact h1, by simp; omega, ?_, ?_, h5⟩
      · simp only [if_neg e, if_neg (show j ≠ into.length by omega)]; exact h3
      · simp only [if_neg e]; exact h4
  · simp only [if_neg (show (0 : Nat) ≠ into.length by omega)]; exact h.zero
  · simp only [List.length_append, List.length_cons, List.length_nil] at hi
    by_cases e : i = into.length
    · simp only [e, if_true] at hz; omega
    · simp only [if_neg e] at hz; exact h.nz i (by omega) hz
theorem Forest.skip {into : List Int} {rt d : Nat → Nat} (h : Forest into rt d) {i j k : Nat} (hi : into[i]? = some (j : Int)) (hj : into[j]? = some (k : Int)) (hne : j ≠ i) :
    Forest (into.set i (k : Int)) rt d ∧ k < into.length ∧ rt k = rt i ∧ d k < d i := by
  have hd := h.step
  have hil : i < into.length := (List.getElem?_eq_some_iff.1 hi).1
  have hjl : j < into.length := (List.getElem?_eq_some_iff.1 hj).1
  obtain ⟨j', e1, e2, e3, e4, e5⟩ := hd i hil
  rw [hi] at e1
  have ej : j' = j := by injection e1 with e1; omega
  subst ej
  obtain ⟨k', f1, f2, f3, f4, f5⟩ := hd j' hjl
  rw [hj] at f1
  have ek : k' = k := by injection f1 with f1; omega
  subst ek
  have hdk : d k' ≤ d j' := by
    by_cases e : k' = j'
    · rw [e]; omega
    · exact Nat.le_of_lt (f5 e)
  have hdj := e5 hne
  have hki : k' ≠ i := fun e => by rw [e] at hdk; omega
  refine ⟨⟨by simpa using h.pos, fun x hx => by simp only [List.length_set] at hx ⊢; exact h.low x hx, fun x hx => h.idem x (by simpa using hx), fun x hx => ?_, h.zero, fun x hx => h.nz x (by simpa using hx)⟩, f2, f3.trans e3, by omega⟩
  simp only [List.length_set] at hx
  by_cases e : x = i
  · subst e
    refine ⟨k', by simp [hx], by simpa using f2, f3.trans e3, ?_, fun _ => by omega⟩
    constructor
    · intro hh; exact absurd hh hki
    · intro hh; exact absurd (e4.2 hh) hne
  · obtain ⟨y, y1, y2, y3, y4, y5⟩ := hd x hx
    exact ⟨y, by rw [List.getElem?_set_ne (Ne.symm e)]; exact y1, by simpa using y2, y3, y4, y5⟩
theorem allOne_ints (l : List Int) : allOne (l.map i64) := by
  intro v hv
  obtain ⟨x, _, rfl⟩ := List.mem_map.1 hv
  rfl
theorem names_Make_spec {H : Hp} {b s len : Nat} {rt : Nat → Nat} {most : Int} (h : NamesAt H b s len rt most) :
    CallH Tryz.prog n_names_Names_Make [ptr b] H fun v H' => Post (
      ((len : Int) - 1 = most ∧ v = .tuple [i64 0, .bool false].toArray ∧ H = H') ∨
      ((len : Int) - 1 ≠ most ∧ v = .tuple [i64 len, .bool true].toArray ∧ ∃ s', NamesAt H' b s' (len + 1) (fun i => if i = len then i else rt i) most ∧ Ext (fun x => x = b ∨ x = s) H H' ∧ (s' = s ∨ (H.size ≤ s' ∧ s' < H'.size)))) := by
  have hl := names_Last_spec h
  obtain ⟨⟨sv, into, cnt, a1, a2, ⟨d, a4⟩, a5⟩, h1, h2, h3⟩ := h
  have a2' := a2
  obtain ⟨_, l, c, rfl, a3, b1, b2, b3⟩ := a2'
  have hb := own_lt a1
  refine ccT d_names_Names_Make ⟨rfl, ?_⟩
  refine v1 s_names_Names_Make.eq_1 ?_
  refine ⟨i64 ((len : Int) - 1), hl.mono fun _ _ h => ⟨h.out.1, h.out.2.symm⟩, ?_⟩
  refine v1 (rd_of_own a1) ?_
  refine Both.dec (fun h => ?_) (fun h => ?_) <;> refine v1 (rd_of_own a1) ?_
  · exact .inl ⟨h, rfl, rfl⟩
  · have hn : (H.new 3 [i64 len]).own b = some [.slice (some ⟨s, 0, none⟩) len c, i64 most, i64 cnt] := by rw [own_new_lt hb]; exact a1
    refine Sl.append (a2.ext ((Ext.refl (fun _ => False) H).new _ _) (fun _ _ h => h)) (Sl.lit H 3 1 1 [i64 len] rfl).rd rfl (allOne_ints [(len : Int)]) (by omega) ?_
    intro v' H2 fp' hs hext hfp
    have hn2 := hext.own hn (fun e => h1 (by injection e with e; exact e.symm))
    have hsz := hext.size
    rw [size_new] at hsz
    obtain ⟨s', rfl⟩ : ∃ s', fp' = some s' := by
      rcases hfp with h | ⟨x, h, _⟩
      · exact ⟨s, h⟩
      · exact ⟨x, h⟩
    have hs2 : s' = s ∨ (H.size ≤ s' ∧ s' < H2.size) := by
      rcases hfp with h | ⟨x, h, h5, h6⟩
      · injection h with h; exact .inl h
      · injection h with h; subst h; rw [size_new] at h5; exact .inr ⟨by omega, h6⟩
    have hbs : b ≠ s' := by
      rcases hs2 with h | h
      · rw [h]; exact h1
      · omega
    have hs' := hs
    obtain ⟨_, l', c', rfl, _⟩ := hs'
    simp (disch := (first | omega | (simp only [Zs] <;> omega) | fail)) only [go_sem, ↓reduceIte, Zv, hn2, own_wr_same hn2, rd_wr_same hn2]
    refine .inr ⟨h, rfl, s', ⟨⟨_, into ++ [(len : Int)], _, own_wr_same hn2, by rw [List.map_append]; exact hs.ext ((Ext.refl (fun x => x = b) H2).wr (fun _ => rfl) _) (fun x e => by injection e with e; omega), ⟨d, ?_⟩, by simp [a5]⟩, hbs, ?_, h3⟩, ?_, ?_⟩
    · have := a4.make
      rw [a5] at this
      exact this
    · have : (len : Int) - 1 < most := by omega
      omega
    · refine Ext.wr (Ext.trans' ((Ext.refl (fun x => x = b ∨ x = s) H).new _ _) hext (fun x _ e => .inr (by injection e with e; exact e.symm))) (fun _ => .inl rfl) _
    · rcases hs2 with h | h
      · exact .inl h
      · exact .inr ⟨h.1, by rw [size_wr]; exact h.2⟩
theorem names_Root_spec {H : Hp} {b s len : Nat} {rt : Nat → Nat} {most : Int} (h : NamesAt H b s len rt most) (i : Int) :
    CallH Tryz.prog n_names_Names_Root [ptr b, i64 i] H fun v H' => Post (
      (¬ (0 < i ∧ i < len) ∧ v = .tuple [i64 0, .bool false].toArray ∧ H = H') ∨
      ((0 < i ∧ i < len) ∧ v = .tuple [i64 (rt i.toNat), .bool true].toArray ∧ NamesAt H' b s len rt most ∧ Ext (fun z => z = b ∨ z = s) H H')) := by
  have hm := names_made_spec h i
  refine ccT d_names_Names_Root ⟨rfl, ?_⟩
  refine v1 s_names_Names_Root.eq_1 ?_
  refine hm.mono ?_
  rintro _ _ ⟨rfl, rfl⟩
  refine vs ?_
  refine Both.dec (fun hi => ?_) (fun hi => ?_) <;> refine vs ?_
  · obtain ⟨⟨sv, into, cnt, a1, a2, ⟨d, a4⟩, a5⟩, h1, h2, h3⟩ := h
    refine LoopV.intro (fun m env H1 => ∃ (k : Nat) (into : List Int) (sv : Value), env = [(0, ptr b), (1, i64 k)] ∧ k < len ∧ rt k = rt i.toNat ∧ d k = m ∧
      H1.own b = some [sv, i64 most, i64 cnt] ∧ Sl H1 1 sv len (into.map i64) (some s) ∧ Forest into rt d ∧ into.length = len ∧ Ext (fun z => z = b ∨ z = s) H H1) (d i.toNat)
      ⟨i.toNat, into, sv, by rw [show ((i.toNat : Nat) : Int) = i by omega], by omega, rfl, rfl, a1, a2, a4, a5, Ext.refl _ _⟩ ?_
    rintro m env H1 ⟨k, into, sv, rfl, k1, k2, rfl, c1, c2, c4, c5, cx⟩
    have c2' := c2
    obtain ⟨e0, l, c, rfl, c3, e1, e2, e3⟩ := c2'
    obtain ⟨j, j1, j2, j3, j4⟩ := forest_bound c4 (i := k) (by omega)
    refine v1 (rd_of_own c1) ?_
    refine ⟨by omega, ?_⟩
    have jl := into_get e3 j1
    refine v4 (rd_of_own c3) Nat.mul_one Int.toNat_natCast jl ?_
    refine Both.dec (fun hjk => ?_) (fun hjk => ?_) <;> refine v1 (rd_of_own c1) ?_
    · refine .inr ⟨hi, ?_, ⟨⟨_, into, cnt, c1, c2, ⟨d, c4⟩, c5⟩, h1, h2, h3⟩, cx⟩
      have := j4.1 (by omega)
      rw [← k2, this]
      rfl
    · obtain ⟨k', g1, g2, g3, g4⟩ := forest_bound c4 (i := j) j2
      have gl := into_get e3 g1
      have hne : j ≠ k := by omega
      obtain ⟨f1, f2, f3, f4⟩ := c4.skip j1 g1 hne
      refine ⟨by omega, ?_⟩
      refine v4 (rd_of_own c3) Nat.mul_one Int.toNat_natCast jl ?_
      refine ⟨by omega, ?_⟩
      refine v4 (rd_of_own c3) Nat.mul_one Int.toNat_natCast gl ?_
      refine ⟨by omega, ?_⟩
      have hll : k < l.length := by omega
      refine v3 c3 Nat.mul_one Int.toNat_natCast ?_
      refine ⟨by omega, ?_⟩
      have c1' : (H1.wr s (l.set k (i64 k'))).own b = some [.slice (some ⟨s, 0, none⟩) len c, i64 most, i64 cnt] := (own_wr_ne (Ne.symm h1)).trans c1
      have c3' : (H1.wr s (l.set k (i64 k'))).own s = some (l.set k (i64 k')) := own_wr_same c3
      have kl : (l.set k (i64 k'))[k]? = some (i64 k') := by rw [List.getElem?_set_self hll]
      refine v1 (rd_of_own c1') ?_
      refine ⟨by omega, ?_⟩
      refine v4 (rd_of_own c3') Nat.mul_one Int.toNat_natCast kl ?_
      refine ⟨d k', f4, k', into.set k (k' : Int), _, rfl, by omega, f3.trans k2, rfl, c1, ?_, f1, by simpa using c5, cx.trans ((Ext.refl _ _).wr (fun _ => .inr rfl) _)⟩
      rw [List.map_set]
      exact c2.set1 c3 k (i64 k')
  · exact .inl ⟨hi, rfl, rfl⟩
def FineD (d : Int) : Prop := 2 ≤ d ∧ d ≤ 16
instance (d : Int) : Decidable (FineD d) := inferInstanceAs (Decidable (_ ∧ _))
theorem sift_fine_spec (d : Int) (H : Hp) : CallH Tryz.prog n_sift_fine [i64 d] H fun v H' => Post (v = .bool (decide (FineD d)) ∧ H = H') := by
  refine ccT d_sift_fine ⟨rfl, ?_⟩
  refine v1 s_sift_fine.eq_1 ?_
  refine Both.dec (fun h => ?_) (fun h => ?_) <;> refine vs ?_
  · exact ⟨congrArg Value.bool (by rw [decide_eq_decide]; unfold FineD; omega), rfl⟩
  · exact ⟨congrArg Value.bool (decide_eq_false (by unfold FineD; omega)).symm, rfl⟩
def parentF (d i : Int) : Option Int := if FineD d ∧ 1 ≤ i then some ((i - 1) / d) else none
def twoF (o : Option Int) : Value := match o with | some n => .tuple [i64 n, .bool true].toArray | none => .tuple [i64 0, .bool false].toArray
theorem parentF_lt {d i p : Int} (h : parentF d i = some p) : 0 ≤ p ∧ p < i := by
  unfold parentF at h
  split at h
  · rename_i hc
    injection h with h
    have h0 := hc.1.1
    have : 0 ≤ (i - 1) / d := Int.ediv_nonneg (by omega) (by omega)
    have h1 : (i - 1) / d ≤ i - 1 := Int.ediv_le_self _ (by omega)
    omega
  · cases h
theorem quo_wrap {d i : Int} (hd : 2 ≤ d) (h1 : 1 ≤ i) (hi : i ≤ 9223372036854775807) : IntKind.i64.wrap ((i - 1).tdiv d) = (i - 1) / d := by
  rw [Int.tdiv_eq_ediv_of_nonneg (by omega)]
  have : 0 ≤ (i - 1) / d := Int.ediv_nonneg (by omega) (by omega)
  have h1 : (i - 1) / d ≤ i - 1 := Int.ediv_le_self _ (by omega)
  exact wrap64 (by omega) (by omega)
theorem sift_Parent_spec (d i : Int) (hi : i ≤ 9223372036854775807) (H : Hp) : CallH Tryz.prog n_sift_Parent [i64 d, i64 i] H fun v H' => Post (v = twoF (parentF d i) ∧ H = H') := by
  refine ccT d_sift_Parent ⟨rfl, ?_⟩
  refine v1 s_sift_Parent.eq_1 ?_
  refine (sift_fine_spec d H).mono ?_
  rintro _ _ ⟨rfl, rfl⟩
  refine vs ?_
  refine Both.dec (fun hf => ?_) (fun hf => ?_) <;> refine vs ?_
  · refine Both.dec (fun h1 => ?_) (fun h1 => ?_) <;> refine vs ?_
    · exact ⟨by rw [parentF, if_neg (by omega)]; rfl, rfl⟩
    · have h0 := hf.1
      rw [if_neg (by omega), wrap64 (n := i - 1) (by omega) (by omega), quo_wrap hf.1 (by omega) hi]
      refine vs ?_
      exact ⟨by rw [parentF, if_pos ⟨hf, by omega⟩]; rfl, rfl⟩
  · exact ⟨by rw [parentF, if_neg (fun h => hf h.1)]; rfl, rfl⟩
def childF (d i k : Int) : Option Int := if FineD d ∧ 0 ≤ i ∧ i ≤ 1099511627776 ∧ 1 ≤ k ∧ k ≤ d then some (d * i + k) else none
theorem childF_bound {d i k : Int} (hf : FineD d) (h0 : 0 ≤ i) (h1 : i ≤ 1099511627776) (hk : 1 ≤ k) (hd : k ≤ d) : 0 ≤ d * i ∧ d * i ≤ 17592186044416 := by
  obtain ⟨a, b⟩ := hf
  refine ⟨Int.mul_nonneg (by omega) h0, ?_⟩
  have : d * i ≤ 16 * i := Int.mul_le_mul_of_nonneg_right b h0
  omega
theorem sift_Child_spec (d i k : Int) (H : Hp) : CallH Tryz.prog n_sift_Child [i64 d, i64 i, i64 k] H fun v H' => Post (v = twoF (childF d i k) ∧ H = H') := by
  refine ccT d_sift_Child ⟨rfl, ?_⟩
  refine v1 s_sift_Child.eq_1 ?_
  refine (sift_fine_spec d H).mono ?_
  rintro _ _ ⟨rfl, rfl⟩
  refine vs ?_
  refine Both.dec (fun hf => ?_) (fun hf => ?_) <;> refine vs ?_
  · refine Both.dec (fun h1 => ?_) (fun h1 => ?_) <;> refine vs ?_
    · exact ⟨by rw [childF, if_neg (by omega)]; rfl, rfl⟩
    · refine Both.dec (fun h2 => ?_) (fun h2 => ?_) <;> refine vs ?_
      · exact ⟨by rw [childF, if_neg (by omega)]; rfl, rfl⟩
      · refine Both.dec (fun h3 => ?_) (fun h3 => ?_) <;> refine vs ?_
        · exact ⟨by rw [childF, if_neg (by omega)]; rfl, rfl⟩
        · refine Both.dec (fun h4 => ?_) (fun h4 => ?_) <;> refine vs ?_
          · exact ⟨by rw [childF, if_neg (by omega)]; rfl, rfl⟩
          · have hb := childF_bound (i := i) hf (by omega) (by omega) (by omega : 1 ≤ k) (by omega : k ≤ d)
            have hd := hf.2
            rw [wrap64 (n := d * i) (by omega) (by omega), wrap64 (by omega) (by omega)]
            exact ⟨by rw [childF, if_pos ⟨hf, by omega, by omega, by omega, by omega⟩]; rfl, rfl⟩
  · exact ⟨by rw [childF, if_neg (fun h => hf h.1)]; rfl, rfl⟩
def upF (d : Int) : Nat → Int → Nat
  | 0, _ => 0
  | m + 1, i => match parentF d i with | some p => upF d m p + 1 | none => 0
theorem upF_more (d : Int) : ∀ (m m' : Nat) (i : Int), i.toNat ≤ m → i.toNat ≤ m' → upF d m i = upF d m' i := by
  intro m
  induction m with
  | zero =>
    intro m' i h _
    have hn : parentF d i = none := by unfold parentF; rw [if_neg (by omega)]
    cases m' <;> simp [upF, hn]
  | succ m ih =>
    intro m' i h h'
    cases hp : parentF d i with
    | none => cases m' <;> simp [upF, hp]
    | some p =>
      have hb := parentF_lt hp
      cases m' with
      | zero => omega
      | succ m' => simp only [upF, hp]; rw [ih m' p (by omega) (by omega)]
theorem upF_some {d i p : Int} (h : parentF d i = some p) (m : Nat) (hm : i.toNat ≤ m) : upF d m i = upF d p.toNat p + 1 := by
  have hb := parentF_lt h
  obtain ⟨q, hq⟩ : ∃ q, m = q + 1 := ⟨m - 1, by omega⟩
  subst hq
  simp only [upF, h]
  rw [upF_more d q p.toNat p (by omega) (by omega)]
theorem parent_of_child {d i j : Int} (hd : 2 ≤ d) (hi : 0 ≤ i) (h1 : 1 ≤ j) (h2 : j ≤ d) : (d * i + j - 1) / d = i := by
  rw [show d * i + j - 1 = (j - 1) + d * i by omega, Int.add_mul_ediv_left _ _ (by omega), Int.ediv_eq_zero_of_lt (by omega) (by omega)]
  omega
theorem twoF_eq (o : Option Int) : twoF o = .tuple [i64 (o.getD 0), .bool o.isSome].toArray := by cases o <;> rfl
end Go.Proofs.YtjlnnljohemifaaGreat

namespace Go.Vc
open Go
theorem callH_ofC {P : Program} (hm : P.follows .mixedOrders = true) {f : FuncId} {an : List Ann} {F : Fn} (hd : decFn P f an = some F) {args : List Value} {H : Hp} {K : Value → Hp → Prop} {nt : Nat} (ht : (P.funcs[f]?).map (·.ntmps) = some nt) (hlen : args.length ≤ nt)
    (h : Go.Vc.vc P F.body (argsEnv 0 args) H (fun env H => resV env H F.res fun vs => K (tup vs) H) (fun _ _ _ => False) (fun env H => resV env H F.res fun vs => K (tup vs) H)) : CallH P f args H K := by
  unfold decFn at hd
  split at hd
  · cases hd
  · rename_i fn hf
    split at hd
    · cases hd
    · rename_i c hb
      split at hd
      · rename_i s hs
        split at hd
        · rename_i hle
          cases hr : decRes P fn.results.toList with
          | none => rw [hr] at hd; cases hd
          | some rs =>
            rw [hr] at hd
            simp only [Option.map_some, Option.some.injEq] at hd
            subst hd
            simp only at h
            rw [hf] at ht
            simp only [Option.map_some, Option.some.injEq] at ht
            intro w hw
            subst hw
            refine calls_of_wp hf hb ?_
            have hh : Holds (argsEnv 0 args) { tmps := args.toArray ++ Array.replicate (fn.ntmps - args.toArray.size) undef, defers := [] } fn.ntmps := by
              refine ⟨by simp; omega, rfl, fun k v hk => ?_⟩
              obtain ⟨_, h2⟩ := find_args args 0 k v hk
              have hlt : k < args.length := by
                rcases Nat.lt_or_ge k args.length with h' | h'
                · exact h'
                · simp [List.getElem?_eq_none h'] at h2
              rw [Array.getElem?_append_left (by simpa using hlt)]
              simpa using h2
            have hres : ∀ env' a' w', Same w w' → Holds env' a' fn.ntmps → resV env' w'.heap rs (fun vs => K (tup vs) w'.heap) →
                a'.defers = [] ∧ ∃ v, (results fn a'.tmps).run P w' = .ok v w' ∧ (∃ v_1, Ending.returned v = Ending.returned v_1 ∧ Same w w' ∧ K v_1 w'.heap) := by
              intro env' a' w' hsm hh' hk
              obtain ⟨vs, hF, hrun⟩ := runs_results (P := P) hh' fn.results.toList rs _ hr hk
              refine ⟨hh'.defers, tup vs, ?_, _, rfl, hsm, hF⟩
              change (do let vs ← fn.results.mapM (resSem a'.tmps); pure (if h : vs.size = 1 then vs[0] else .tuple vs) : Sem Value).run P w' = _
              rw [Array.mapM_eq_mapM_toList]
              simp only [Sem.run_bind, Sem.run_map, hrun, Result.andThen_ok, Sem.run_pure]
              congr 1
              cases vs with
              | nil => rfl
              | cons x r => cases r with
                | nil => rfl
                | cons y r => simp [tup]
            refine wp_of_vc hm c an s [] hs _ _ w _ _ _ _ hh h ?_ ?_ ?_
            · exact fun env' a' w' hsm hh' hk => hres env' a' w' hsm hh' hk
            · exact fun _ _ _ _ _ _ hk => hk.elim
            · exact fun env' a' w' hsm hh' hk => hres env' a' w' hsm hh' hk
        · cases hd
      · cases hd
end Go.Vc
