/-
  Whatever tells where slots are, beside the document's nest: that all is as it should be.
-/
import Derived.Test.YteicchpglnamcaaRef05
import Derived.Test.YteicchpglnamcaaMeth
set_option linter.unusedVariables false
set_option linter.unusedSimpArgs false
namespace Go.Proofs.Yteicchpglnamcaa
open Go Go.Vc

/-- What tells where slots are: a value with methods, what holds of its memory (I), which of it may turn (U), the nest that it tells. -/
structure TellerS (ov : Value) (I : Hp → Prop) (U : Nat → Prop) (w : Nw) : Prop where
  entry : ∀ H (i : Int), I H → InvH Try.prog ov "Entry" [i64 i] H fun v H' => I H' ∧ Ext U H H' ∧ ((¬ InC w.cs i ∧ v = .tuple [ent 0 0, .bool false].toArray) ∨ (InC w.cs i ∧ ∃ x, w.cs[i.toNat]? = some x ∧ v = .tuple [ent x.2.1 x.2.2, .bool true].toArray))
  home : ∀ H (i : Int), I H → InvH Try.prog ov "Home" [i64 i] H fun v H' => I H' ∧ Ext U H H' ∧ ((¬ InC w.cs i ∧ v = .tuple [i64 0, .bool false].toArray) ∨ (InC w.cs i ∧ ∃ x, w.cs[i.toNat]? = some x ∧ v = .tuple [i64 x.1, .bool true].toArray))
  has : ∀ H (i : Int), I H → InvH Try.prog ov "Has" [i64 i] H fun v H' => v = .bool (decide (w.has i)) ∧ H = H'
  len : ∀ H (i : Int), I H → InvH Try.prog ov "Len" [i64 i] H fun v H' => v = i64 (w.len i) ∧ H = H'
  keep : ∀ H H' V, I H → Ext V H H' → (∀ x, U x → ¬ V x) → I H'
  ult : ∀ H, I H → ∀ x, U x → x < H.size

theorem eqVs_cell (a k s a' k' s' : Int) : eqVs [(0, none, .int), (1, some 2, .s [(0, none, .int), (1, none, .int)])] [i64 a, i64 k, u64 s] [i64 a', i64 k', u64 s'] = some (decide (a = a' ∧ k = k' ∧ s = s')) := by
  by_cases h0 : a = a' <;> by_cases h1 : k = k' <;> by_cases h2 : s = s' <;> simp [eqVs, partL, eqV, simpleEq, h0, h1, h2]

theorem NestR.cells {H : Hp} {ha ca : Option Addr} {hc cc : Nat} {w : Nw} {A : Nat → Prop} (h : NestR H (.agg [.slice ha w.hs.length hc, .slice ca w.cs.length cc].toArray) w A) : RdS H 3 (.slice ca w.cs.length cc) w.cs.length (flatC w.cs) := by
  obtain ⟨ha', hc', ca', cc', e, h1, h2, _⟩ := h
  simp at e
  obtain ⟨⟨rfl, rfl⟩, rfl, rfl⟩ := e
  exact h2

abbrev act (kind h x k s : Int) : Value := .agg [i64 kind, i64 h, i64 x, i64 k, u64 s].toArray

set_option maxHeartbeats 1000000 in
theorem law05_looks_spec {ov : Value} {I : Hp → Prop} {U : Nat → Prop} {w : Nw} (ho : TellerS ov I U w) {H : Hp} (hI : I H) {wv : Value} {A : Nat → Prop} (hn : NestR H wv w A) (hA : ∀ b, A b → ¬ U b) (kind h x k s : Int) :
    CallH Try.prog n_law05_looks [ov, wv, act kind h x k s] H fun v H' => Post (v = .bool true ∧ I H' ∧ Ext U H H') := by
  have hn' := hn
  obtain ⟨ha, hc, ca, cc, rfl, h1, h2, h3, h4, a1, a2⟩ := hn'
  refine c_law05_looks ⟨rfl, ?_⟩
  simp (disch := (first | omega | (simp only [size_new, size_newm, size_wr, size_wrm] <;> omega) | fail)) only [go_sem, Nat.reduceBEq, Nat.reduceAdd, Nat.reduceMul, Nat.reduceLeDiff, ↓reduceIte, rd_new_lt, own_new_lt, mp_new_lt, rd_newm_lt, own_newm_lt, mp_newm_lt, rd_wr_ne, own_wr_ne, mp_wr_ne, rd_wrm_ne, own_wrm_ne, mp_wrm_ne, rd_new_eq, own_new_eq, mp_newm_eq, s_law05_looks, act]
  have f0 : Fresh H ((H.new 108 [.slice ha w.hs.length hc, .slice ca w.cs.length cc]).new 72 [i64 kind, i64 h, i64 x, i64 k, u64 s]) := ((Ext.refl _ _).new _ _).new _ _
  have o0 : ((H.new 108 [.slice ha w.hs.length hc, .slice ca w.cs.length cc]).new 72 [i64 kind, i64 h, i64 x, i64 k, u64 s]).own H.size = some [.slice ha w.hs.length hc, .slice ca w.cs.length cc] := by rw [own_new_lt (by simp only [size_new]; omega), own_new]
  have o1 : ((H.new 108 [.slice ha w.hs.length hc, .slice ca w.cs.length cc]).new 72 [i64 kind, i64 h, i64 x, i64 k, u64 s]).own (H.size + 1) = some [i64 kind, i64 h, i64 x, i64 k, u64 s] := by rw [own_new_eq (by simp only [size_new])]
  have i0 : I ((H.new 108 [.slice ha w.hs.length hc, .slice ca w.cs.length cc]).new 72 [i64 kind, i64 h, i64 x, i64 k, u64 s]) := ho.keep _ _ _ hI f0 (fun _ _ h => h)
  have hu : ∀ z, U z → z < H.size := ho.ult H hI
  generalize (H.new 108 [.slice ha w.hs.length hc, .slice ca w.cs.length cc]).new 72 [i64 kind, i64 h, i64 x, i64 k, u64 s] = H0 at *
  have n0 := hn.fresh f0
  have nu0 : ¬ U H.size := fun h => by have := hu _ h; omega
  have nu1 : ¬ U (H.size + 1) := fun h => by have := hu _ h; omega
  refine InvH.mono (ho.entry H0 x i0) ?_
  rintro ev H1 ⟨i1, e1, hent⟩
  have n1 := n0.ext e1 hA
  have p0 := e1.own o0 nu0
  have p1 := e1.own o1 nu1
  obtain ⟨ek, es, eok, rfl, hek⟩ : ∃ (ek es : Int) (eok : Bool), ev = .tuple [ent ek es, .bool eok].toArray ∧ ((eok = false ∧ ¬ InC w.cs x ∧ ek = 0 ∧ es = 0) ∨ (eok = true ∧ InC w.cs x ∧ ∃ c, w.cs[x.toNat]? = some c ∧ ek = c.2.1 ∧ es = c.2.2)) := by
    rcases hent with ⟨h, rfl⟩ | ⟨h, c, hc, rfl⟩
    · exact ⟨_, _, _, rfl, .inl ⟨rfl, h, rfl, rfl⟩⟩
    · exact ⟨_, _, _, rfl, .inr ⟨rfl, h, c, hc, rfl, rfl⟩⟩
  have f2 : Fresh H1 ((H1.new 70 [.int .i64 0, .int .u64 0]).wr H1.size [i64 ek, u64 es]) := ((Ext.refl _ _).new _ _).wr (fun h => absurd h (Nat.lt_irrefl _)) _
  have b2 : ((H1.new 70 [.int .i64 0, .int .u64 0]).wr H1.size [i64 ek, u64 es]).own H1.size = some [i64 ek, u64 es] := own_wr_same (own_new _ _ _)
  have i2 := ho.keep _ _ _ i1 f2 (fun _ _ h => h)
  have z0 := f0.size
  have z1 := e1.size
  have nu2 : ¬ U H1.size := fun h => by have := hu _ h; omega
  simp (disch := (first | omega | (simp only [size_new, size_newm, size_wr, size_wrm] <;> omega) | fail)) only [go_sem, Nat.reduceBEq, Nat.reduceAdd, Nat.reduceMul, Nat.reduceLeDiff, ↓reduceIte, rd_new_lt, own_new_lt, mp_new_lt, rd_newm_lt, own_newm_lt, mp_newm_lt, rd_wr_ne, own_wr_ne, mp_wr_ne, rd_wrm_ne, own_wrm_ne, mp_wrm_ne, rd_new_eq, own_new_eq, mp_newm_eq, ent, rd_of_own p1]
  generalize (H1.new 70 [.int .i64 0, .int .u64 0]).wr H1.size [i64 ek, u64 es] = H2 at *
  have q0 := f2.own p0 (fun h => h)
  have q1 := f2.own p1 (fun h => h)
  have n2 := n1.fresh f2
  simp (disch := (first | omega | (simp only [size_new, size_newm, size_wr, size_wrm] <;> omega) | fail)) only [go_sem, Nat.reduceBEq, Nat.reduceAdd, Nat.reduceMul, Nat.reduceLeDiff, ↓reduceIte, rd_new_lt, own_new_lt, mp_new_lt, rd_newm_lt, own_newm_lt, mp_newm_lt, rd_wr_ne, own_wr_ne, mp_wr_ne, rd_wrm_ne, own_wrm_ne, mp_wrm_ne, rd_new_eq, own_new_eq, mp_newm_eq, rd_of_own q1]
  refine InvH.mono (ho.home H2 x i2) ?_
  rintro hv H3 ⟨i3, e3, hhome⟩
  have n3 := n2.ext e3 hA
  have r0 := e3.own q0 nu0
  have r1 := e3.own q1 nu1
  have r2 := e3.own b2 nu2
  obtain ⟨hx, hok, rfl, hhx⟩ : ∃ (hx : Int) (hok : Bool), hv = .tuple [i64 hx, .bool hok].toArray ∧ ((hok = false ∧ ¬ InC w.cs x ∧ hx = 0) ∨ (hok = true ∧ InC w.cs x ∧ ∃ c, w.cs[x.toNat]? = some c ∧ hx = c.1)) := by
    rcases hhome with ⟨h, rfl⟩ | ⟨h, c, hc, rfl⟩
    · exact ⟨_, _, rfl, .inl ⟨rfl, h, rfl⟩⟩
    · exact ⟨_, _, rfl, .inr ⟨rfl, h, c, hc, rfl⟩⟩
  simp (disch := (first | omega | (simp only [size_new, size_newm, size_wr, size_wrm] <;> omega) | fail)) only [go_sem, Nat.reduceBEq, Nat.reduceAdd, Nat.reduceMul, Nat.reduceLeDiff, ↓reduceIte, rd_new_lt, own_new_lt, mp_new_lt, rd_newm_lt, own_newm_lt, mp_newm_lt, rd_wr_ne, own_wr_ne, mp_wr_ne, rd_wrm_ne, own_wrm_ne, mp_wrm_ne, rd_new_eq, own_new_eq, mp_newm_eq, rd_of_own r0, rd_of_own r1]
  refine (ref05_In_spec n3 x).mono ?_
  rintro _ H4 ⟨rfl, f4⟩
  have n4 := n3.fresh f4
  have i4 := ho.keep _ _ _ i3 f4 (fun _ _ h => h)
  have s0 := f4.own r0 (fun h => h)
  have s1 := f4.own r1 (fun h => h)
  have s2 := f4.own r2 (fun h => h)
  have x04 : Ext U H H4 := (((((f0.mono fun _ _ h => h.elim).trans e1).trans (f2.mono fun _ _ h => h.elim)).trans e3).trans (f4.mono fun _ _ h => h.elim))
  simp (disch := (first | omega | (simp only [size_new, size_newm, size_wr, size_wrm] <;> omega) | fail)) only [go_sem, Nat.reduceBEq, Nat.reduceAdd, Nat.reduceMul, Nat.reduceLeDiff, ↓reduceIte, rd_new_lt, own_new_lt, mp_new_lt, rd_newm_lt, own_newm_lt, mp_newm_lt, rd_wr_ne, own_wr_ne, mp_wr_ne, rd_wrm_ne, own_wrm_ne, mp_wrm_ne, rd_new_eq, own_new_eq, mp_newm_eq]
  refine InvV.intro (fun H' => H'.own H.size = some [.slice ha w.hs.length hc, .slice ca w.cs.length cc] ∧ H'.own (H.size + 1) = some [i64 kind, i64 h, i64 x, i64 k, u64 s]) ⟨s0, s1⟩ ?_
  have heok : eok = decide (InC w.cs x) := by
    rcases hek with ⟨rfl, h, _⟩ | ⟨rfl, h, _⟩
    · exact (decide_eq_false h).symm
    · exact (decide_eq_true h).symm
  have hhok : hok = decide (InC w.cs x) := by
    rcases hhx with ⟨rfl, h, _⟩ | ⟨rfl, h, _⟩
    · exact (decide_eq_false h).symm
    · exact (decide_eq_true h).symm
  rw [heok, hhok]
  simp (disch := (first | omega | (simp only [size_new, size_newm, size_wr, size_wrm] <;> omega) | fail)) only [go_sem, Nat.reduceBEq, Nat.reduceAdd, Nat.reduceMul, Nat.reduceLeDiff, ↓reduceIte, rd_new_lt, own_new_lt, mp_new_lt, rd_newm_lt, own_newm_lt, mp_newm_lt, rd_wr_ne, own_wr_ne, mp_wr_ne, rd_wrm_ne, own_wrm_ne, mp_wrm_ne, rd_new_eq, own_new_eq, mp_newm_eq, beq_self_eq_true]
  refine StbV.intro (.agg [.slice ha w.hs.length hc, .slice ca w.cs.length cc].toArray) (fun H' hI => ?_) ?_
  · simp (disch := (first | omega | (simp only [size_new, size_newm, size_wr, size_wrm] <;> omega) | fail)) only [go_sem, Nat.reduceBEq, Nat.reduceAdd, Nat.reduceMul, Nat.reduceLeDiff, ↓reduceIte, rd_new_lt, own_new_lt, mp_new_lt, rd_newm_lt, own_newm_lt, mp_newm_lt, rd_wr_ne, own_wr_ne, mp_wr_ne, rd_wrm_ne, own_wrm_ne, mp_wrm_ne, rd_new_eq, own_new_eq, mp_newm_eq, rd_of_own hI.1]
    exact ⟨trivial, trivial⟩
  simp (disch := (first | omega | (simp only [size_new, size_newm, size_wr, size_wrm] <;> omega) | fail)) only [go_sem, Nat.reduceBEq, Nat.reduceAdd, Nat.reduceMul, Nat.reduceLeDiff, ↓reduceIte, rd_new_lt, own_new_lt, mp_new_lt, rd_newm_lt, own_newm_lt, mp_newm_lt, rd_wr_ne, own_wr_ne, mp_wr_ne, rd_wrm_ne, own_wrm_ne, mp_wrm_ne, rd_new_eq, own_new_eq, mp_newm_eq]
  refine StbV.intro (i64 h) (fun H' hI => ?_) ?_
  · simp (disch := (first | omega | (simp only [size_new, size_newm, size_wr, size_wrm] <;> omega) | fail)) only [go_sem, Nat.reduceBEq, Nat.reduceAdd, Nat.reduceMul, Nat.reduceLeDiff, ↓reduceIte, rd_new_lt, own_new_lt, mp_new_lt, rd_newm_lt, own_newm_lt, mp_newm_lt, rd_wr_ne, own_wr_ne, mp_wr_ne, rd_wrm_ne, own_wrm_ne, mp_wrm_ne, rd_new_eq, own_new_eq, mp_newm_eq, rd_of_own hI.2]
    exact ⟨trivial, trivial⟩
  simp (disch := (first | omega | (simp only [size_new, size_newm, size_wr, size_wrm] <;> omega) | fail)) only [go_sem, Nat.reduceBEq, Nat.reduceAdd, Nat.reduceMul, Nat.reduceLeDiff, ↓reduceIte, rd_new_lt, own_new_lt, mp_new_lt, rd_newm_lt, own_newm_lt, mp_newm_lt, rd_wr_ne, own_wr_ne, mp_wr_ne, rd_wrm_ne, own_wrm_ne, mp_wrm_ne, rd_new_eq, own_new_eq, mp_newm_eq, rd_of_own s1]
  refine And.intro ⟨s0, s1⟩ ?_
  simp (disch := (first | omega | (simp only [size_new, size_newm, size_wr, size_wrm] <;> omega) | fail)) only [go_sem, Nat.reduceBEq, Nat.reduceAdd, Nat.reduceMul, Nat.reduceLeDiff, ↓reduceIte, rd_new_lt, own_new_lt, mp_new_lt, rd_newm_lt, own_newm_lt, mp_newm_lt, rd_wr_ne, own_wr_ne, mp_wr_ne, rd_wrm_ne, own_wrm_ne, mp_wrm_ne, rd_new_eq, own_new_eq, mp_newm_eq]
  refine InvH.mono (ho.has H4 h i4) ?_
  rintro _ H5 ⟨rfl, rfl⟩
  refine And.intro ⟨s0, s1⟩ ?_
  simp (disch := (first | omega | (simp only [size_new, size_newm, size_wr, size_wrm] <;> omega) | fail)) only [go_sem, Nat.reduceBEq, Nat.reduceAdd, Nat.reduceMul, Nat.reduceLeDiff, ↓reduceIte, rd_new_lt, own_new_lt, mp_new_lt, rd_newm_lt, own_newm_lt, mp_newm_lt, rd_wr_ne, own_wr_ne, mp_wr_ne, rd_wrm_ne, own_wrm_ne, mp_wrm_ne, rd_new_eq, own_new_eq, mp_newm_eq]
  refine (ref05_Has_spec n4 h).mono ?_
  rintro _ H5 ⟨rfl, f5⟩
  have n5 := n4.fresh f5
  have i5 := ho.keep _ _ _ i4 f5 (fun _ _ h => h)
  have t0 := f5.own s0 (fun h => h)
  have t1 := f5.own s1 (fun h => h)
  have t2 := f5.own s2 (fun h => h)
  refine And.intro ⟨t0, t1⟩ ?_
  simp (disch := (first | omega | (simp only [size_new, size_newm, size_wr, size_wrm] <;> omega) | fail)) only [go_sem, Nat.reduceBEq, Nat.reduceAdd, Nat.reduceMul, Nat.reduceLeDiff, ↓reduceIte, rd_new_lt, own_new_lt, mp_new_lt, rd_newm_lt, own_newm_lt, mp_newm_lt, rd_wr_ne, own_wr_ne, mp_wr_ne, rd_wrm_ne, own_wrm_ne, mp_wrm_ne, rd_new_eq, own_new_eq, mp_newm_eq, beq_self_eq_true]
  refine StbV.intro (.agg [.slice ha w.hs.length hc, .slice ca w.cs.length cc].toArray) (fun H' hI => ?_) ?_
  · simp (disch := (first | omega | (simp only [size_new, size_newm, size_wr, size_wrm] <;> omega) | fail)) only [go_sem, Nat.reduceBEq, Nat.reduceAdd, Nat.reduceMul, Nat.reduceLeDiff, ↓reduceIte, rd_new_lt, own_new_lt, mp_new_lt, rd_newm_lt, own_newm_lt, mp_newm_lt, rd_wr_ne, own_wr_ne, mp_wr_ne, rd_wrm_ne, own_wrm_ne, mp_wrm_ne, rd_new_eq, own_new_eq, mp_newm_eq, rd_of_own hI.1]
    exact ⟨trivial, trivial⟩
  simp (disch := (first | omega | (simp only [size_new, size_newm, size_wr, size_wrm] <;> omega) | fail)) only [go_sem, Nat.reduceBEq, Nat.reduceAdd, Nat.reduceMul, Nat.reduceLeDiff, ↓reduceIte, rd_new_lt, own_new_lt, mp_new_lt, rd_newm_lt, own_newm_lt, mp_newm_lt, rd_wr_ne, own_wr_ne, mp_wr_ne, rd_wrm_ne, own_wrm_ne, mp_wrm_ne, rd_new_eq, own_new_eq, mp_newm_eq]
  refine StbV.intro (i64 h) (fun H' hI => ?_) ?_
  · simp (disch := (first | omega | (simp only [size_new, size_newm, size_wr, size_wrm] <;> omega) | fail)) only [go_sem, Nat.reduceBEq, Nat.reduceAdd, Nat.reduceMul, Nat.reduceLeDiff, ↓reduceIte, rd_new_lt, own_new_lt, mp_new_lt, rd_newm_lt, own_newm_lt, mp_newm_lt, rd_wr_ne, own_wr_ne, mp_wr_ne, rd_wrm_ne, own_wrm_ne, mp_wrm_ne, rd_new_eq, own_new_eq, mp_newm_eq, rd_of_own hI.2]
    exact ⟨trivial, trivial⟩
  simp (disch := (first | omega | (simp only [size_new, size_newm, size_wr, size_wrm] <;> omega) | fail)) only [go_sem, Nat.reduceBEq, Nat.reduceAdd, Nat.reduceMul, Nat.reduceLeDiff, ↓reduceIte, rd_new_lt, own_new_lt, mp_new_lt, rd_newm_lt, own_newm_lt, mp_newm_lt, rd_wr_ne, own_wr_ne, mp_wr_ne, rd_wrm_ne, own_wrm_ne, mp_wrm_ne, rd_new_eq, own_new_eq, mp_newm_eq, rd_of_own t1]
  refine And.intro ⟨t0, t1⟩ ?_
  simp (disch := (first | omega | (simp only [size_new, size_newm, size_wr, size_wrm] <;> omega) | fail)) only [go_sem, Nat.reduceBEq, Nat.reduceAdd, Nat.reduceMul, Nat.reduceLeDiff, ↓reduceIte, rd_new_lt, own_new_lt, mp_new_lt, rd_newm_lt, own_newm_lt, mp_newm_lt, rd_wr_ne, own_wr_ne, mp_wr_ne, rd_wrm_ne, own_wrm_ne, mp_wrm_ne, rd_new_eq, own_new_eq, mp_newm_eq]
  refine InvH.mono (ho.len H5 h i5) ?_
  rintro _ H6 ⟨rfl, rfl⟩
  refine And.intro ⟨t0, t1⟩ ?_
  simp (disch := (first | omega | (simp only [size_new, size_newm, size_wr, size_wrm] <;> omega) | fail)) only [go_sem, Nat.reduceBEq, Nat.reduceAdd, Nat.reduceMul, Nat.reduceLeDiff, ↓reduceIte, rd_new_lt, own_new_lt, mp_new_lt, rd_newm_lt, own_newm_lt, mp_newm_lt, rd_wr_ne, own_wr_ne, mp_wr_ne, rd_wrm_ne, own_wrm_ne, mp_wrm_ne, rd_new_eq, own_new_eq, mp_newm_eq]
  refine (ref05_Len_spec n5 h).mono ?_
  rintro _ H6 ⟨rfl, f6⟩
  have n6 := n5.fresh f6
  have i6 := ho.keep _ _ _ i5 f6 (fun _ _ h => h)
  have u0 := f6.own t0 (fun h => h)
  have u1 := f6.own t1 (fun h => h)
  have u2 := f6.own t2 (fun h => h)
  have x06 : Ext U H H6 := (x04.trans (f5.mono fun _ _ h => h.elim)).trans (f6.mono fun _ _ h => h.elim)
  refine And.intro ⟨u0, u1⟩ ?_
  simp (disch := (first | omega | (simp only [size_new, size_newm, size_wr, size_wrm] <;> omega) | fail)) only [go_sem, Nat.reduceBEq, Nat.reduceAdd, Nat.reduceMul, Nat.reduceLeDiff, ↓reduceIte, rd_new_lt, own_new_lt, mp_new_lt, rd_newm_lt, own_newm_lt, mp_newm_lt, rd_wr_ne, own_wr_ne, mp_wr_ne, rd_wrm_ne, own_wrm_ne, mp_wrm_ne, rd_new_eq, own_new_eq, mp_newm_eq, beq_self_eq_true, decide_true]
  by_cases hin : InC w.cs x
  · obtain ⟨c, hc0, he1, he2⟩ : ∃ c, w.cs[x.toNat]? = some c ∧ ek = c.2.1 ∧ es = c.2.2 := by
      rcases hek with ⟨_, h, _⟩ | ⟨_, _, h⟩
      · exact absurd hin h
      · exact h
    obtain ⟨c', hc0', hh1⟩ : ∃ c, w.cs[x.toNat]? = some c ∧ hx = c.1 := by
      rcases hhx with ⟨_, h, _⟩ | ⟨_, _, h⟩
      · exact absurd hin h
      · exact h
    rw [hc0] at hc0'
    injection hc0' with hc0'
    subst hc0' he1 he2 hh1
    obtain ⟨b, o, l, hca, c1, c2, c3, c4, c5, c6, c7, c8⟩ := RdS.cell n6.cells hc0
    have hlt : x.toNat < w.cs.length := by
      rcases Nat.lt_or_ge x.toNat w.cs.length with h | h
      · exact h
      · rw [List.getElem?_eq_none h] at hc0; cases hc0
    simp (disch := (first | omega | (simp only [size_new, size_newm, size_wr, size_wrm] <;> omega) | fail)) only [go_sem, Nat.reduceBEq, Nat.reduceAdd, Nat.reduceMul, Nat.reduceLeDiff, ↓reduceIte, rd_new_lt, own_new_lt, mp_new_lt, rd_newm_lt, own_newm_lt, mp_newm_lt, rd_wr_ne, own_wr_ne, mp_wr_ne, rd_wrm_ne, own_wrm_ne, mp_wrm_ne, rd_new_eq, own_new_eq, mp_newm_eq, decide_eq_true hin, rd_of_own u0, rd_of_own u1, rd_of_own u2, hca]
    have hx0 : 0 ≤ x ∧ x < (w.cs.length : Int) := ⟨hin.1, by have := hin.1; omega⟩
    refine ⟨hx0, ?_⟩
    simp (disch := (first | omega | (simp only [size_new, size_newm, size_wr, size_wrm] <;> omega) | fail)) only [go_sem, Nat.reduceBEq, Nat.reduceAdd, Nat.reduceMul, Nat.reduceLeDiff, ↓reduceIte, rd_new_lt, own_new_lt, mp_new_lt, rd_newm_lt, own_newm_lt, mp_newm_lt, rd_wr_ne, own_wr_ne, mp_wr_ne, rd_wrm_ne, own_wrm_ne, mp_wrm_ne, rd_new_eq, own_new_eq, mp_newm_eq, c1]
    refine ⟨c3, ?_⟩
    simp (disch := (first | omega | (simp only [size_new, size_newm, size_wr, size_wrm] <;> omega) | fail)) only [go_sem, Nat.reduceBEq, Nat.reduceAdd, Nat.reduceMul, Nat.reduceLeDiff, ↓reduceIte, rd_new_lt, own_new_lt, mp_new_lt, rd_newm_lt, own_newm_lt, mp_newm_lt, rd_wr_ne, own_wr_ne, mp_wr_ne, rd_wrm_ne, own_wrm_ne, mp_wrm_ne, rd_new_eq, own_new_eq, mp_newm_eq, rd_of_own u2, c7, eqVs_cell, and_self, decide_true, Option.map_some]
    exact ⟨rfl, i6, x06⟩
  · obtain ⟨he1, he2⟩ : ek = 0 ∧ es = 0 := by
      rcases hek with ⟨_, _, h⟩ | ⟨_, h, _⟩
      · exact h
      · exact absurd h hin
    have hh1 : hx = 0 := by
      rcases hhx with ⟨_, _, h⟩ | ⟨_, h, _⟩
      · exact h
      · exact absurd h hin
    subst he1 he2 hh1
    simp (disch := (first | omega | (simp only [size_new, size_newm, size_wr, size_wrm] <;> omega) | fail)) only [go_sem, Nat.reduceBEq, Nat.reduceAdd, Nat.reduceMul, Nat.reduceLeDiff, ↓reduceIte, rd_new_lt, own_new_lt, mp_new_lt, rd_newm_lt, own_newm_lt, mp_newm_lt, rd_wr_ne, own_wr_ne, mp_wr_ne, rd_wrm_ne, own_wrm_ne, mp_wrm_ne, rd_new_eq, own_new_eq, mp_newm_eq, decide_eq_false hin, rd_of_own u0, rd_of_own u1, rd_of_own u2, eqVs_ent, and_self, decide_true, Option.map_some]
    exact ⟨rfl, i6, x06⟩

end Go.Proofs.Yteicchpglnamcaa
